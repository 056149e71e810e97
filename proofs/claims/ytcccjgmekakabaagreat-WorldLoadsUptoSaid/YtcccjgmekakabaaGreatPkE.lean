/-
  Part 5 of the proof:WorldLoads of layer 6 is true of the given program for every input that its guards let in (of bulk at most 1048576).
-/
import Derived.Test.YtcccjgmekakabaaGreatPkD
import Derived.RangeFuncNested
import Derived.RangeFuncLeaves
import Derived.OrdersIn
import Derived.TacticsIn
import Derived.Sort.LoopGhostIn
import Derived.Lib.AppendZeros
set_option linter.unusedSimpArgs false
set_option linter.unusedVariables false
set_option maxRecDepth 100000
section
namespace Go.Proofs.YtcccjgmekakabaaGreat.FI
open F
open Go Go.Den Go.Proofs
abbrev iv (i:Int):List Value:= [.int .i64 i]
abbrev bv (b:Bool):List Value:= [.bool b]
abbrev dz (x:Int×Int):List Value:= [.int .i64 x.1,.int .i64 x.2]
theorem aq (x:Int):(iv x).length=1:=rfl
theorem lP (x:Bool):(bv x).length=1:=rfl
theorem aP (x:Int×Int):(dz x).length=2:=rfl
theorem K9 (l:List Int):l.flatMap iv=ints l:=by
 induction l with
 | nil=>rfl
 | cons x l ih=>rw [age,ih];rfl
theorem He (l:List Bool):l.flatMap bv=ka l:=by
 induction l with
 | nil=>rfl
 | cons x l ih=>rw [age,ih];rfl
theorem nQ {w:World} {s:Sl} {e:TypeId} {l:List Int} {o:List Nat}:eP w s e (ints l) o↔cA w s e 1 iv l o:=by
 simp only [eP,cA,eJ,K9,agS]
theorem zZ {w:World} {s:Sl} {e:TypeId} {l:List Bool} {o:List Nat}:eP w s e (ka l) o↔cA w s e 1 bv l o:=by
 simp only [eP,cA,kX,He,agS]
theorem Dh: ∃inf:TypeInfo,Tryz.prog.info? 33=some inf /\ inf.zero=some (.agg #[.int .i64 0,.int .i64 0]) /\ inf.size=2 /\ inf.bytes=16:=fE (by kernel_rfl)
theorem Mm:Tryz.prog.underlying 43=some (.slice 33):=by kernel_rfl
theorem Yy {s:Sl} {w:World} {vs:List (Int×Int)} {o:List Nat} {b:Nat} {v:Int×Int} {K:Sl->World->Prop} (h:cA w s 33 2 dz vs o) (hb:fz w b 33 [.int .i64 v.1,.int .i64 v.2]) (hn:vs.length<=1000000000)
  (hK: ∀s' w' o',cA w' s' 33 2 dz (vs++ [v]) o'->(o'=o \/ ∃k,w.heap.size<=k /\ k < w'.heap.size /\ o'= [k])->Fr o w w'->K s' w'):
  bZ .sl Tryz.prog (Builtin.append_ #[43,43] 43 #[.slice s.a s.len s.cap,.slice (some ⟨b,0,none⟩) 1 1]) w K:=by
 obtain⟨inf,h1,h4,h2,h3⟩:=Dh
 have hl:=h.len
 refine cA.app aP Mm h1 h2 h4 rfl h (news:= [v]) rfl ?_ (by simp [Value.oneCell']) (by rw [h3];omega) (by omega) ?_
 ·intro j u hj
  rw [Addr.aQ,hb.cell]
  simpa using hj
 ·intro s' w' o' g1 g2 g3 g4 g5 g6 g7
  exact hK s' w' o' g1 g3 g5
theorem Lc {b:Nat} {o:List Nat} (h:b ∉ o): ∀k∈o,k ∉ [b]:=by
 intro k hk hm
 simp only [afF] at hm
 subst hm
 exact h hk
theorem nwE {i g:Int} {w:World} {K:Addr->World->Prop}
  (hK: ∀b w',w.heap.size<=b->fz w' b 33 [.int .i64 i,.int .i64 g]->Fr [] w w'->K ⟨b,0,none⟩ w'):
  Nw (.cells #[.int .i64 0,.int .i64 0] 33) w fun(x:Addr) w=>St x (.int .i64 i) w fun w=>St (x.add 1) (.int .i64 g) w fun w=>K x w:=by
 refine nw fun b w1 hb vX f1 s1=>?_
 refine st (o:=0) vX (by simp) rfl fun w2 eU f2 s2=>?_
 refine Bx eU (by simp) rfl fun w3 pC f3 s3=>?_
 exact hK b w3 (by omega) pC ((f1.trans f2 (by simp;omega)).trans f3 (by simp;omega))
theorem ldE {b:Nat} {i g:Int} {w:World} {K:Int->Int->Prop} (h:fz w b 33 [.int .i64 i,.int .i64 g]) (hK:K i g):
  Ld (.i .i64) w ⟨b,0,none⟩ fun(x:Int)=>Ld (.i .i64) w ((⟨b,0,none⟩:Addr).add 1) fun(y:Int)=>K x y:=
 ld (k:=.i .i64) h rfl (mf (k:=.i .i64) h rfl hK)
def af.eA (m:af):Nat->List (Int×Int)
 | 0=> []
 | k+1=>if m.bt k then m.eA k++ [((k:Int),m.gen k)] else m.eA k
theorem af.gB (m:af): ∀k,(m.eA k).length<=k
 | 0=>by simp [af.eA]
 | k+1=>by
  have:=gB m k
  simp only [af.eA];split <;> simp <;> omega
theorem Hf {b:Nat} {w:World} {m:af} {O:List Nat} {K:Sl->World->Prop} (h:cF w b m O) (hm:m.Ok)
  (hK: ∀w' l o,cA w' l 33 2 dz (m.eA m.ah.length) o->(∀k∈o,w.heap.size<=k)->Fr [] w w'->K l w'):Sp (some ⟨b,0,none⟩) w K:=by
 refine Pq ?_
 unfold f65
 simp only [fq]
 have h0:=h
 obtain⟨sg,sa,sf,og,oa,jS,hb,hg,gI,eN,rfl,bE⟩:=h0
 have sB:=hg.len
 rw [eJ] at sB
 have yz:=hm.fe
 refine mf (k:=.sl) (x:=sg) hb rfl ?_
 refine⟨fun out t12 n w'=> ∃(k:Nat) (o:List Nat),t12=k /\ k<=sg.len /\ n=sg.len - k /\ cA w' out 33 2 dz (m.eA k) o /\ (∀k∈o,w.heap.size<=k) /\ Fr [] w w',⟨sg.len,0,[],by simp,by omega,by omega,cA.nil,by simp,Fr.refl _ _⟩,?_⟩
 rintro out t12 n w1 ⟨k,o,rfl,hk,rfl,hs,ho,f1⟩
 by_cases ar:k < sg.len
 ·rw [if_pos (by simpa using ar)]
  refine Df (h.fr f1 (by simp)) hm.len fun w2 f2=>?_
  cases hl:m.bt k with
  | true=>
   rw [if_pos rfl]
   refine nwE fun x w3 hx Vu f3=>?_
   rw [if_pos (by rfl)]
   refine ldE Vu ?_
   refine nw fun y w4 hy hby f4 s4=>?_
   have f68:=((f1.trans f2 (by simp)).trans f3 (by simp)).trans f4 (by simp)
   refine Yy (v:=((k:Int),m.gen k)) (((hs.fr f2 (by simp)).fr f3 (by simp)).fr f4 (by simp)) hby (by have:=m.gB k;omega) fun s' w5 o' g1 g2 g3=>?_
   refine⟨sg.len - (k+1),by omega,k+1,o',aB (by omega) (by omega),by omega,rfl,?_,?_,?_⟩
   ·simpa [af.eA,hl] using g1
   ·rcases g2 with rfl | ⟨n,h1,_,rfl⟩
    ·exact ho
    ·have:=f68.size;simp;omega
   ·exact f68.trans g3 (fun k hk=>.inr (ho k hk))
  | false=>
   rw [if_neg (by simp)]
   refine nwE fun x w3 hx Vu f3=>?_
   rw [if_neg (by simp)]
   refine⟨sg.len - (k+1),by omega,k+1,o,aB (by omega) (by omega),by omega,rfl,?_,ho,?_⟩
   ·have:=(hs.fr f2 (by simp)).fr f3 (by simp)
    simpa [af.eA,hl] using this
   ·exact(f1.trans f2 (by simp)).trans f3 (by simp)
 ·rw [if_neg (by simpa using ar)]
  have:k=m.ah.length:=by omega
  subst this
  exact hK w1 out o hs ho f1
theorem Hg {s:Sl} {w:World} {l:List Int} {o:List Nat} {K:Sl->World->Prop} (h:cf w s 1 iv l o) (hn:l.length<=1000000000)
  (hK: ∀w' s' o',cA w' s' 3 1 iv l o'->(∀k∈o',w.heap.size<=k)->(s'.a=none↔s.a=none)->Fr [] w w'->K s' w'):Vl s w K:=by
 refine PJ ?_
 unfold f97
 by_cases hs:s.a=none
 ·rw [if_pos (by simp [hs])]
  have:=h.isNil hs
  subst this
  exact hK w _ [] cA.nil (by simp) (by simp [hs]) (Fr.refl _ _)
 ·rw [if_neg (by simpa using hs)]
  refine nw (c:= []) fun b w1 hb vX f1 s1=>?_
  obtain⟨inf,h1,h4,h2,h3⟩:=G5
  have hl:=h.len
  refine cA.gY (s:=⟨some ⟨b,0,none⟩,0,0⟩) (l:= []) aq dR h1 h2 h4 rfl ⟨rfl,.inr ⟨b,0,[],rfl,rfl,vX,by simp,by simp,rfl⟩⟩ (h.fr f1 (by simp)) (by simp [iv,Value.oneCell']) (by rw [h3];show (0+s.len)*8<=_;omega) (by show 0+s.len<=_;omega) ?_
  intro s' w' o' g1 g2 g3 g4 g5 g6 g7
  refine hK w' s' o' g1 ?_ ?_ (f1.trans g5 (by simp;omega))
  ·rcases g3 with rfl | ⟨n,h1,_,rfl⟩
   ·simp;omega
   ·simp;omega
  ·simp [hs,g7 (by simp)]
theorem Qg {α:Type} {a b:List α} {k:Nat} {x:α} (hl:a.length=b.length) (hk:a[k]? =some x):(a.take k++b.drop k).set k x=a.take (k+1)++b.drop (k+1):=by
 have bG:=(aft.1 hk).1
 apply agd
 intro j
 simp only [agm,agP,agc,agn,afw,afM,af4]
 by_cases h1:k=j
 ·subst h1
  rw [if_pos rfl,if_pos (by omega),if_pos (by omega),if_pos (by omega),hk]
 ·rw [if_neg h1]
  by_cases h2:j < k
  ·rw [if_pos (by omega),if_pos h2,if_pos (by omega),if_pos (by omega)]
  ·rw [if_neg (by omega),if_neg (by omega)]
   congr 1;omega
theorem Le {α:Type} {a b:List α} {k:Nat} (hl:a.length=b.length) (hk:a[k]? =b[k]?):a.take k++b.drop k=a.take (k+1)++b.drop (k+1):=by
 apply agd
 intro j
 simp only [agP,agc,agn,afM]
 by_cases h2:j < k
 ·by_cases h3:j < a.length
  ·rw [if_pos (by omega),if_pos h2,if_pos (by omega),if_pos (by omega)]
  ·rw [if_neg (by omega),if_neg (by omega)]
   rw [af0 (by omega),af0 (by omega)]
 ·by_cases h3:j=k
  ·subst h3
   by_cases h4:j < a.length
   ·rw [if_neg (by omega),if_pos (by omega),if_pos (by omega),<-hk.symm]
    congr 1;omega
   ·rw [if_neg (by omega),if_neg (by omega)]
    rw [af0 (by omega),af0 (by omega)]
  ·rw [if_neg (by omega),if_neg (by omega)]
   by_cases h4:k < a.length
   ·congr 1;omega
   ·rw [af0 (by omega),af0 (by omega)]
def af.aM (m:af):List Int:=m.ah.mapIdx fun i g=>if g=1000000 /\ m.bt i=false then g+1 else g
theorem B5 {b:Nat} {w:World} {m:af} {O:List Nat} {K:Sl->Sl->World->Prop} (h:cF w b m O) (hm:m.Ok)
  (hK: ∀w' g f og jS,cA w' g 3 1 iv m.aM og->cA w' f 3 1 iv m.free jS->(∀k∈og,w.heap.size<=k)->(∀k∈jS,w.heap.size<=k /\ k ∉ og)->Fr [] w w'->K g f w'):U4 (some ⟨b,0,none⟩) w K:=by
 refine Oy ?_
 unfold f36
 simp only [fq]
 have h0:=h
 obtain⟨sg,sa,sf,og,oa,jS,hb,hg,gI,eN,rfl,bE⟩:=h0
 have sB:=hg.len
 rw [eJ] at sB
 have yz:=hm.fe
 refine mf (k:=.sl) (x:=sg) hb rfl ?_
 refine Hg (nQ.1 hg).toR (by omega) fun w1 s1 o1 Ba Tk tU f1=>?_
 have A3:=Ba.len
 have eQ:m.aM.length=m.ah.length:=by simp [af.aM]
 refine⟨fun t n w'=> ∃k:Nat,t=k /\ k<=s1.len /\ n=s1.len - k /\ cA w' s1 3 1 iv (m.aM.take k++m.ah.drop k) o1 /\ Fr [] w w',⟨s1.len,0,by simp,by omega,by omega,by simpa using Ba,f1⟩,?_⟩
 rintro t n w2 ⟨k,rfl,hk,rfl,hs,f2⟩
 by_cases ar:k < s1.len
 ·rw [if_pos (by simpa using ar)]
  have cU:k < m.ah.length:=by omega
  have acp:k < m.aM.length:=by omega
  have Be:(m.aM.take k++m.ah.drop k)[k]? =some m.ah[k]:=by
   rw [afv (by simp;omega)]
   simp only [afM,agn]
   rw [show k+(k - min k m.aM.length)=k by omega]
   simp [cU]
  have bO:m.aM[k]? =some (if m.ah[k]=1000000 /\ m.bt k=false then m.ah[k]+1 else m.ah[k]):=by
   simp [af.aM,cU]
  refine cA.ix aq hs (ahk k) (by simpa using Be) fun c off cs hc yW eY pW dh=>?_
  refine ld (k:=.i .i64) (x:=m.ah[k]) yW (by simpa [Kd.inj] using pW 0 (by omega)) ?_
  have next: ∀w3,cA w3 s1 3 1 iv (m.aM.take (k+1)++m.ah.drop (k+1)) o1->Fr [] w w3-> ∃m2:Nat,m2 < s1.len - k /\ ∃Tl:Nat,(IntKind.i64.wrap ((k:Int)+1))=Tl /\ Tl<=s1.len /\ m2=s1.len - Tl /\ cA w3 s1 3 1 iv (m.aM.take Tl++m.ah.drop Tl) o1 /\ Fr [] w w3:=by
   intro w3 a1 a2
   exact⟨s1.len - (k+1),by omega,k+1,aB (by omega) (by omega),by omega,rfl,a1,a2⟩
  refine⟨fun t w'=>w'=w2 /\ t=decide (m.ah[k]=1000000 /\ m.bt k=false),?_,?_⟩
  ·by_cases Lf:m.ah[k]=1000000
   ·rw [if_pos (by simpa using Lf)]
    obtain⟨sg,sa,sf,og,oa,jS,hb,hg,gI,eN,hO,bE⟩:=h.fr f2 (by simp)
    refine mf (k:=.sl) (x:=sa) hb rfl ?_
    have hka:k < m.alive.length:=by rw [hm.len];exact cU
    refine e9 gI (ahk k) (ra (i:=((k:Int)).toNat) (by simpa using hka)) ?_
    refine⟨rfl,?_⟩
    simp [Lf,af.bt,hka]
   ·rw [if_neg (by simpa using Lf)]
    exact⟨rfl,by simp [Lf]⟩
  ·rintro t w3 ⟨rfl,rfl⟩
   by_cases hd:m.ah[k]=1000000 /\ m.bt k=false
   ·rw [if_pos (by simpa using hd)]
    rw [if_pos hd] at bO
    refine cA.ix aq hs (ahk k) (by simpa using Be) fun c off cs hc yW eY pW dh=>?_
    refine ld (k:=.i .i64) (x:=m.ah[k]) yW (by simpa [Kd.inj] using pW 0 (by omega)) ?_
    refine cA.ix aq hs (ahk k) (by simpa using Be) fun c2 acq cs2 jE Hb aam acr Tm=>?_
    refine st Hb (by omega) rfl fun w4 yx f4 s4=>?_
    refine next w4 ?_ (f2.trans f4 (by
     have:=Tk c2 (by rw [jE];simp)
     simpa using this))
    have e1:IntKind.i64.wrap (m.ah[k]+1)=m.ah[k]+1:=by rw [hd.1];rfl
    rw [<-Qg eQ bO,<-e1]
    have:=Tm w4 (IntKind.i64.wrap (m.ah[k]+1)) (by
     rw [ahI,if_pos (by omega)] at yx
     simpa using yx)
    simpa using this
   ·rw [if_neg (by simpa using hd)]
    rw [if_neg hd] at bO
    refine next w3 ?_ f2
    rw [<-Le eQ (by rw [bO];simp [cU])]
    exact hs
 ·rw [if_neg (by simpa using ar)]
  have e1:k=m.ah.length:=by omega
  subst e1
  obtain⟨sg,sa,sf,og,oa,jS,hb,hg,gI,eN,hO,bE⟩:=h.fr f2 (by simp)
  refine mf (k:=.sl) (x:=sf) hb rfl ?_
  have ee:m.free.length<=200:=by have:=hm.kB;omega
  refine Hg (nQ.1 eN).toR (by omega) fun w3 s3 o3 I1 ho3 hn3 f3=>?_
  refine hK w3 s1 s3 o1 o3 ?_ I1 Tk ?_ (f2.trans f3 (by simp))
  ·have:=hs.fr f3 (by simp)
   rw [afE (by omega),ahN,afH] at this
   exact this
  ·intro k hk
   have:=ho3 k hk
   refine⟨by have:=f2.size;omega,fun fC=>?_⟩
   have:=hs.lt k fC
   omega
def dW (Hh:List Int):List Int->af->Option af
 | [],m=>some m
 | i :: r,m=>if i < 0 \/ i>=Hh.length \/ m.alive.getD i.toNat false=false \/ Hh.getD i.toNat 0>=1000000 then none else dW Hh r { m with alive:=m.alive.set i.toNat false,free:=m.free++ [i]}
def cS (aA:Int) (ah free:List Int):Option af:=
 if aA < 1 \/ 200 < aA \/ (ah.length:Int) > aA \/ ¬(∀g∈ah,1<=g /\ g<=1000001) then none
 else dW ah free ⟨aA,ah.map (fun g=>if 1000000 < g then 1000000 else g),ah.map (fun g=>decide (g<=1000000)),[]⟩
theorem Eo {aA:Int} {g f:Sl} {w:World} {ah free:List Int} {og jS:List Nat} {K:Option Addr->Int->World->Prop} (hg:cf w g 1 iv ah og) (hf:cf w f 1 iv free jS) (ee:free.length<=1000000000)
  (hK: ∀w' p (e:Int),Fr [] w w'->(match cS aA ah free with
   | none=>p=none /\ e=1
   | some m=>e=0 /\ ∃b O,p=some ⟨b,0,none⟩ /\ cF w' b m O /\ ∀k∈O,w.heap.size<=k)->K p e w'):Vh aA g f w K:=by
 have sB:=hg.len
 refine Pp ?_
 unfold f64
 by_cases mZ:aA < 1 \/ 200 < aA
 ·refine K4 mZ ?_
  rw [if_pos (by simp)]
  refine hK w _ _ (Fr.refl _ _) ?_
  unfold cS
  rw [if_pos (by omega)]
  exact⟨rfl,rfl⟩
 refine G4 (by omega) (by omega) fun b w1 lr eU rf f1=>?_
 by_cases hlm:(ah.length:Int) > aA
 ·rw [if_pos (by simp;omega)]
  refine hK w1 _ _ f1 ?_
  unfold cS
  rw [if_pos (by omega)]
  exact⟨rfl,rfl⟩
 rw [if_neg (by simp;omega)]
 simp only [fq]
 refine⟨fun t n w'=> ∃(k:Nat) (O:List Nat),t=k /\ k<=g.len /\ n=g.len - k /\ (∀x∈ah.take k,1<=x /\ x<=1000001) /\
   cF w' b ⟨aA,(ah.take k).map (fun g=>if 1000000 < g then 1000000 else g),(ah.take k).map (fun g=>decide (g<=1000000)),[]⟩ O /\ (∀k∈O,w.heap.size<=k) /\ Fr [] w w',
  ⟨g.len,0,[b],by simp,by omega,by omega,by simp,by simpa using rf,by simpa using lr,f1⟩,?_⟩
 rintro t n w2 ⟨k,O,rfl,hk,rfl,bF,qC,hO,f2⟩
 by_cases ar:k < g.len
 ·rw [if_pos (by simpa using ar)]
  have cU:k < ah.length:=by omega
  refine cf.ix aq (hg.fr f2 (by simp)) (ahk k) (x:=ah[k]) (by simp [cU]) fun a pW=>?_
  refine ep (k:=.i .i64) (x:=ah[k]) (pW 0 (by omega)) rfl ?_
  by_cases ff:ah[k] < 1 \/ ah[k] > 1000001
  ·rw [if_pos (by simpa using ff)]
   refine hK w2 _ _ f2 ?_
   unfold cS
   rw [if_pos]
   ·exact⟨rfl,rfl⟩
   ·refine .inr (.inr (.inr fun h=>?_))
    have:=h ah[k] (afR cU)
    omega
  ·rw [if_neg (by simpa using ff)]
   obtain⟨sg,sa,sf,zX,oa,Hi,hb,Ru,gI,eN,rfl,bE⟩:=qC
   refine mf (k:=.sl) (x:=sg) hb rfl ?_
   refine nw fun c1 w3 Ep Qh f3 s3=>?_
   refine K5 (Ru.fr f3 (by simp)) Qh (by simp;omega) fun s' w4 o4 A9 Vx f4 _=>?_
   simp only [ags,afB,ago,not_or] at bE
   have yx:=(hb.fr f3 (by simp)).fr f4 (fun fC=>bE.1.1.1 fC)
   have wu:=(gI.fr f3 (by simp)).fr f4 (fun k hk bG=>bE.2.1.2.2 k bG k hk rfl)
   have El:=(eN.fr f3 (by simp)).fr f4 (fun k hk bG=>bE.2.2.2 k (.inl bG) k hk rfl)
   have e4: ∀k∈o4,k∈zX \/ w2.heap.size<=k:=by
    rcases Vx with rfl | ⟨n,h1,_,rfl⟩
    ·exact fun k hk=>.inl hk
    ·have:=f3.size;simp;omega
   have yA: ∀k∈b :: (zX++oa++Hi),k < w2.heap.size:=cF.lt (m:=⟨aA,_,_,_⟩) ⟨sg,sa,sf,zX,oa,Hi,hb,Ru,gI,eN,rfl,by simp only [ags,afB,ago,not_or];exact bE⟩
   have Yz:b ∉ o4:=fun fC=>(e4 b fC).elim bE.1.1.1 (fun h=>by have:=yA b (by simp);omega)
   have na4: ∀k∈oa,k ∉ o4:=fun k hk fC=>(e4 k fC).elim (fun h=>bE.2.1.2.2 k h k hk rfl) (fun h=>by have:=yA k (by simp [hk]);omega)
   have nf4: ∀k∈Hi,k ∉ o4:=fun k hk fC=>(e4 k fC).elim (fun h=>bE.2.2.2 k (.inl h) k hk rfl) (fun h=>by have:=yA k (by simp [hk]);omega)
   refine Bx yx (by simp) rfl fun w5 Tn f5 s5=>?_
   have Hj:=A9.fr f5 (Lc Yz)
   have zW:=wu.fr f5 (Lc bE.1.1.2)
   have B3:=El.fr f5 (Lc bE.1.2)
   refine mf (k:=.sl) (x:=sa) Tn rfl ?_
   refine nw fun c2 w6 jE Hb f12 s6=>?_
   refine Td (zW.fr f12 (by simp)) Hb (by simp;omega) fun s'' w7 o7 Rv To f43 _=>?_
   have YA:=(Tn.fr f12 (by simp)).fr f43 (fun fC=>bE.1.1.2 fC)
   have YB:=(Hj.fr f12 (by simp)).fr f43 (fun k hk bG=>na4 k bG hk)
   have Qe:=(B3.fr f12 (by simp)).fr f43 (fun k hk bG=>bE.2.2.2 k (.inr bG) k hk rfl)
   have dw:w2.heap.size<=w6.heap.size:=by have:=f3.size;have:=f4.size;have:=f5.size;have:=f12.size;omega
   have e7: ∀k∈o7,k∈oa \/ w6.heap.size<=k:=by
    rcases To with rfl | ⟨n,h1,_,rfl⟩
    ·exact fun k hk=>.inl hk
    ·simp;omega
   have Tp:b ∉ o7:=fun fC=>(e7 b fC).elim bE.1.1.2 (fun h=>by have:=yA b (by simp);omega)
   have YC: ∀k∈o4,k ∉ o7:=fun k hk fC=>(e7 k fC).elim (fun h=>na4 k h hk) (fun h=>by
    have:=Hj.lt k hk;have:=f12.size;omega)
   have nf7: ∀k∈Hi,k ∉ o7:=fun k hk fC=>(e7 k fC).elim (fun h=>bE.2.2.2 k (.inr h) k hk rfl) (fun h=>by have:=yA k (by simp [hk]);omega)
   refine Bx YA (by simp) rfl fun w8 YD f62 s8=>?_
   have cX:ah.take (k+1)=ah.take k++ [ah[k]]:=by rw [afG cU]
   refine⟨g.len - (k+1),by omega,k+1,b :: (o4++o7++Hi),aB (by omega) (by omega),by omega,rfl,?_,?_,?_,?_⟩
   ·intro x hx
    rw [cX] at hx
    rcases afB.1 hx with hx | hx
    ·exact bF x hx
    ·simp only [afF] at hx;subst hx;omega
   ·refine⟨s',s'',sf,o4,o7,Hi,by simpa using YD,?_,?_,?_,rfl,?_⟩
    ·have:=YB.fr f62 (Lc Yz)
     show eP w8 s' 3 (ints (List.map _ _)) o4
     rw [cX,agh]
     exact this
    ·have:=Rv.fr f62 (Lc Tp)
     show eP w8 s'' 4 (ka (List.map _ _)) o7
     rw [cX,agh]
     exact this
    ·exact Qe.fr f62 (Lc bE.1.2)
    ·simp only [ags,afB,ago,not_or]
     refine⟨⟨⟨Yz,Tp⟩,bE.1.2⟩,⟨?_,?_,?_⟩,bE.2.2.1,?_⟩
     ·rcases Vx with rfl | ⟨n,_,_,rfl⟩
      ·exact bE.2.1.1
      ·simp
     ·rcases To with rfl | ⟨n,_,_,rfl⟩
      ·exact bE.2.1.2.1
      ·simp
     ·rintro x hx y hy rfl;exact YC x hx hy
     ·rintro x (hx | hx) y hy rfl
      ·exact nf4 x hy hx
      ·exact nf7 x hy hx
   ·intro k hk
    simp only [af1,afB] at hk
    rcases hk with rfl | (hk | hk) | hk
    ·exact hO k (by simp)
    ·rcases e4 k hk with h | h
     ·exact hO k (by simp [h])
     ·have:=f2.size;omega
    ·rcases e7 k hk with h | h
     ·exact hO k (by simp [h])
     ·have:=f2.size;omega
    ·exact hO k (by simp [hk])
   ·exact(((((f2.trans f3 (by simp)).trans f4 (fun k hk=>.inr (hO k (by simp [hk])))).trans f5 (by simp;omega)).trans f12 (by simp)).trans f43 (fun k hk=>.inr (hO k (by simp [hk])))).trans f62 (by simp;omega)
 rw [if_neg (by simpa using ar)]
 have e1:k=ah.length:=by omega
 subst e1
 rw [agJ] at bF qC
 have B6:cS aA ah free=dW ah free ⟨aA,ah.map (fun g=>if 1000000 < g then 1000000 else g),ah.map (fun g=>decide (g<=1000000)),[]⟩:=by
  unfold cS
  rw [if_neg]
  rintro(h | h | h | h)
  ·omega
  ·omega
  ·omega
  ·exact h bF
 rw [B6] at hK
 have YE:=hf.len
 refine⟨fun t n w'=> ∃(k:Nat) (O:List Nat) (m:af),t=k /\ k<=f.len /\ n=f.len - k /\ m.ah=ah.map (fun g=>if 1000000 < g then 1000000 else g) /\ m.alive.length=ah.length /\ m.free=free.take k /\
   dW ah free ⟨aA,ah.map (fun g=>if 1000000 < g then 1000000 else g),ah.map (fun g=>decide (g<=1000000)),[]⟩=dW ah (free.drop k) m /\
   cF w' b m O /\ (∀k∈O,w.heap.size<=k) /\ Fr [] w w',
  ⟨f.len,0,O,_,by simp,by omega,by omega,rfl,by simp,by simp,by simp,qC,hO,f2⟩,?_⟩
 rintro t n w3 ⟨k,O,m,rfl,hk,rfl,hmg,Nl,Vy,p9,Rw,Rx,f3⟩
 by_cases ar:k < f.len
 ·rw [if_pos (by simpa using ar)]
  have cU:k < free.length:=by omega
  have xi:free.drop k=free[k] :: free.drop (k+1):=agf cU
  refine cf.ix aq (hf.fr f3 (by simp)) (ahk k) (x:=free[k]) (by simp [cU]) fun a pW=>?_
  refine ep (k:=.i .i64) (x:=free[k]) (pW 0 (by omega)) rfl ?_
  have bad:(free[k] < 0 \/ free[k]>=ah.length \/ m.alive.getD free[k].toNat false=false \/ ah.getD free[k].toNat 0>=1000000)->K none 1 w3:=by
   intro h
   refine hK w3 _ _ f3 ?_
   rw [p9,xi,dW,if_pos h]
   exact⟨rfl,rfl⟩
  refine⟨fun w'=>w'=w3 /\ ¬(free[k] < 0 \/ free[k]>=ah.length \/ m.alive.getD free[k].toNat false=false \/ ah.getD free[k].toNat 0>=1000000),?_,?_⟩
  ·by_cases c1:free[k] < 0
   ·rw [if_pos (by simpa using c1)];exact bad (.inl c1)
   rw [if_neg (by simpa using c1)]
   by_cases c2:free[k]>=ah.length
   ·rw [if_pos (by simp;omega)];exact bad (.inr (.inl c2))
   rw [if_neg (by simp;omega)]
   obtain⟨sg,sa,sf,zX,oa,Hi,hb,Ru,gI,eN,rfl,bE⟩:=Rw
   refine mf (k:=.sl) (x:=sa) hb rfl ?_
   have c3:free[k].toNat < m.alive.length:=by omega
   refine e9 gI (by omega) (ra c3) ?_
   cases c4:m.alive[free[k].toNat] with
   | false=>rw [if_pos (by simp)];exact bad (.inr (.inr (.inl (by simp [c3,c4]))))
   | true=>
    rw [if_neg (by simp)]
    have c5:free[k].toNat < ah.length:=by omega
    refine cf.ix aq (hg.fr f3 (by simp)) (by omega) (x:=ah[free[k].toNat]) (by simp [c5]) fun a pW=>?_
    refine ep (k:=.i .i64) (x:=ah[free[k].toNat]) (pW 0 (by omega)) rfl ?_
    by_cases c7:ah[free[k].toNat]>=1000000
    ·rw [if_pos (by simpa using c7)];exact bad (.inr (.inr (.inr (by simp [c5];exact c7))))
    ·rw [if_neg (by simpa using c7)]
     refine⟨rfl,?_⟩
     rintro(h | h | h | h)
     ·exact c1 h
     ·exact c2 h
     ·simp [c3,c4] at h
     ·simp [c5] at h;exact c7 h
  ·rintro w4 ⟨rfl,fY⟩
   obtain⟨sg,sa,sf,zX,oa,Hi,hb,Ru,gI,eN,rfl,bE⟩:=Rw
   simp only [ags,afB,ago,not_or] at bE
   have yA: ∀k∈b :: (zX++oa++Hi),k < w4.heap.size:=cF.lt (m:=m) ⟨sg,sa,sf,zX,oa,Hi,hb,Ru,gI,eN,rfl,by simp only [ags,afB,ago,not_or];exact bE⟩
   refine mf (k:=.sl) (x:=sa) hb rfl ?_
   refine mL gI (by omega) (by rw [kX];omega) rfl fun w5 zW f5 s5=>?_
   rw [re] at zW
   have Tn:=hb.fr f5 (fun fC=>bE.1.1.2 fC)
   have Rs:=Ru.fr f5 (fun k hk bG=>bE.2.1.2.2 k hk k bG rfl)
   have B3:=eN.fr f5 (fun k hk bG=>bE.2.2.2 k (.inr bG) k hk rfl)
   refine mf (k:=.sl) (x:=sf) Tn rfl ?_
   refine nw fun c1 w6 Ep Qh f12 s6=>?_
   refine K5 (B3.fr f12 (by simp)) Qh (by rw [Vy];simp;omega) fun s' w7 o7 Rv To f43 _=>?_
   have YA:=(Tn.fr f12 (by simp)).fr f43 (fun fC=>bE.1.2 fC)
   have Te:=(Rs.fr f12 (by simp)).fr f43 (fun k hk bG=>bE.2.2.2 k (.inl hk) k bG rfl)
   have G7:=(zW.fr f12 (by simp)).fr f43 (fun k hk bG=>bE.2.2.2 k (.inr hk) k bG rfl)
   have e7: ∀k∈o7,k∈Hi \/ w4.heap.size<=k:=by
    rcases To with rfl | ⟨n,h1,_,rfl⟩
    ·exact fun k hk=>.inl hk
    ·have:=f5.size;have:=f12.size;simp;omega
   have Tp:b ∉ o7:=fun fC=>(e7 b fC).elim bE.1.2 (fun h=>by have:=yA b (by simp);omega)
   have YC: ∀k∈zX++oa,k ∉ o7:=fun k hk fC=>(e7 k fC).elim (fun h=>bE.2.2.2 k (afB.1 hk) k h rfl) (fun h=>by have:=yA k (ahc _ (afB.2 (.inl hk)));omega)
   refine Bx YA (by simp) rfl fun w8 YD f62 s8=>?_
   refine⟨f.len - (k+1),by omega,k+1,b :: (zX++oa++o7),{ m with alive:=m.alive.set free[k].toNat false,free:=m.free++ [free[k]]},aB (by omega) (by omega),by omega,rfl,hmg,by simpa using Nl,?_,?_,?_,?_,?_⟩
   ·show m.free++ [free[k]]=_
    rw [Vy,afG cU]
   ·rw [p9,xi,dW,if_neg fY]
   ·refine⟨sg,sa,s',zX,oa,o7,YD,?_,?_,?_,rfl,?_⟩
    ·exact Te.fr f62 (Lc bE.1.1.1)
    ·exact G7.fr f62 (Lc bE.1.1.2)
    ·have:=Rv.fr f62 (Lc Tp)
     simpa using this
    ·simp only [ags,afB,ago,not_or]
     refine⟨⟨bE.1.1,Tp⟩,bE.2.1,?_,?_⟩
     ·rcases To with rfl | ⟨n,_,_,rfl⟩
      ·exact bE.2.2.1
      ·simp
     ·rintro x hx y hy rfl
      exact YC x (afB.2 hx) hy
   ·intro k hk
    simp only [af1,afB] at hk
    rcases hk with rfl | hk | hk
    ·exact Rx k (by simp)
    ·exact Rx k (by rcases hk with hk | hk <;> simp [hk])
    ·rcases e7 k hk with h | h
     ·exact Rx k (by simp [h])
     ·have:=f3.size;omega
   ·exact(((f3.trans f5 (fun k hk=>.inr (Rx k (by simp [hk])))).trans f12 (by simp)).trans f43 (fun k hk=>.inr (Rx k (by simp [hk])))).trans f62 (by simp;omega)
 ·rw [if_neg (by simpa using ar)]
  have e1:k=free.length:=by omega
  subst e1
  rw [ahN,dW] at p9
  rw [p9] at hK
  exact hK w3 _ _ f3 ⟨rfl,b,O,rfl,Rw,Rx⟩
end Go.Proofs.YtcccjgmekakabaaGreat.FI
end

section
namespace Go.Proofs.YtcccjgmekakabaaGreat.FI
open F
open Go Go.Den Go.Proofs
theorem kY {α:Type} (l:List α) (i j:Nat) (v d:α):(l.set i v).getD j d=if i=j /\ j < l.length then v else l.getD j d:=by
 simp only [afO,agm]
 by_cases h1:i=j
 ·subst h1
  by_cases h2:i < l.length
  ·simp [h2]
  ·simp [h2]
 ·simp [h1]
theorem z5 {α:Type} (l:List α) (j:Nat) (v d:α):(l++ [v]).getD j d=if j=l.length then v else l.getD j d:=by
 simp only [afO,agP]
 by_cases h1:j < l.length
 ·rw [if_pos h1,if_neg (by omega)]
 ·rw [if_neg h1]
  by_cases h2:j=l.length
  ·subst h2;simp
  ·rw [if_neg h2,af0 (by simp;omega),af0 (by omega)]
theorem count_set {l:List Bool} {i:Nat} {v:Bool} (h:i < l.length):(l.set i v).count true+(if l[i]=true then 1 else 0)=l.count true+(if v=true then 1 else 0):=by
 induction l generalizing i with
 | nil=>simp at h
 | cons x l ih=>
  cases i with
  | zero=>simp only [afN,List.count_cons,ahU];cases x <;> cases v <;> simp
  | succ i=>
   have:=ih (i:=i) (by simpa using h)
   simp only [afZ,List.count_cons,List.getElem_cons_succ]
   omega
namespace af
theorem Ok.new {n:Int} (h1:1<=n) (h2:n<=200):Ok ⟨n,[],[],[]⟩:=
 ⟨h1,h2,rfl,by simp;omega,by simp,by simp,by simp,by simp⟩
theorem oy (m:af) (hl:m.alive.length=m.ah.length) (i:Int):m.cV.bt i=if i=m.ah.length then true else m.bt i:=by
 simp only [bt,cV,z5,hl]
 by_cases h:i=m.ah.length
 ·subst h;simp
 ·rw [if_neg h]
  by_cases h0:0<=i
  ·rw [if_neg (by omega)]
  ·simp [h0]
theorem sC (m:af) {i:Int} (hi:0<=i):m.cV.gen i=if i=m.ah.length then 1 else m.gen i:=by
 simp only [gen,cV,z5]
 by_cases h:i=m.ah.length
 ·subst h;simp
 ·rw [if_neg h,if_neg (by omega)]
theorem jF (m:af) {i:Int} {rest:List Int} (hi:0<=i) (hl:i.toNat < m.alive.length) (j:Int):(m.cu i rest).bt j=if j=i then true else m.bt j:=by
 simp only [bt,cu,kY]
 by_cases h:j=i
 ·subst h;simp [hi,hl]
 ·rw [if_neg h]
  by_cases h0:0<=j
  ·rw [if_neg (by omega)]
  ·simp [h0]
theorem lQ (m:af) {i:Int} {rest:List Int} (hi:0<=i) (hl:i.toNat < m.ah.length) {j:Int} (hj:0<=j):(m.cu i rest).gen j=if j=i then m.gen i+1 else m.gen j:=by
 simp only [gen,cu,kY]
 by_cases h:j=i
 ·subst h;simp [hi,hl]
 ·rw [if_neg h,if_neg (by omega)]
theorem lR (m:af) {i g:Int} (hi:0<=i) (hl:i.toNat < m.alive.length) (j:Int):(m.dj i g).bt j=if j=i then false else m.bt j:=by
 simp only [bt,dj,kY]
 by_cases h:j=i
 ·subst h;simp [hi,hl]
 ·rw [if_neg h]
  by_cases h0:0<=j
  ·rw [if_neg (by omega)]
  ·simp [h0]
theorem uM (m:af) {i g:Int} (j:Int):(m.dj i g).gen j=m.gen j:=rfl
theorem Ok.gen {m:af} (h:m.Ok) {i:Int} (h0:0<=i) (h1:i < m.ah.length):1<=m.gen i /\ m.gen i<=1000000:=by
 have hl:i.toNat < m.ah.length:=by omega
 simp only [af.gen,afO,afD hl,ag9]
 exact h.ah _ (afR hl)
theorem Ok.cV {m:af} (h:m.Ok) (hf:m.free= []) (hl:(m.ah.length:Int) < m.aA):m.cV.Ok where
 De:=h.De
 pR:=h.pR
 len:=by simp [af.cV,h.len]
 le:=by simp [af.cV];omega
 ah:=by
  intro g hg
  simp only [af.cV,afB,afF] at hg
  rcases hg with hg | rfl
  ·exact h.ah g hg
  ·omega
 free:=by simp [af.cV,hf]
 nodup:=h.nodup
 kB:=by have:=h.kB;simp [af.cV,hf,List.count_append] at this ⊢;omega
theorem Ok.cu {m:af} (h:m.Ok) {i:Int} {rest:List Int} (hf:m.free=i :: rest):(m.cu i rest).Ok:=by
 have hi:=h.free i (by simp [hf])
 have bE:=h.nodup
 rw [hf,ags] at bE
 have B7:i.toNat < m.alive.length:=by rw [h.len];omega
 have hlg:i.toNat < m.ah.length:=by omega
 refine⟨h.De,h.pR,by simp [af.cu,h.len],by simpa [af.cu] using h.le,?_,?_,bE.2,?_⟩
 ·intro g hg
  rcases ah5 hg with hg | rfl
  ·exact h.ah g hg
  ·have:=h.gen hi.1 hi.2.1
   omega
 ·intro j hj
  have dI:j∈m.free:=by rw [hf];exact ahc _ hj
  have aR:j≠i:=fun e=>bE.1 (e ▸ hj)
  obtain⟨a1,a2,a3,a4⟩:=h.free j dI
  refine⟨a1,by simpa [af.cu] using a2,?_,?_⟩
  ·rw [jF m hi.1 B7,if_neg aR];exact a3
  ·rw [lQ m hi.1 hlg a1,if_neg aR];exact a4
 ·have hc:=h.kB
  have h1:=count_set (l:=m.alive) (v:=true) B7
  have h2:m.alive[i.toNat]=false:=by
   have:=hi.2.2.1
   simpa [af.bt,hi.1,B7] using this
  rw [h2] at h1
  simp only [af.cu,agi]
  rw [hf] at hc
  simp at hc h1
  omega
theorem jG {m:af} {i g:Int}:m.is i g=true↔m.bt i=true /\ m.gen i=g:=by simp [af.is]
theorem Ok.dj {m:af} (h:m.Ok) {i g:Int} (hi:m.is i g=true):(m.dj i g).Ok:=by
 obtain⟨gK,hg⟩:=jG.1 hi
 obtain⟨h0,B7,gI⟩:=p8 gK
 have hlg:i.toNat < m.ah.length:=by rw [<-h.len];exact B7
 have LV:i ∉ m.free:=fun hm=>by have:=(h.free i hm).2.2.1;rw [gK] at this;cases this
 refine⟨h.De,h.pR,by simp [af.dj,h.len],h.le,h.ah,?_,?_,?_⟩
 ·intro j hj
  have:j=i /\ g < 1000000 \/ j∈m.free:=by
   simp only [af.dj] at hj
   split at hj
   ·rename_i ar
    rcases afB.1 hj with hj | hj
    ·exact .inr hj
    ·exact .inl ⟨by simpa using hj,ar⟩
   ·exact .inr hj
  rcases this with ⟨rfl,ar⟩ | hj
  ·exact⟨h0,by show j < (m.ah.length:Int);omega,by rw [lR m h0 B7,if_pos rfl],by rw [uM,hg];exact ar⟩
  ·obtain⟨a1,a2,a3,a4⟩:=h.free j hj
   refine⟨a1,a2,?_,a4⟩
   rw [lR m h0 B7];split
   ·rfl
   ·exact a3
 ·simp only [af.dj]
  split
  ·rw [ago]
   exact⟨h.nodup,by simp,by intro a ha b hb e;simp at hb;subst hb;exact LV (e ▸ ha)⟩
  ·exact h.nodup
 ·have hc:=h.kB
  have h1:=count_set (l:=m.alive) (v:=false) B7
  have h2:m.alive[i.toNat]=true:=by
   have:=afD B7
   rw [gI] at this;simpa using this.symm
  rw [h2] at h1
  simp only [af.dj]
  simp at h1
  split <;> simp <;> omega
end af
end Go.Proofs.YtcccjgmekakabaaGreat.FI
end

section
namespace Go.Proofs.YtcccjgmekakabaaGreat.FI
open F
open Go Go.Den Go.Proofs
structure Good (m:af) (L A:List (Int×Int)) (k:Nat):Prop where
 nd:L.Nodup
 mem: ∀x,x∈L↔m.is x.1 x.2=true
 acy:L.length=m.alive.count true
 out: ∀x∈A,0<=x.1 /\ x.1 < m.ah.length /\ x.2<=m.gen x.1
 acz:A.length<=k
 ah: ∀g∈m.ah,g<=k+1
 dead: ∀i:Int,0<=i->i < m.ah.length->m.bt i=false->i∈m.free
 kB:m.free.length+m.alive.count true=m.ah.length
theorem ji {m:af} (hm:m.Ok) {i:Int} (h:m.bt i=true):0<=i /\ i < m.ah.length:=by
 obtain⟨h0,h1,_⟩:=p8 h
 have:=hm.len
 exact⟨h0,by omega⟩
theorem iA (m:af): ∀k,(∀x∈m.eA k,0<=x.1 /\ x.1 < k /\ m.bt x.1=true /\ m.gen x.1=x.2) /\ (m.eA k).Pairwise (fun x y=>x.1 < y.1)
 | 0=>by simp [af.eA]
 | k+1=>by
  obtain⟨h1,h2⟩:=iA m k
  simp only [af.eA]
  split
  ·rename_i hl
   constructor
   ·intro x hx
    rcases afB.1 hx with hx | hx
    ·obtain⟨a,b,c⟩:=h1 x hx
     exact⟨a,by push_cast;omega,c⟩
    ·simp only [afF] at hx;subst hx
     exact⟨ahk _,by push_cast;omega,hl,rfl⟩
   ·rw [List.pairwise_append]
    refine⟨h2,by simp,?_⟩
    intro x hx y hy
    simp only [afF] at hy;subst hy
    exact(h1 x hx).2.1
  ·exact⟨fun x hx=>by obtain⟨a,b,c⟩:=h1 x hx;exact⟨a,by push_cast;omega,c⟩,h2⟩
def pk (c n:Int):Int:=if c < 0 then Int.tmod (IntKind.i64.wrap (0 - IntKind.i64.wrap (c+1))) n else Int.tmod c n
theorem z6 {c n:Int} (hc: -9223372036854775808<=c) (hn:0 < n):0<=pk c n /\ pk c n < n:=by
 unfold pk
 split
 ·rw [aB (n:=c+1) (by omega) (by omega),aB (by omega) (by omega)]
  exact⟨Int.tmod_nonneg n (by omega),Int.tmod_lt_of_pos _ hn⟩
 ·exact⟨Int.tmod_nonneg n (by omega),Int.tmod_lt_of_pos _ hn⟩
theorem xj {c n:Int} {w:World} {K:Int->World->Prop} (hn:n≠0) (hK:K (pk c n) w):c7 c n w K:=by
 refine Sz ?_
 unfold f7
 unfold pk at hK
 by_cases h:c < 0
 ·rw [if_pos (by simpa using h)]
  rw [if_pos h] at hK
  exact⟨hn,hK⟩
 ·rw [if_neg (by simpa using h)]
  rw [if_neg h] at hK
  exact⟨hn,hK⟩
end Go.Proofs.YtcccjgmekakabaaGreat.FI
end

section
namespace Go.Proofs.YtcccjgmekakabaaGreat.FI
open F
open Go Go.Den Go.Proofs
theorem lN: ∃inf:TypeInfo,Tryz.prog.info? 3=some inf /\ inf.zero=some (.int .i64 0) /\ inf.size=1 /\ inf.bytes=8:=fE (by kernel_rfl)
def Mn (ty:TypeId) (b:Nat) (m:af) (sg sa sf:Sl):aa:=
 aX (ai b ty [.int .i64 m.aA,.slice sg.a sg.len sg.cap,.slice sa.a sa.len sa.cap,.slice sf.a sf.len sf.cap]) (aX (aj sg 3 1 iv m.ah) (aX (aj sa 4 1 bv m.alive) (aj sf 3 1 iv m.free)))
def ay (ty:TypeId) (b:Nat) (m:af):aa:=KK fun x:Sl×Sl×Sl=>Mn ty b m x.1 x.2.1 x.2.2
theorem rh {α:Type} {w:World} {s:Sl} {e:TypeId} {n:Nat} {f:α->List Value} {l:List α} {o:List Nat} (h:cA w s e n f l o):o.Nodup:=by
 rcases h.2 with ⟨_,_,_,rfl⟩ | ⟨_,_,_,_,rfl,_⟩ <;> simp
theorem Hk {w:World} {b:Nat} {m:af} {O:List Nat} (h:cF w b m O):(ay 149 b m).holds w O:=by
 obtain⟨sg,sa,sf,og,oa,jS,hb,hg,ha,hf,rfl,bE⟩:=h
 simp only [ags,afB,ago,not_or] at bE
 refine⟨(sg,sa,sf),[b],og++(oa++jS),⟨hb,rfl⟩,⟨og,oa++jS,nQ.1 hg,⟨oa,jS,zZ.1 ha,nQ.1 hf,fun k hk bG=>bE.2.2.2 k (.inr hk) k bG rfl,by simp⟩,?_,by simp⟩,?_,by simp [or_assoc]⟩
 ·intro k hk bG
  rcases afB.1 bG with h | h
  ·exact bE.2.1.2.2 k hk k h rfl
  ·exact bE.2.2.2 k (.inl hk) k h rfl
 ·intro k hk bG
  simp only [afF] at hk
  subst hk
  simp only [afB] at bG
  rcases bG with h | h | h
  ·exact bE.1.1.1 h
  ·exact bE.1.1.2 h
  ·exact bE.1.2 h
theorem Mo {w:World} {b:Nat} {m:af} {O:List Nat} (h:(ay 149 b m).holds w O): ∃O',cF w b m O' /\ ∀k,k∈O'↔k∈O:=by
 obtain⟨⟨sg,sa,sf⟩,O1,O2,⟨hb,rfl⟩,⟨og,O3,hg,⟨oa,jS,ha,hf,d1,e1⟩,d2,e2⟩,d3,e3⟩:=h
 refine⟨b :: (og++oa++jS),⟨sg,sa,sf,og,oa,jS,hb,nQ.2 hg,zZ.2 ha,nQ.2 hf,rfl,?_⟩,fun k=>?_⟩
 ·have iV:b ∉ O2:=d3 b (by simp)
  simp only [ags,afB,ago,not_or]
  refine⟨⟨⟨fun h=>iV ((e2 b).2 (.inl h)),fun h=>iV ((e2 b).2 (.inr ((e1 b).2 (.inl h))))⟩,fun h=>iV ((e2 b).2 (.inr ((e1 b).2 (.inr h))))⟩,⟨rh hg,rh ha,?_⟩,rh hf,?_⟩
  ·rintro x hx y hy rfl;exact d2 x hx ((e1 x).2 (.inl hy))
  ·rintro x (hx | hx) y hy rfl
   ·exact d2 x hx ((e1 x).2 (.inr hy))
   ·exact d1 x hx hy
 ·rw [e3 k,e2 k,e1 k];simp [or_assoc]
structure af.Hl (m:af):Prop extends m.Ok where
 dead: ∀i:Int,0<=i->i < m.ah.length->m.bt i=false->m.gen i < 1000000->i∈m.free
def af.bu (m:af):af×(Int×Int)×Int:=
 match m.free with
 | i :: rest=>(m.cu i rest,(i,m.gen i+1),0)
 | []=>if (m.ah.length:Int) < m.aA then (m.cV,(m.ah.length,1),0) else (m,(0,0),40)
def af.kZ (m:af) (i g:Int):af×Int:=if m.is i g=true then (m.dj i g,0) else (m,41)
section
variable {S:List Nat} {w0 w:World} {ae:List aa}
theorem nR (h:Hp S w0 w ae) {i b:Nat} {ty:TypeId} {m:af} (hi:ae[i]? =some (ay ty b m)):
  ∃sg sa sf:Sl,Hp S w0 w (ae.set i (ai b ty [.int .i64 m.aA,.slice sg.a sg.len sg.cap,.slice sa.a sa.len sa.cap,.slice sf.a sf.len sf.cap])++ [aj sg 3 1 iv m.ah,aj sa 4 1 bv m.alive,aj sf 3 1 iv m.free]):=by
 have hl:=(aft.1 hi).1
 obtain⟨⟨sg,sa,sf⟩,h⟩:=h.oX hi (fun _=>rfl)
 have h:=h.split (i:=i) (by simp [hl];rfl) rfl rfl
 have e1: ∀(l:List aa) (t:aa),(l++ [t])[l.length]? =some t:=fun l t=>by simp
 have h:=h.split (e1 _ _) rfl rfl
 simp only [afI _ _ (afV _),af9,afN] at h
 have h:=h.split (e1 _ _) rfl rfl
 rw [afI _ _ (afV _),af9,afN] at h
 exact⟨sg,sa,sf,by simpa using h⟩
theorem fg {b:Nat} {ty:TypeId} {m:af} {sg sa sf:Sl} {rest:List aa}
  (h:Hp S w0 w (ai b ty [.int .i64 m.aA,.slice sg.a sg.len sg.cap,.slice sa.a sa.len sa.cap,.slice sf.a sf.len sf.cap] :: aj sg 3 1 iv m.ah :: aj sa 4 1 bv m.alive :: aj sf 3 1 iv m.free :: rest)):Hp S w0 w (ay ty b m :: rest):=by
 have h:=h.aL (i:=2) (j:=3) (by omega) rfl rfl rfl rfl
 have h:=h.aL (i:=1) (j:=2) (by omega) rfl rfl rfl rfl
 have h:=h.aL (i:=0) (j:=1) (by omega) rfl rfl rfl rfl
 have h:=h.mg (f:=fun x:Sl×Sl×Sl=>Mn ty b m x.1 x.2.1 x.2.2) (i:=0) (sg,sa,sf) rfl rfl
 have h:Hp S w0 w (ay ty b m :: ao :: ao :: ao :: rest):=h
 exact h.fc.fc.fc
theorem qa (h:Hp S w0 w ae) (i:Nat) {b:Nat} {ty:TypeId} {m:af} (hi:(ae[i]?).map aa.holds=some (ay ty b m).holds):
  ∃sg sa sf:Sl,Hp [] w w [(ai b ty [.int .i64 m.aA,.slice sg.a sg.len sg.cap,.slice sa.a sa.len sa.cap,.slice sf.a sf.len sf.cap]).ro,(aj sg 3 1 iv m.ah).ro,(aj sa 4 1 bv m.alive).ro,(aj sf 3 1 iv m.free).ro]:=by
 obtain⟨O,⟨sg,sa,sf⟩,O1,O2,h1,⟨O3,O4,h2,⟨O5,O6,h3,h4,_⟩,_⟩,_⟩:=h.dQ hi
 exact⟨sg,sa,sf,((((Hp.init w).ey h1 (by simp)).ey h2 (by simp)).ey h3 (by simp)).ey h4 (by simp)⟩
theorem Mp (h:Hp S w0 w ae) {i b:Nat} {m:af} (hi:ae[i]? =some (ay 149 b m)):
  ∃O,cF w b m O /\ ∀{w':World} {m':af} {O':List Nat},Fr O w w'->cF w' b m' O'->(∀k∈O',k∈O \/ w.heap.size<=k)->Hp S w0 w' (ae.set i (ay 149 b m')):=by
 obtain⟨O,hO,back⟩:=h.step hi rfl
 obtain⟨O2,h2,e⟩:=Mo hO
 refine⟨O2,h2,fun{w' m' O'} hf hp hk=>back (hf.mono (fun k hk=>.inl ((e k).1 hk))) (Hk hp) (fun k bG=>(hk k bG).imp_left fun h=>(e k).1 h) rfl⟩
theorem Qi (h:Hp S w0 w ae) (i:Nat) {b:Nat} {m:af} (hi:(ae[i]?).map aa.holds=some (ay 149 b m).holds): ∃O,cF w b m O:=by
 obtain⟨O,hO⟩:=h.dQ hi
 obtain⟨O2,h2,e⟩:=Mo hO
 exact⟨O2,h2⟩
theorem Mq (h:Hp S w0 w ae) {n:Int} (h1:1<=n) (h2:n<=200) {K:Option Addr->Int->World->Prop} (hK: ∀b w',Hp S w0 w' (ae++ [ay 149 b ⟨n,[],[],[]⟩])->K (some ⟨b,0,none⟩) 0 w'):Rl n w K:=
 G4 h1 h2 fun b w' hb iV hp hf=>hK b w' (h.grow hf (Hk hp) (by simpa using hb) rfl)
theorem Hm (h:Hp S w0 w ae) (i:Nat) {b:Nat} {m:af} (hm:m.Ok) (hi:ae[i]? =some (ay 149 b m)) {K:Int->Int->Int->World->Prop}
  (hK: ∀w',Hp S w0 w' (ae.set i (ay 149 b m.bu.1))->K m.bu.2.1.1 m.bu.2.1.2 m.bu.2.2 w'):Rn (some ⟨b,0,none⟩) w K:=by
 obtain⟨O,hp,back⟩:=Mp h hi
 unfold af.bu at hK
 cases hf:m.free with
 | cons j rest=>
  simp only [hf] at hK
  exact Em hp hm hf fun w' tM eN=>hK w' (back eN tM fun k hk=>.inl hk)
 | nil=>
  simp only [hf] at hK
  by_cases hl:(m.ah.length:Int) < m.aA
  ·simp only [if_pos hl] at hK
   exact G9 hp hm hf hl fun w' O' tM hk eN=>hK w' (back eN tM hk)
  ·simp only [if_neg hl] at hK
   have:=hm.le
   refine En hp hf (by omega) fun w' eN=>hK w' ?_
   rw [Hp.cK hi]
   exact h.cB eN
theorem Qj (h:Hp S w0 w ae) (i:Nat) {b:Nat} {m:af} (hm:m.Ok) (hi:ae[i]? =some (ay 149 b m)) {x g:Int} {K:Int->World->Prop}
  (hK: ∀w',Hp S w0 w' (ae.set i (ay 149 b (m.kZ x g).1))->K (m.kZ x g).2 w'):Vf (some ⟨b,0,none⟩) x g w K:=by
 obtain⟨O,hp,back⟩:=Mp h hi
 refine Ej hp hm fun w' O' tM hk eN=>?_
 have h2:=back eN tM hk
 unfold af.kZ at hK
 split
 ·rename_i he
  simp only [if_pos he] at hK h2
  exact hK w' h2
 ·rename_i he
  simp only [if_neg he] at hK h2
  exact hK w' h2
theorem Lg (h:Hp S w0 w ae) (i:Nat) {b:Nat} {m:af} (hm:m.Ok) (hi:(ae[i]?).map aa.holds=some (ay 149 b m).holds) {x g:Int} {K:Bool->World->Prop}
  (hK: ∀w',Hp S w0 w' ae->K (m.is x g) w'):F1 (some ⟨b,0,none⟩) x g w K:=by
 obtain⟨O,hp⟩:=Qi h i hi
 exact uL hp hm.len fun w' hf=>hK w' (h.cB hf)
theorem Mr (h:Hp S w0 w ae) (i:Nat) {b:Nat} {m:af} (hm:m.Ok) (hi:(ae[i]?).map aa.holds=some (ay 149 b m).holds) {K:Sl->World->Prop}
  (hK: ∀s w',Hp S w0 w' (ae++ [aj s 33 2 dz (m.eA m.ah.length)])->K s w'):Sp (some ⟨b,0,none⟩) w K:=by
 obtain⟨O,hp⟩:=Qi h i hi
 exact Hf hp hm fun w' l o hs ho hf=>hK l w' (h.grow hf (t:=aj l 33 2 dz _) hs ho rfl)
theorem Lh (h:Hp S w0 w ae) (i:Nat) {b:Nat} {m:af} (hm:m.Ok) (hi:(ae[i]?).map aa.holds=some (ay 149 b m).holds) {K:Sl->Sl->World->Prop}
  (hK: ∀g f w',Hp S w0 w' (ae++ [aj g 3 1 iv m.aM,aj f 3 1 iv m.free])->K g f w'):U4 (some ⟨b,0,none⟩) w K:=by
 obtain⟨O,hp⟩:=Qi h i hi
 refine B5 hp hm fun w' g f og jS hg hf Rt YF eN=>hK g f w' ?_
 refine h.r0 (rest:= [_,_]) rfl ?_
 refine⟨eN,fun n=>if n=0 then og else jS,fun n t hn=>?_,fun n n' t u hn kq aR ht hu k hk bG=>?_⟩
 ·match n,hn with
  | 0,hn=>
   simp only [afJ,afy] at hn;subst hn
   exact⟨hg,fun _ k hk=>.inr (Rt k hk),fun h=>by cases h⟩
  | 1,hn=>
   simp only [af8,afJ,afy] at hn;subst hn
   exact⟨hf,fun _ k hk=>.inr (YF k hk).1,fun h=>by cases h⟩
  | n+2,hn=>simp at hn
 ·match n,n',hn,kq,aR with
  | 0,0,_,_,aR=>exact aR rfl
  | 0,1,_,_,_=>exact(YF k bG).2 hk
  | 1,0,_,_,_=>exact(YF k hk).2 bG
  | 1,1,_,_,aR=>exact aR rfl
  | n+2,_,hn,_,_=>simp at hn
  | 0,n+2,_,hn,_=>simp at hn
  | 1,n+2,_,hn,_=>simp at hn
theorem Qk (h:Hp S w0 w ae) (i j:Nat) {aA:Int} {g f:Sl} {u v:aa} {ah free:List Int} (hi:(ae[i]?).map aa.holds=some u.holds) (hj:(ae[j]?).map aa.holds=some v.holds) (hu:Hp.Reads u g 1 iv ah) (hv:Hp.Reads v f 1 iv free) (ee:free.length<=1000000000) {K:Option Addr->Int->World->Prop}
  (hN: ∀w',cS aA ah free=none->Hp S w0 w' ae->K none 1 w')
  (hK: ∀m b w',cS aA ah free=some m->Hp S w0 w' (ae++ [ay 149 b m])->K (some ⟨b,0,none⟩) 0 w'):Vh aA g f w K:=by
 obtain⟨O1,h1⟩:=h.dQ hi
 obtain⟨o1,h1⟩:=hu.rd h1
 obtain⟨O2,h2⟩:=h.dQ hj
 obtain⟨o2,h2⟩:=hv.rd h2
 refine Eo h1 h2 ee fun w' p e hf hm=>?_
 cases hc:cS aA ah free with
 | none=>
  rw [hc] at hm
  obtain⟨rfl,rfl⟩:=hm
  exact hN w' hc (h.cB hf)
 | some m=>
  rw [hc] at hm
  obtain⟨rfl,b,O,rfl,hp,hO⟩:=hm
  exact hK m b w' hc (h.grow hf (Hk hp) hO rfl)
theorem Ok.yB {m:af} (hm:m.Ok):m.free.length<=200:=by have:=hm.kB;have:=hm.fe;omega
end
end Go.Proofs.YtcccjgmekakabaaGreat.FI
end

section
namespace Go.Den
open Go.RowKit
theorem sD {j:IntKind} {k:IntKind} (a:Int): ∀(l:List Int) (es:List MapEntry) (i:Nat),es.map (·.key)=l.map (Value.int k)->Instr.findNow (.int j) (.int k a) es i=some ((l.findIdx? (fun b=>decide (b=a))).bind fun q=>(es[q]?).map fun e=>(i+q,e.val))
 | [],[],i,_=>by simp [Instr.findNow]
 | [],_ :: _,i,h=>by simp at h
 | _ :: _,[],i,h=>by simp at h
 | b :: l,e :: es,i,h=>by
  simp only [agl,ahr] at h
  obtain⟨h1,h2⟩:=h
  have ih:=sD (j:=j) a l es (i+1) h2
  simp only [Instr.findNow,h1,Instr.sameNow,if_true,List.findIdx?_cons]
  by_cases hb:b=a
  ·have:(a ==b)=true:=by simp [hb]
   rw [this]
   simp [hb]
  ·have:(a ==b)=false:=by simpa using fun e=>hb e.symm
   rw [this]
   simp only [hb,decide_false,agD,if_false,ih]
   congr 1
   cases l.findIdx? (fun b=>decide (b=a)) with
   | none=>rfl
   | some q=>simp [ahD,aim 1 q]
theorem Er {P:Program} {kt:TypeId} {j k:IntKind} (hu:P.underlying kt=some (.int j)) (n:Nat) (b:Bool) (a:Int) (w:World):(Instr.checkKey b (n+1) kt (.int k a)).run P w=.ok () w:=by
 simp [Instr.checkKey,run_underlying hu]
theorem Hn {k:IntKind} (n:Nat) (a:Int):Instr.sameBits (n+1) (.int k a) (.int k a)=true:=by
 simp [Instr.sameBits]
theorem Ho {P:Program} {kt:TypeId} {j k:IntKind} (hu:P.underlying kt=some (.int j)):zA P kt (Value.int k):=by
 refine⟨fun w b a=>?_,fun w a l es oc=>?_,fun a=>?_⟩
 ·exact Er hu 9999 b a w
 ·simp only [Instr.findKey,Sem.run_bind,run_underlying hu,Result.andThen_ok]
  rw [sD a l es 0 oc]
  simp
 ·exact Hn 9999 a
namespace Hp
variable {κ ν:Type} [DecidableEq κ] {ek:κ->Value} {ev:ν->Value}
variable {S:List Nat} {w0 w:World} {ae:List aa} {P:Program}
theorem lS (h:Hp S w0 w ae) (i:Nat) {b:Nat} {g:κ->Option ν} {mt kt vt:TypeId} {kd:Kd} {inf:TypeInfo} {k:κ} {vk:ν->kd.T} {z:kd.T} {K:kd.T->World->Prop} {kv:Value} (Fe:kv=ek k)
  (hi:(ae[i]?).map aa.holds=some (fX b ek ev g).holds) (hm:P.underlying mt=some (.map kt vt)) (hk:zA P kt ek) (ic:P.info? vt=some inf) (hz:inf.zero=some (kd.inj z)) (hv: ∀v,ev v=kd.inj (vk v))
  (hK:K (match g k with | some v=>vk v | none=>z) w):
  gp [.one kd] P (Instr.lookup mt (.map (some b)) kv false) w K:=by
 subst Fe
 obtain⟨O,l,⟨⟨es,clock,hb,oc,_⟩,_⟩,bE,hg⟩:=h.dQ hi
 have iV: ∀w',Ext w w'->w'.heap[b]? =some (.map es clock):=fun w' he=>(he.2 b (afL.1 hb).1).trans hb
 obtain⟨k1,k2⟩:=yq oc
 refine⟨kd.inj (match g k with | some v=>vk v | none=>z),fun w' he=>?_,?_⟩
 ·have hf:=hk.Vt w' k _ _ k1
  simp only [Instr.lookup,Sem.run_bind,run_underlying hm,Result.andThen_ok,MapKept.run_getObj_map (iV w' he),Sem.run_pure,hk.Vs,hf]
  rw [<-hg k]
  unfold gh
  cases hx:(l.map (·.1)).findIdx? (fun b=>decide (b=k)) with
  | none=>simp [zeroValue,typeInfo,ic,hz]
  | some j=>
   obtain⟨ar,_,_⟩:=agB.1 hx
   simp only [afP] at ar
   have e1:(es.toList.map (·.val))[j]? =some (ev (l[j]).2):=by rw [k2];simp [ar]
   rw [afC,af2] at e1
   obtain⟨en,h1,h2⟩:=e1
   have rY:es[j]? =some en:=by simpa using h1
   simp [rY,h2,ar,hv]
 ·show eM _ _ _ _
  simp only [eM,pq,flat,tI,kI,mc,Sh.VX,List.append]
  show Kd.view kd (kd.inj _) _
  rw [Kd.y8]
  exact hK
end Hp
end Go.Den
end

section
namespace Go.Proofs.YtcccjgmekakabaaGreat.FW
open F
open Go Go.Den Go.Proofs
open FI (af ay)
open FT (az di bM cc dz gm bD)
def bit (set:Int) (k:Nat):Int:=(set / 2 ^ k) % 2
theorem uN {set:Int} {k:Nat} (h0:0<=set) (h1:set < 4611686018427387904) (hk:k < 64):
  IntKind.i64.wrap ((BitVec.ofInt 64 (Int.fdiv set (2 ^ (min (Int.toNat (k:Int)) 64))) &&& BitVec.ofInt 64 1).toNat:Nat)=bit set k:=by
 have e1:min (Int.toNat (k:Int)) 64=k:=by rw [afu];omega
 have hp:(0:Int) < 2 ^ k:=by exact_mod_cast ain k
 rw [e1,ag4 _ (by omega)]
 have hq0:0<=set / 2 ^ k:=Int.ediv_nonneg h0 (by omega)
 have hq1:set / 2 ^ k<=set:=Int.ediv_le_self _ h0
 unfold bit
 generalize set / 2 ^ k=q at hq0 hq1
 have e2:(BitVec.ofInt 64 q &&& BitVec.ofInt 64 1).toNat=q.toNat % 2:=by
  rw [BitVec.toNat_and]
  have a1:(BitVec.ofInt 64 q).toNat=q.toNat:=by rw [ahT];omega
  have a2:(BitVec.ofInt 64 1).toNat=1:=by decide
  rw [a1,a2,Nat.and_one_is_mod]
 rw [e2,aB (by omega) (by omega)]
 omega
def fl (ks:List (ByteArray×List ByteArray)) (kind:Int):Option Nat:=if 1<=kind then (ks[(kind - 1).toNat]?).map (·.2.length) else none
def eL (ks:List (ByteArray×List ByteArray)) (set:Int):Nat->Nat
 | 0=>0
 | q+1=>eL ks set q+if bit set (q+1)=1 then ((ks[q]?).map (·.2.length)).getD 0 else 0
theorem fR {ks:List (ByteArray×List ByteArray)} (h: ∀x∈ks,x.2.length<=4) (set:Int): ∀q,eL ks set q<=4*q
 | 0=>by simp [eL]
 | q+1=>by
  have ih:=fR h set q
  rw [eL]
  split
  ·cases hx:ks[q]? with
   | none=>simp;omega
   | some x=>
    have:=h x (afz hx)
    simp;omega
  ·omega
section
variable {S:List Nat} {w0 w:World} {ae:List aa}
theorem kc (h:Hp S w0 w ae) (i j j2:Nat) {b:Nat} {sk:Sl} {cells:List Value} {xs:List KS} (hi:(ae[i]?).map aa.holds=some (ai b 91 (.slice sk.a sk.len sk.cap :: cells)).holds)
  (hj:(ae[j]?).map aa.holds=some (aj sk 107 2 du xs).holds) (DR:(ae[j2]?).map aa.holds=some (an (xs.map tF)).holds) (hl:xs.length<=1000) {kind:Int} (h1: -9223372036854775808<=kind) (h2:kind<=9223372036854775807) {K:Int->Bool->World->Prop}
  (hK:match fl (kinds xs) kind with | some n=>K (n:Nat) true w | none=>K 0 false w):Sn (some ⟨b,0,none⟩) kind w K:=by
 refine Pg ?_
 unfold f55
 have eQ:=h.len j hj
 refine⟨fun w'=>w'=w /\ 1<=kind /\ kind<=xs.length,?_,?_⟩
 ·by_cases k1:kind < 1
  ·refine aE (by simpa using k1) ?_
   have:fl (kinds xs) kind=none:=by unfold fl;rw [if_neg (by omega)]
   rw [this] at hK;exact hK
  refine aF (by simpa using k1) ?_
  refine bg ?_
  refine h.cx (k:=.sl) (x:=sk) i hi rfl ?_
  by_cases k2:kind > xs.length
  ·refine aE (by simp;omega) ?_
   have:fl (kinds xs) kind=none:=by
    unfold fl;rw [if_pos (by omega),af0 (by simp [kinds];omega)];rfl
   rw [this] at hK;exact hK
  ·exact aF (by simp;omega) ⟨rfl,by omega,by omega⟩
 rintro _ ⟨rfl,k1,k2⟩
 have ar:(kind - 1).toNat < xs.length:=by omega
 have hx:xs[(kind - 1).toNat]? =some xs[(kind - 1).toNat]:=by simp [ar]
 have hf:=B0 h j2 DR hx
 have e:fl (kinds xs) kind=some (xs[(kind - 1).toNat]).2.2.length:=by
  unfold fl
  rw [if_pos k1]
  unfold kinds
  rw [afC,hx];rfl
 rw [e] at hK
 generalize xs[(kind - 1).toNat]=x at hx hf hK
 refine bg ?_
 refine h.cx (k:=.sl) (x:=sk) i hi rfl ?_
 rw [aB (by omega) (by omega)]
 refine h.sq j hj (by omega) hx aU fun a hc=>?_
 refine j8 (k:=.sl) (x:=x.2.1) (hc 1 (by omega)) rfl ?_
 rw [hf.2] at hK
 exact hK
theorem nS (h:Hp S w0 w ae) (i j j2:Nat) {b:Nat} {sk:Sl} {cells:List Value} {xs:List KS} (hi:(ae[i]?).map aa.holds=some (ai b 91 (.slice sk.a sk.len sk.cap :: cells)).holds)
  (hj:(ae[j]?).map aa.holds=some (aj sk 107 2 du xs).holds) (DR:(ae[j2]?).map aa.holds=some (an (xs.map tF)).holds) (hl:xs.length<=12) (h4: ∀x∈xs,x.2.2.length<=4) {set:Int} (s0:0<=set) (s1:set < 4611686018427387904) {q:Nat} (hq:q<=xs.length) {K:Int->World->Prop}
  (hK:K (eL (kinds xs) set q:Nat) w):Ns (some ⟨b,0,none⟩) set ((q+1:Nat):Int) w K:=by
 refine Ph ?_
 unfold f57
 have eQ:=h.len j hj
 have I8: ∀x∈kinds xs,x.2.length<=4:=fun x hx=>by
  obtain⟨y,hy,rfl⟩:=afQ.1 hx
  exact h4 y hy
 refine⟨fun n k m w'=> ∃p:Nat,n=(eL (kinds xs) set p:Nat) /\ k=((p+1:Nat):Int) /\ p<=q /\ m=q - p /\ w'=w,⟨q,0,rfl,rfl,by omega,rfl,rfl⟩,?_⟩
 rintro n k m w2 ⟨p,rfl,rfl,hp,rfl,rfl⟩
 have hle:=fR I8 set p
 by_cases ar:p < q
 ·refine aE (by simp;omega) ⟨by omega,?_⟩
  have hx:xs[p]? =some xs[p]:=afD (by omega)
  have hf:=B0 h j2 DR hx
  have ea:eL (kinds xs) set (p+1)=eL (kinds xs) set p+if bit set (p+1)=1 then (xs[p]).2.2.length else 0:=by
   rw [eL]
   have:(kinds xs)[p]? =some ((xs[p]).1,(xs[p]).2.2):=by simp [kinds,hx]
   rw [this];rfl
  have hx4:=h4 xs[p] (afR (by omega))
  generalize xs[p]=x at hx hf ea hx4
  rw [uN s0 s1 (by omega)]
  by_cases hb:bit set (p+1)=1
  ·refine aE (by simpa using hb) ?_
   rw [if_pos hb] at ea
   refine bg ?_
   refine h.cx (k:=.sl) (x:=sk) i hi rfl ?_
   rw [aB (n:=((p+1:Nat):Int) - 1) (by omega) (by omega)]
   refine h.sq j hj (by omega) (by rw [show (((p+1:Nat):Int) - 1).toNat=p by omega];exact hx) aU fun a hc=>?_
   refine j8 (k:=.sl) (x:=x.2.1) (hc 1 (by omega)) rfl ?_
   have:=hf.2
   exact⟨q - (p+1),by omega,p+1,by rw [aB (by omega) (by omega),ea];omega,by rw [aB (by omega) (by omega)];omega,by omega,rfl,rfl⟩
  ·refine aF (by simpa using hb) ?_
   rw [if_neg hb,aho] at ea
   exact⟨q - (p+1),by omega,p+1,by rw [ea];rfl,by rw [aB (by omega) (by omega)];omega,by omega,rfl,rfl⟩
 ·refine aF (by simp;omega) ?_
  obtain rfl:p=q:=by omega
  exact hK
end
end Go.Proofs.YtcccjgmekakabaaGreat.FW
end

section
namespace Go.Den
open Go.RowKit
variable {ds:List Deferred}
structure Grw (w w':World):Prop where
 os:w'.os=w.os
 tape:w'.tape=w.tape
 output:w'.output=w.output
 size:w.heap.size<=w'.heap.size
 block: ∀k,k < w.heap.size->w'.heap[k]? =w.heap[k]?
structure Trn (l:Nat) (w w':World):Prop where
 os:w'.os=w.os
 tape:w'.tape=w.tape
 output:w'.output=w.output
 size:w.heap.size<=w'.heap.size
 block: ∀k,k < w.heap.size->k≠l->w'.heap[k]? =w.heap[k]?
section
variable {P:Program} {N:Nat} {H:Hints} {R:List (Nat×Kd)}
end
end Go.Den
end

section
namespace Go.Den
open Go.RowKit
def acD (k:Nat):aa:=
  { holds:=fun w O=>O= [k] /\ k < w.heap.size
    fr:=fun h hf _=>⟨h.1,ahh h.2 hf.size⟩
    lt:=fun h j hj=>by rw [h.1] at hj;simp only [afF] at hj;subst hj;exact h.2}
namespace Hp
variable {S:List Nat} {w0 w:World} {ae:List aa}
theorem nT {Li:List aa} {t:aa} (h:Hp S w0 w (ae++Li++ [t])):Hp S w0 w (ae++ [t]):=by
 refine h.GB (List.range ae.length++ [ae.length+Li.length]) ?_ (by simp) (fun n j hn=>?_)
 ·rw [ago]
  refine⟨aii,by simp,fun a ha b hb=>?_⟩
  simp only [agC,afF] at ha hb
  omega
 ·by_cases ar:n < ae.length
  ·rw [afx (by simpa using ar)] at hn
   rw [agV ar] at hn
   simp only [afy] at hn
   subst hn
   rw [afA,afx ar,afx ar]
  ·rw [afv (by simpa using ar)] at hn
   have hz:n - (List.range ae.length).length=0:=by
    rcases agY (n - (List.range ae.length).length) with h | h
    ·exact h
    ·rw [af0 (by simp only [af6,agU];omega)] at hn;cases hn
   rw [hz] at hn
   simp only [afJ,afy] at hn
   subst hn
   simp only [aht] at hz
   have hn:n=ae.length:=by omega
   subst hn
   rw [afv (by simp),afv (by omega)]
   simp
end Hp
end Go.Den
end

section
namespace Go.Proofs.YtcccjgmekakabaaGreat.FW
open F
open Go Go.Den Go.Proofs
open FI (af ay)
open FT (az di bM cc dz gm bD iv)
theorem xk:Tryz.prog.underlying 88=some (.map 33 3):=by kernel_rfl
theorem xl:Tryz.prog.underlying 89=some (.map 3 144):=by kernel_rfl
theorem B8: ∃inf:TypeInfo,Tryz.prog.info? 144=some inf /\ inf.zero=some (.pointer none) /\ inf.size=1 /\ inf.bytes=8:=fE (by kernel_rfl)
theorem wv:zA Tryz.prog 3 (Value.int .i64):=Ho P6
theorem lN: ∃inf:TypeInfo,Tryz.prog.info? 3=some inf /\ inf.zero=some (.int .i64 0) /\ inf.size=1 /\ inf.bytes=8:=fE (by kernel_rfl)
structure WM where
 ks:List (ByteArray×List ByteArray)
 au:af
 aJ:bM->Option Int
 cD:List (Int×az)
abbrev TT:=Int×Nat×az
def tT (x:TT):aa:=di x.2.1 x.2.2
def db (T:List TT) (set:Int):Option Nat:=(T.find? fun x=>decide (x.1=set)).map (·.2.1)
def pv (b:Nat):Value:=.pointer (some ⟨b,0,none⟩)
structure WH where
 sk:Sl
 xs:List KS
 pb:Nat
 ms:Nat
 mt:Nat
 T:List TT
def WH.v7 (b:Nat) (q:WH):aa:=ai b 91 [.slice q.sk.a q.sk.len q.sk.cap,.pointer (some ⟨q.pb,0,none⟩),.map (some q.ms),.map (some q.mt)]
def WH.rest (m:WM) (q:WH):List aa:= [aj q.sk 107 2 du q.xs,an (q.xs.map tF),ay 149 q.pb m.au,fX q.ms cc (Value.int .i64) m.aJ,fX q.mt (Value.int .i64) pv (db q.T),an (q.T.map tT)]
def WH.fits (m:WM) (q:WH):Prop:=kinds q.xs=m.ks /\ q.T.map (fun x=>(x.1,x.2.2))=m.cD
def jH (b:Nat) (m:WM):aa:=KK fun q:WH=>kz (q.fits m) (aX (q.v7 b) (aX (aj q.sk 107 2 du q.xs) (aX (an (q.xs.map tF)) (aX (ay 149 q.pb m.au) (aX (fX q.ms cc (Value.int .i64) m.aJ) (aX (fX q.mt (Value.int .i64) pv (db q.T)) (an (q.T.map tT))))))))
section
variable {S:List Nat} {w0 w:World} {ae:List aa}
theorem Ql (h:Hp S w0 w ae) {i b:Nat} {m:WM} (hi:ae[i]? =some (jH b m)): ∃q:WH,q.fits m /\ Hp S w0 w (ae.set i (q.v7 b)++q.rest m):=by
 have hl:=(aft.1 hi).1
 obtain⟨q,h⟩:=h.oX hi (fun _=>rfl)
 obtain⟨hn,h⟩:=h.nO (i:=i) (by simp [hl];rfl) rfl
 have h:=h.split (i:=i) (by simp [hl];rfl) rfl rfl
 have e1: ∀(l:List aa) (t:aa),(l++ [t])[l.length]? =some t:=fun l t=>by simp
 have h:=h.split (e1 _ _) rfl rfl
 simp only [afI _ _ (afV _),af9,afN] at h
 have h:=h.split (e1 _ _) (aK _) rfl
 rw [afI _ _ (afV _),af9,afN] at h
 have h:=h.split (e1 _ _) rfl rfl
 rw [afI _ _ (afV _),af9,afN] at h
 have h:=h.split (e1 _ _) rfl rfl
 rw [afI _ _ (afV _),af9,afN] at h
 have h:=h.split (e1 _ _) rfl (aK _)
 rw [afI _ _ (afV _),af9,afN] at h
 refine⟨q,hn,?_⟩
 unfold WH.rest
 simpa using h
theorem Lj {b:Nat} {m:WM} {q:WH} {rest:List aa} (hn:q.fits m) (h:Hp S w0 w (q.v7 b :: (q.rest m++rest))):Hp S w0 w (jH b m :: rest):=by
 unfold WH.rest at h
 simp only [af3,aga] at h
 have h:=h.aL (i:=5) (j:=6) (by omega) rfl rfl rfl (aK _)
 have h:=h.aL (i:=4) (j:=5) (by omega) rfl rfl rfl rfl
 have h:=h.aL (i:=3) (j:=4) (by omega) rfl rfl rfl rfl
 have h:=h.aL (i:=2) (j:=3) (by omega) rfl rfl (aK _) rfl
 have h:=h.aL (i:=1) (j:=2) (by omega) rfl rfl rfl rfl
 have h:=h.aL (i:=0) (j:=1) (by omega) rfl rfl rfl rfl
 have h:=h.jA (i:=0) hn rfl rfl
 have h:=h.mg (f:=fun q:WH=>kz (q.fits m) (aX (q.v7 b) (aX (aj q.sk 107 2 du q.xs) (aX (an (q.xs.map tF)) (aX (ay 149 q.pb m.au) (aX (fX q.ms cc (Value.int .i64) m.aJ) (aX (fX q.mt (Value.int .i64) pv (db q.T)) (an (q.T.map tT))))))))) (i:=0) q rfl rfl
 have h:Hp S w0 w (jH b m :: ao :: ao :: ao :: ao :: ao :: ao :: rest):=h
 exact h.fc.fc.fc.fc.fc.fc
theorem uG (h:Hp S w0 w ae) (i j:Nat) {s:Sl} {xs:List KS} (hi:ae[i]? =some (aj s 107 2 du xs)) (hj:ae[j]? =some (an (xs.map tF))) (hl:xs.length<=1000000) (dw: ∀x∈xs,x.1.size<=1000000000000 /\ ∀y∈x.2.2,y.size<=1000000000000) {K:Option Addr->Int->World->Prop}
  (bK:cC (kinds xs)-> ∀b w',Hp S w0 w' (ae++ [jH b ⟨kinds xs,⟨200,[],[],[]⟩,fun _=>none,[]⟩])->K (some ⟨b,0,none⟩) 0 w') (da: ¬cC (kinds xs)-> ∀w',Hp S w0 w' ae->K none 65 w'):Nr s w K:=by
 refine Gg ?_
 unfold f13
 refine G3 h i j (by rw [hi];rfl) (by rw [hj];rfl) (by omega) dw fun w1 h=>?_
 by_cases hm:cC (kinds xs)
 ·rw [decide_eq_true hm]
  refine aF (by simp) ?_
  have ky:=(aft.1 hi).1
  have gN:=(aft.1 hj).1
  have h4: ∀x∈xs,x.2.2.length<=4:=fun x hx=>(hm.1 (x.1,x.2.2) (afQ.2 ⟨x,hx,rfl⟩)).1
  have wo:xs.length<=12:=by have:=hm.2.2.1;simpa [kinds] using this
  refine FI.Mq h (n:=200) (by omega) (by omega) fun pb w2 h=>?_
  refine aF (by simp) ?_
  refine sA h i j (by rw [afx ky];exact hi) (by rw [afx gN];exact hj) (by omega) (fun x hx=>by have:=h4 x hx;omega) fun r ys w3 wP h=>?_
  refine h.wX fun ms w4 h=>?_
  refine h.wX fun mt w5 h=>?_
  refine h.nw (c:= [_,_,_,_]) fun b w6 h=>?_
  have h:=h.grow (Fr.refl _ _) (t:=an (([]:List TT).map tT)) (O:= []) rfl (by simp) rfl
  simp only [afA,af3,aga] at h
  have cL: ∀{l:List aa} (k:Nat),(ae++l)[ae.length+k]? =l[k]? :=fun{l} k=>by rw [afv (by omega)];simp
  have fB: ∀{l:List aa} (k:Nat) (t:aa),(ae++l).set (ae.length+k) t=ae++l.set k t:=fun{l} k t=>by rw [afI _ _ (by omega)];simp
  have h:=h.xd (i:=ae.length+3) cc (Value.int .i64) (by rw [cL];rfl)
  rw [fB] at h
  have h:=h.xd (i:=ae.length+4) (Value.int .i64) pv (by rw [cL];rfl)
  rw [fB] at h
  simp only [afN,afZ] at h
  have et:(fun _=>none:Int->Option Nat)=db []:=rfl
  rw [et] at h
  have q:WH.fits ⟨kinds xs,⟨200,[],[],[]⟩,fun _=>none,[]⟩ ⟨r,ys,pb,ms,mt,[]⟩:=⟨wP,rfl⟩
  have h:=h.aL (i:=ae.length+4) (j:=ae.length+6) (by omega) (by rw [cL];rfl) (by rw [cL];rfl) rfl (aK _)
  rw [fB,fB] at h
  simp only [afN,afZ] at h
  have h:=h.aL (i:=ae.length+3) (j:=ae.length+4) (by omega) (by rw [cL];rfl) (by rw [cL];rfl) rfl rfl
  rw [fB,fB] at h
  simp only [afN,afZ] at h
  have h:=h.aL (i:=ae.length+0) (j:=ae.length+3) (by omega) (by rw [cL];rfl) (by rw [cL];rfl) rfl rfl
  rw [fB,fB] at h
  simp only [afN,afZ] at h
  have h:=h.aL (i:=ae.length+2) (j:=ae.length+0) (by omega) (by rw [cL];rfl) (by rw [cL];rfl) (aK _) rfl
  rw [fB,fB] at h
  simp only [afN,afZ] at h
  have h:=h.aL (i:=ae.length+1) (j:=ae.length+2) (by omega) (by rw [cL];rfl) (by rw [cL];rfl) rfl rfl
  rw [fB,fB] at h
  simp only [afN,afZ] at h
  have h:=h.aL (i:=ae.length+5) (j:=ae.length+1) (by omega) (by rw [cL];rfl) (by rw [cL];rfl) rfl rfl
  rw [fB,fB] at h
  simp only [afN,afZ] at h
  have h:=h.jA (i:=ae.length+5) q (by rw [cL];rfl) rfl
  rw [fB] at h
  simp only [afN,afZ] at h
  have h:=h.mg (f:=fun q:WH=>kz (q.fits ⟨kinds xs,⟨200,[],[],[]⟩,fun _=>none,[]⟩) (aX (q.v7 b) (aX (aj q.sk 107 2 du q.xs) (aX (an (q.xs.map tF)) (aX (ay 149 q.pb ⟨200,[],[],[]⟩) (aX (fX q.ms cc (Value.int .i64) (fun _=>none)) (aX (fX q.mt (Value.int .i64) pv (db q.T)) (an (q.T.map tT))))))))) (i:=ae.length+5) ⟨r,ys,pb,ms,mt,[]⟩ (by rw [cL];rfl) rfl
  rw [fB] at h
  simp only [afN,afZ] at h
  have h:Hp S w0 w6 (ae++ [ao,ao,ao,ao,ao]++ [jH b ⟨kinds xs,⟨200,[],[],[]⟩,fun _=>none,[]⟩]++ [ao]):=by
   simp only [afA,af3,aga]
   exact h
  exact bK hm b _ h.front.nT
 ·rw [decide_eq_false hm]
  exact aE rfl (da hm _ h)
end
end Go.Proofs.YtcccjgmekakabaaGreat.FW
end

section
namespace Go.Den.Hp
theorem gC {S:List Nat} {w0 w:World} {ae:List aa} (h:Hp S w0 w ae) (js:List Nat) (bE:js.Nodup) {ts:List aa} (e:js.map (fun j=>ae[j]?)=ts.map some):Hp S w0 w ts:=by
 have hl:ts.length=js.length:=by have:=congrArg List.length e;simpa using this.symm
 refine h.GB js bE hl (fun n j hj=>?_)
 have h1:(js.map (fun j=>ae[j]?))[n]? =some (ae[j]?):=by rw [afC,hj];rfl
 rw [e,afC] at h1
 cases ht:ts[n]? with
 | none=>rw [ht] at h1;cases h1
 | some t=>rw [ht] at h1;exact(afK h1).symm
end Go.Den.Hp
namespace Go.Proofs.YtcccjgmekakabaaGreat.FW
open F
open Go Go.Den Go.Proofs
open FI (af ay)
open FT (az di bM cc dz gm bD iv)
def WH.all (b:Nat) (m:WM) (q:WH) (u:aa):List aa:=
 [q.v7 b,u,aj q.sk 107 2 du q.xs,an (q.xs.map tF),ay 149 q.pb m.au,fX q.ms cc (Value.int .i64) m.aJ,fX q.mt (Value.int .i64) pv (db q.T),an (q.T.map tT)]
theorem Hq {T:List TT} {set:Int} {tb:Nat} {t:az} (hn:db T set=none):aH (db T) set (some tb)=db (T++ [(set,tb,t)]):=by
 funext k
 unfold aH db
 rw [List.find?_append]
 unfold db at hn
 by_cases hk:k=set
 ·subst hk
  rw [if_pos rfl]
  cases hf:T.find? (fun x=>decide (x.1=k)) with
  | some x=>rw [hf] at hn;cases hn
  | none=>simp
 ·rw [if_neg hk]
  cases hf:T.find? (fun x=>decide (x.1=k)) with
  | some x=>rfl
  | none=>
   have: ¬set=k:=fun e=>hk e.symm
   simp [this]
theorem xm {T:List TT} {set:Int} {tb:Nat} (h:db T set=some tb): ∃(k:Nat) (t:az),T[k]? =some (set,tb,t):=by
 unfold db at h
 obtain⟨x,hx,rfl⟩:=af2.1 h
 have h1:=ahR hx
 have h2:=ag7 hx
 simp only [decide_eq_true_eq] at h1
 obtain⟨k,hk,rfl⟩:=agQ.1 h2
 exact⟨k,(T[k]).2.2,by rw [afD hk];rw [<-h1]⟩
theorem xn {T:List TT} {set:Int} (h:db T set=none): ∀x∈T,x.1≠set:=by
 unfold db at h
 intro x hx e
 have:=ahS.1 (aib.1 h) x hx
 simp [e] at this
section
variable {S:List Nat} {w0 w:World} {ae:List aa}
set_option maxHeartbeats 1000000 in
theorem yC {b:Nat} {m:WM} {q:WH} {u:aa} {more:List aa} (h:Hp S w0 w (q.all b m u++more)) (hl:q.xs.length<=12) (h4: ∀x∈q.xs,x.2.2.length<=4) {set:Int} (s0:0<=set) (s1:set < 4611686018427387904) {K:Option Addr->World->Prop}
  (hK: ∀T' tb w',(T'=q.T /\ ∃(k:Nat) (t:az),q.T[k]? =some (set,tb,t)) \/ (T'=q.T++ [(set,tb,⟨eL (kinds q.xs) set q.xs.length,[]⟩)] /\ ∀x∈q.T,x.1≠set)->Hp S w0 w' (({ q with T:=T'}:WH).all b m u++more)->K (some ⟨tb,0,none⟩) w'):Ny (some ⟨b,0,none⟩) set w K:=by
 refine JZ ?_
 unfold f114
 obtain⟨inf,p1,p2,p3,p4⟩:=B8
 have eQ:=h.len (s:=q.sk) 2 rfl
 refine bg ?_
 refine h.ld (n:=3) (k:=.m) (x:=some q.mt) 0 rfl rfl ?_
 refine h.lS (kd:=.p) (vk:=fun tb=>some ⟨tb,0,none⟩) (z:=(none:Option Addr)) (ek:=Value.int .i64) (ev:=pv) (g:=db q.T) (k:=set) 6 rfl rfl xl wv p1 p2 (fun _=>rfl) ?_
 cases ht:db q.T set with
 | some tb=>
  refine aF (by simp) ?_
  exact hK q.T tb w (Or.inl ⟨rfl,xm ht⟩) h
 | none=>
  refine aE (by simp) ?_
  refine bg ?_
  refine h.cx (k:=.sl) (x:=q.sk) 0 rfl rfl ?_
  rw [show IntKind.i64.wrap ((q.sk.len:Int)+1)=((q.xs.length+1:Nat):Int) by rw [aB (by omega) (by omega)];omega]
  refine nS h 0 2 3 (cells:= [_,_,_]) rfl rfl rfl hl h4 s0 s1 (afV _) ?_
  have I8: ∀x∈kinds q.xs,x.2.length<=4:=fun x hx=>by
   obtain⟨y,hy,rfl⟩:=afQ.1 hx
   exact h4 y hy
  have hle:=fR I8 set q.xs.length
  refine FT.uG h (by omega) (by omega) fun tb w1 h=>?_
  rw [afu] at h
  refine bg ?_
  refine h.ld (n:=3) (k:=.m) (x:=some q.mt) 0 rfl rfl ?_
  refine h.update (ek:=Value.int .i64) (ev:=pv) (g:=db q.T) (k:=set) (v:=tb) 6 rfl rfl xl wv rfl fun w2 h=>?_
  obtain⟨t0,Vz⟩: ∃t0:az,t0=⟨eL (kinds q.xs) set q.xs.length,[]⟩:=⟨_,rfl⟩
  rw [<-Vz] at h
  rw [Hq (t:=t0) ht] at h
  obtain⟨A,hA⟩: ∃A:List aa,A= [q.v7 b,u,aj q.sk 107 2 du q.xs,an (q.xs.map tF),ay 149 q.pb m.au,fX q.ms cc (Value.int .i64) m.aJ,fX q.mt (Value.int .i64) pv (db (q.T++ [(set,tb,t0)])),an (q.T.map tT)]++more:=⟨_,rfl⟩
  have h:Hp S w0 w2 (A++ [tT (set,tb,t0)]):=by rw [hA];exact h
  have Tq:7 < A.length:=by rw [hA];simp
  have h:=h.join (i:=7) (j:=A.length) (a:=an (q.T.map tT)) (b:=tT (set,tb,t0)) (c:=an ((q.T++ [(set,tb,t0)]).map tT)) (by omega) (by rw [afx Tq,hA];rfl) (by simp) (aK _) rfl (aK _) (fun w O1 O2 g1 g2 g3=>by
   rw [agh]
   exact iy g1 (us:= [tT (set,tb,t0)]) (O2:=O2) ⟨O2,[],g2,rfl,by simp,by simp⟩ g3)
  have e:((A++ [tT (set,tb,t0)]).set 7 (an ((q.T++ [(set,tb,t0)]).map tT))).set A.length ao=A.set 7 (an ((q.T++ [(set,tb,t0)]).map tT))++ [ao]:=by
   rw [agx _ _ Tq,afI _ _ (by rw [agi];omega),agi,af9];rfl
  rw [e] at h
  have h:=h.front
  rw [hA] at h
  exact hK (q.T++ [(set,tb,t0)]) tb w2 (.inr ⟨by rw [Vz],xn ht⟩) h
theorem z7 {T:List TT} {k:Nat} {set:Int} {tb:Nat} {t t':az} (hk:T[k]? =some (set,tb,t)):db (T.set k (set,tb,t'))=db T:=by
 have:(T.set k (set,tb,t')).map (fun x=>(x.1,x.2.1))=T.map (fun x=>(x.1,x.2.1)):=by
  rw [agR]
  apply agd
  intro j
  by_cases hj:j=k
  ·subst hj
   have ar:=(aft.1 hk).1
   rw [afX (by simpa using ar),afC,hk];rfl
  ·rw [afY (fun e=>hj e.symm)]
 have key: ∀(A:List TT) (s:Int),db A s=((A.map (fun x=>(x.1,x.2.1))).find? (fun x=>decide (x.1=s))).map (·.2):=fun A s=>by
  unfold db
  induction A with
  | nil=>rfl
  | cons a A ih=>
   rw [agl,ahs,ahs]
   by_cases h:a.1=s
   ·simp [h]
   ·simp only [h,decide_false]
    exact ih
 funext s
 rw [key,key,this]
set_option maxHeartbeats 1000000 in
theorem B9 {b:Nat} {m:WM} {q:WH} {u:aa} {more:List aa} (h:Hp S w0 w (q.all b m u++more)) (hl:q.xs.length<=12) (h4: ∀x∈q.xs,x.2.2.length<=4) (bK: ∀x∈q.T,x.2.2.Ok) {set:Int} (s0:0<=set) (s1:set < 4611686018427387904) {e:bM} {vs:Sl} {xs:List Int} (hu:Hp.Reads u vs 1 iv xs) {K:World->Prop}
  (hK: ∀(T1:List TT) (k tb:Nat) (t:az) w',(T1=q.T \/ (T1=q.T++ [(set,tb,⟨eL (kinds q.xs) set q.xs.length,[]⟩)] /\ ∀x∈q.T,x.1≠set))->T1[k]? =some (set,tb,t)->
   Hp S w0 w' (({ q with T:=T1.set k (set,tb,(t.oe e xs).1)}:WH).all b { m with aJ:=aH m.aJ e (some set)} u++more)->K w'):Ro (some ⟨b,0,none⟩) e.1 e.2 set vs w K:=by
 refine Pj ?_
 unfold f59
 refine h.nw (c:= [_,_]) fun eb w1 h=>?_
 have h:Hp S w0 w1 (q.all b m u++(more++ [ai eb 33 [.int .i64 e.1,.int .i64 e.2]])):=by rw [<-afA];exact h
 refine h.dr fun w2 h=>?_
 refine bg ?_
 refine h.ld (n:=2) (k:=.m) (x:=some q.ms) 0 rfl rfl ?_
 have ge: ∀{q:WH} {m:WM},((q.all b m u++(more++ [ai eb 33 [.int .i64 e.1,.int .i64 e.2]]))[8+more.length]?).map aa.holds=some (ai eb 33 [.int .i64 e.1,.int .i64 e.2]).holds:=fun{q m}=>by
  have:(q.all b m u).length=8:=rfl
  rw [afv (by omega),afv (by omega),this]
  simp
 refine h.cx (k:=.i .i64) (x:=e.1) (8+more.length) ge rfl ?_
 refine h.ld (n:=1) (k:=.i .i64) (x:=e.2) (8+more.length) ge rfl ?_
 refine h.update (ek:=cc) (ev:=Value.int .i64) (g:=m.aJ) (k:=e) (v:=set) 5 rfl rfl xk bD rfl fun w3 h=>?_
 have h:Hp S w0 w3 (q.all b { m with aJ:=aH m.aJ e (some set)} u++(more++ [ai eb 33 [.int .i64 e.1,.int .i64 e.2]])):=h
 refine h.dr fun w4 h=>?_
 refine h.cx (k:=.i .i64) (x:=e.1) (8+more.length) ge rfl ?_
 refine h.ld (n:=1) (k:=.i .i64) (x:=e.2) (8+more.length) ge rfl ?_
 refine yC h hl h4 s0 s1 fun T1 tb w5 hT h=>?_
 refine⟨h.GJ (8+more.length) ge rfl,h.IZ (n:=1) (8+more.length) ge rfl,?_⟩
 obtain⟨k,t,hk,Ts⟩: ∃(k:Nat) (t:az),T1[k]? =some (set,tb,t) /\ (T1=q.T \/ (T1=q.T++ [(set,tb,⟨eL (kinds q.xs) set q.xs.length,[]⟩)] /\ ∀x∈q.T,x.1≠set)):=by
  rcases hT with ⟨rfl,k,t,hk⟩ | ⟨rfl,da⟩
  ·exact⟨k,t,hk,.inl rfl⟩
  ·exact⟨q.T.length,⟨eL (kinds q.xs) set q.xs.length,[]⟩,by simp,.inr ⟨rfl,da⟩⟩
 have I8: ∀x∈kinds q.xs,x.2.length<=4:=fun x hx=>by
  obtain⟨y,hy,rfl⟩:=afQ.1 hx
  exact h4 y hy
 have YG:t.Ok:=by
  rcases Ts with rfl | ⟨rfl,_⟩
  ·exact bK _ (afz hk)
  ·have hm:=afz hk
   rcases afB.1 hm with hm | hm
   ·exact bK _ hm
   ·simp only [afF,agX] at hm
    obtain⟨_,_,rfl⟩:=hm
    have:=fR I8 set q.xs.length
    exact⟨by show eL (kinds q.xs) set q.xs.length<=48;omega,by simp,by simp [az.aw],by simp⟩
 obtain⟨A,hA⟩: ∃A:List aa,A=({ q with T:=T1}:WH).all b { m with aJ:=aH m.aJ e (some set)} u++(more++ [ai eb 33 [.int .i64 e.1,.int .i64 e.2]]):=⟨_,rfl⟩
 have Tq:7 < A.length:=by rw [hA];simp [WH.all]
 have YH:A[7]? =some (an (T1.map tT)):=by rw [hA];rfl
 have hA1:A[1]? =some u:=by rw [hA];rfl
 rw [<-hA] at h
 have cX:(T1.map tT)[k]? =some (tT (set,tb,t)):=by rw [afC,hk];rfl
 have h:=h.pick (i:=7) (k:=k) YH cX rfl
 have Ry:(A.set 7 (an ((T1.map tT).set k ao))).length=A.length:=agi
 refine FT.GV h A.length 1 (by omega) (e:=e) (u:=u) (b:=tb) (m:=t) YG (by rw [<-Ry,afv (afV _),af9];rfl) (by rw [afx (by omega),afY (by decide)];exact hA1) hu fun w6 h=>?_
 have cU:=(aft.1 hk).1
 rw [<-Ry,afI _ _ (afV _),af9] at h
 have h:Hp S w0 w6 (A.set 7 (an ((T1.map tT).set k ao))++ [tT (set,tb,(t.oe e xs).1)]):=h
 have h:=h.mT (i:=7) (j:=A.length) (k:=k) (ts:=(T1.map tT).set k ao) (t:=tT (set,tb,(t.oe e xs).1)) (by omega) (by rw [afx (by omega),afX Tq]) (by rw [<-Ry,afv (afV _),af9];rfl) (by rw [afX (by simpa using cU)]) rfl
 rw [agz,agx _ _ (by omega),agz,<-Ry] at h
 have e1:(A.set 7 (an ((T1.map tT).set k (tT (set,tb,(t.oe e xs).1))))++ [tT (set,tb,(t.oe e xs).1)]).set (A.set 7 (an ((T1.map tT).set k ao))).length ao=A.set 7 (an ((T1.map tT).set k (tT (set,tb,(t.oe e xs).1))))++ [ao]:=by
  rw [Ry,afI _ _ (by rw [agi];omega),agi,af9];rfl
 rw [e1] at h
 have h:=h.front
 have e2:(T1.map tT).set k (tT (set,tb,(t.oe e xs).1))=(T1.set k (set,tb,(t.oe e xs).1)).map tT:=by rw [agR]
 rw [e2,hA] at h
 have h:Hp S w0 w6 (({ q with T:=T1.set k (set,tb,(t.oe e xs).1)}:WH).all b { m with aJ:=aH m.aJ e (some set)} u++(more++ [ai eb 33 [.int .i64 e.1,.int .i64 e.2]])):=by
  unfold WH.all
  rw [show db ({ q with T:=T1.set k (set,tb,(t.oe e xs).1)}:WH).T=db T1 from z7 hk]
  exact h
 rw [<-afA] at h
 exact hK T1 k tb t w6 Ts hk h.front
end
end Go.Proofs.YtcccjgmekakabaaGreat.FW
end

section
namespace Go.Proofs.YtcccjgmekakabaaGreat.FW
open F
open Go Go.Den Go.Proofs
open FI (af ay)
open FT (az di bM cc dz gm bD iv)
section
variable {S:List Nat} {w0 w:World} {ae:List aa}
theorem qb {b:Nat} {m:WM} {q:WH} {u t:aa} {more:List aa}:(q.all b m u++(more++ [t]))[8+more.length]? =some t:=by
 have:(q.all b m u).length=8:=rfl
 rw [afv (by omega),afv (by omega),this]
 simp
set_option maxHeartbeats 1000000 in
theorem Ca {b:Nat} {m:WM} {q:WH} {u:aa} {more:List aa} (h:Hp S w0 w (q.all b m u++more)) (hp:m.au.Ok) (hl:q.xs.length<=12) {e:bM} (mw: ∀s,m.aJ e=some s->0<=s /\ s < 4611686018427387904) {kind:Int} (k1: -9223372036854775808<=kind) (k2:kind<=9223372036854775807) {K:Int->Bool->Int->Int->World->Prop}
  (hK: ∀w',Hp S w0 w' (q.all b m u++more)->(m.au.is e.1 e.2=false->K 0 false 0 41 w') /\ (m.au.is e.1 e.2=true->fl (kinds q.xs) kind=none->K 0 false 0 60 w') /\ (∀n,m.au.is e.1 e.2=true->fl (kinds q.xs) kind=some n->K ((m.aJ e).getD 0) (bit ((m.aJ e).getD 0) kind.toNat ==1) (n:Nat) 0 w')):
  Ve (some ⟨b,0,none⟩) e.1 e.2 kind w K:=by
 refine Pk ?_
 unfold f60
 obtain⟨inf,p1,p2,p3,p4⟩:=lN
 refine h.nw (c:= [_,_]) fun eb w1 h=>?_
 have h:Hp S w0 w1 (q.all b m u++(more++ [ai eb 33 [.int .i64 e.1,.int .i64 e.2]])):=by rw [<-afA];exact h
 have bk: ∀{w},Hp S w0 w (q.all b m u++(more++ [ai eb 33 [.int .i64 e.1,.int .i64 e.2]]))->Hp S w0 w (q.all b m u++more):=fun{w} h=>by
  rw [<-afA] at h;exact h.front
 refine h.dr fun w2 h=>?_
 refine bg ?_
 refine h.ld (n:=1) (k:=.p) (x:=some ⟨q.pb,0,none⟩) 0 rfl rfl ?_
 refine h.cx (k:=.i .i64) (x:=e.1) (8+more.length) (by rw [qb];rfl) rfl ?_
 refine h.ld (n:=1) (k:=.i .i64) (x:=e.2) (8+more.length) (by rw [qb];rfl) rfl ?_
 refine FI.Lg h 4 hp rfl fun w3 h=>?_
 by_cases gK:m.au.is e.1 e.2=true
 ·refine aF (by rw [gK];simp) ?_
  refine kc h 0 2 3 (cells:= [_,_,_]) rfl rfl rfl (by omega) k1 k2 ?_
  cases hf:fl (kinds q.xs) kind with
  | none=>exact aE rfl ((hK _ (bk h)).2.1 gK hf)
  | some n=>
   have hk:1<=kind /\ kind<=12:=by
    unfold fl at hf
    by_cases h1:1<=kind
    ·rw [if_pos h1] at hf
     obtain⟨x,hx,_⟩:=af2.1 hf
     have:=(aft.1 hx).1
     simp only [kinds,afP] at this
     omega
    ·rw [if_neg h1] at hf;cases hf
   refine aF (by simp) ?_
   refine h.dr fun w4 h=>?_
   refine bg ?_
   refine h.ld (n:=2) (k:=.m) (x:=some q.ms) 0 rfl rfl ?_
   refine h.cx (k:=.i .i64) (x:=e.1) (8+more.length) (by rw [qb];rfl) rfl ?_
   refine h.ld (n:=1) (k:=.i .i64) (x:=e.2) (8+more.length) (by rw [qb];rfl) rfl ?_
   refine h.lS (kd:=.i .i64) (vk:=id) (z:=(0:Int)) (ek:=cc) (ev:=Value.int .i64) (g:=m.aJ) (k:=e) 5 rfl rfl xk bD p1 p2 (fun _=>rfl) ?_
   refine h.dr fun w5 h=>?_
   have hr:0<=(m.aJ e).getD 0 /\ (m.aJ e).getD 0 < 4611686018427387904:=by
    cases VA:m.aJ e with
    | none=>simp
    | some s=>exact mw s VA
   have fin: ∀s:Int,s=(m.aJ e).getD 0->(0<=kind /\ K s (IntKind.i64.wrap ((BitVec.ofInt 64 (Int.fdiv s (2 ^ (min (Int.toNat kind) 64))) &&& BitVec.ofInt 64 1).toNat:Nat) ==1) (n:Nat) 0 w5):=fun s hs=>by
    subst hs
    refine⟨by omega,?_⟩
    obtain⟨kn,zK⟩: ∃kn:Nat,kind=kn:=⟨kind.toNat,by omega⟩
    have hb:=uN (k:=kn) hr.1 hr.2 (by omega)
    have:=(hK _ (bk h)).2.2 n gK hf
    rw [zK] at this ⊢
    rw [hb]
    rw [afu] at this
    exact this
   cases VA:m.aJ e with
   | none=>exact fin 0 (by rw [VA];rfl)
   | some s=>exact fin s (by rw [VA];rfl)
 ·have gK:m.au.is e.1 e.2=false:=by simpa using gK
  refine aE (by rw [gK];rfl) ?_
  exact(hK _ (bk h)).1 gK
end
end Go.Proofs.YtcccjgmekakabaaGreat.FW
end

section
namespace Go.Proofs.YtcccjgmekakabaaGreat.FW
open F
open Go Go.Den Go.Proofs
open FI (af ay)
open FT (az di bM cc dz gm bD iv)
section
variable {S:List Nat} {w0 w:World} {ae:List aa}
theorem Di {T:List TT} {k:Nat} {set:Int} {tb:Nat} {t:az} (bE:(T.map (·.1)).Nodup) (hk:T[k]? =some (set,tb,t)):db T set=some tb:=by
 have hm:=afz hk
 unfold db
 cases hf:T.find? (fun x=>decide (x.1=set)) with
 | none=>
  have:=ahS.1 hf _ hm
  simp at this
 | some x=>
  have h1:=ahR hf
  simp only [decide_eq_true_eq] at h1
  have h2:=ag7 hf
  obtain⟨j,hj,rfl⟩:=agQ.1 h2
  have cU:=(aft.1 hk).1
  have YI:=(aft.1 hk).2
  have:j=k:=(agF (i:=j) (j:=k) (l:=T.map (·.1)) (by simpa using hj) bE).1 (by rw [afC,afC,hk,afD hj];simp [h1])
  subst this
  rw [YI];rfl
theorem jI: ∀{ts:List aa} {k:Nat} {w:World} {O:List Nat},k < ts.length->(an (ts.set k ao)).holds w O-> ∃O',(an (ts.eraseIdx k)).holds w O' /\ ∀x∈O',x∈O
 | t :: ts,0,w,O,_,h=>by
  obtain⟨O1,O2,h1,h2,h3,h4⟩:=h
  exact⟨O2,h2,fun x hx=>(h4 x).2 (.inr hx)⟩
 | t :: ts,k+1,w,O,hk,h=>by
  obtain⟨O1,O2,h1,h2,h3,h4⟩:=h
  obtain⟨O',g1,g2⟩:=jI (k:=k) (by simpa using hk) h2
  exact⟨O1++O',⟨O1,O',h1,g1,fun x hx Br=>h3 x hx (g2 x Br),by simp⟩,fun x hx=>by
   rcases afB.1 hx with hx | hx
   ·exact(h4 x).2 (.inl hx)
   ·exact(h4 x).2 (.inr (g2 x hx))⟩
theorem nU (x:TT) (T:List TT) (s:Int):db (x :: T) s=if x.1=s then some x.2.1 else db T s:=by
 unfold db
 rw [ahs]
 by_cases h:x.1=s <;> simp [h]
theorem z8: ∀{T:List TT} {s:Int},s ∉ T.map (·.1)->db T s=none
 | [],_,_=>rfl
 | x :: T,s,h=>by
  simp only [agl,af1,not_or] at h
  rw [nU,if_neg (fun e=>h.1 e.symm)]
  exact z8 h.2
theorem uO: ∀{T:List TT} {k:Nat} {set:Int} {tb:Nat} {t:az},(T.map (·.1)).Nodup->T[k]? =some (set,tb,t)->aH (db T) set none=db (T.eraseIdx k)
 | x :: T,0,set,tb,t,bE,hk=>by
  simp only [afJ,afy] at hk
  subst hk
  simp only [agl,ags] at bE
  funext s
  show (if s=set then none else _)=db T s
  by_cases hs:s=set
  ·rw [if_pos hs,hs];exact(z8 bE.1).symm
  ·rw [if_neg hs,nU,if_neg (fun e=>hs e.symm)]
 | x :: T,k+1,set,tb,t,bE,hk=>by
  simp only [af8] at hk
  simp only [agl,ags] at bE
  have ih:=uO bE.2 hk
  have aR:x.1≠set:=fun e=>bE.1 (by rw [e];exact afQ.2 ⟨_,afz hk,rfl⟩)
  funext s
  have ih:=congrFun ih s
  show (if s=set then none else db (x :: T) s)=db (x :: T.eraseIdx k) s
  have ih:(if s=set then none else db T s)=db (T.eraseIdx k) s:=ih
  rw [nU,nU,<-ih]
  by_cases hs:s=set
  ·subst hs;simp [aR]
  ·simp [hs]
set_option maxHeartbeats 2000000 in
theorem Cb {b:Nat} {m:WM} {q:WH} {u:aa} {more:List aa} (h:Hp S w0 w (q.all b m u++more)) {e:bM} {set:Int} {k tb row:Nat} {t:az} {vals:List Int} (mw:m.aJ e=some set) (bE:(q.T.map (·.1)).Nodup) (hk:q.T[k]? =some (set,tb,t)) (bK:t.Ok) (wi:gm t e=some (row:Int)) (ei:t.rows[row]? =some (e,vals)) {K:Sl->World->Prop}
  (hK: ∀(s:Sl) (T':List TT) w',(((t.del row).rows.length≠0 /\ T'=q.T.set k (set,tb,t.del row)) \/ ((t.del row).rows.length=0 /\ T'=q.T.eraseIdx k))->
   Hp S w0 w' (({ q with T:=T'}:WH).all b { m with aJ:=aH m.aJ e none} u++more++ [aj s 2 1 iv vals])->K s w'):So (some ⟨b,0,none⟩) e.1 e.2 w K:=by
 refine Pm ?_
 unfold f61
 obtain⟨inf,p1,p2,p3,p4⟩:=lN
 obtain⟨Hr,r1,r2,r3,r4⟩:=B8
 refine h.nw (c:= [_,_]) fun eb w1 h=>?_
 have h:Hp S w0 w1 (q.all b m u++(more++ [ai eb 33 [.int .i64 e.1,.int .i64 e.2]])):=by rw [<-afA];exact h
 refine h.dr fun w2 h=>?_
 refine bg ?_
 refine h.ld (n:=2) (k:=.m) (x:=some q.ms) 0 rfl rfl ?_
 refine h.cx (k:=.i .i64) (x:=e.1) (8+more.length) (by rw [qb];rfl) rfl ?_
 refine h.ld (n:=1) (k:=.i .i64) (x:=e.2) (8+more.length) (by rw [qb];rfl) rfl ?_
 refine h.lS (kd:=.i .i64) (vk:=id) (z:=(0:Int)) (ek:=cc) (ev:=Value.int .i64) (g:=m.aJ) (k:=e) 5 rfl rfl xk bD p1 p2 (fun _=>rfl) ?_
 rw [mw]
 refine bg ?_
 refine h.ld (n:=3) (k:=.m) (x:=some q.mt) 0 rfl rfl ?_
 refine h.lS (kd:=.p) (vk:=fun tb=>some ⟨tb,0,none⟩) (z:=(none:Option Addr)) (ek:=Value.int .i64) (ev:=pv) (g:=db q.T) (k:=set) 6 rfl rfl xl wv r1 r2 (fun _=>rfl) ?_
 rw [Di bE hk]
 refine h.cx (k:=.i .i64) (x:=e.1) (8+more.length) (by rw [qb];rfl) rfl ?_
 refine h.ld (n:=1) (k:=.i .i64) (x:=e.2) (8+more.length) (by rw [qb];rfl) rfl ?_
 -- the table, apart
 obtain⟨A,hA⟩: ∃A:List aa,A=q.all b m u++(more++ [ai eb 33 [.int .i64 e.1,.int .i64 e.2]]):=⟨_,rfl⟩
 have Tq:A.length=9+more.length:=by rw [hA];simp [WH.all];omega
 have YH:A[7]? =some (an (q.T.map tT)):=by rw [hA];rfl
 have hAe:A[8+more.length]? =some (ai eb 33 [.int .i64 e.1,.int .i64 e.2]):=by rw [hA];exact qb
 have hA5:A[5]? =some (fX q.ms cc (Value.int .i64) m.aJ):=by rw [hA];rfl
 have Tt:A[0]? =some (q.v7 b):=by rw [hA];rfl
 rw [<-hA] at h
 have cX:(q.T.map tT)[k]? =some (tT (set,tb,t)):=by rw [afC,hk];rfl
 have h:=h.pick (i:=7) (k:=k) YH cX rfl
 obtain⟨B,hB⟩: ∃B:List aa,B=A.set 7 (an ((q.T.map tT).set k ao)):=⟨_,rfl⟩
 have Ry:B.length=A.length:=by rw [hB];exact agi
 have vU: ∀j,j≠7->B[j]? =A[j]? :=fun j hj=>by rw [hB,afY (fun e=>hj e.symm)]
 rw [<-hB] at h
 have Es: ∀{l:List aa} (j:Nat),(B++l)[B.length+j]? =l[j]? :=fun{l} j=>by rw [afv (by omega)];simp
 have Qm: ∀{l:List aa} (j:Nat) (t:aa),(B++l).set (B.length+j) t=B++l.set j t:=fun{l} j t=>by rw [afI _ _ (by omega)];simp
 have YJ: ∀{l:List aa} {j:Nat},j < B.length->(B++l)[j]? =B[j]? :=fun{l j} hj=>afx hj
 refine FT.q8 h (B.length+0) (b:=tb) (m:=t) (by rw [Es];rfl) fun w3 h=>?_
 rw [wi]
 refine FT.zJ h (B.length+0) (b:=tb) (m:=t) bK (by rw [Es];rfl) fun s w4=>⟨fun rr Ws xo h=>?_,fun da=>?_⟩
 ·have xo:t.rows[row]? =some rr:=xo
  rw [ei] at xo
  have xo:=afK xo
  subst xo
  have h:Hp S w0 w4 (B++ [tT (set,tb,t),aj s 2 1 iv vals]):=by
   have:=h
   rw [afA] at this
   exact this
  refine h.nw (c:= [_,_]) fun xb w5 h=>?_
  have h:Hp S w0 w5 (B++ [tT (set,tb,t),aj s 2 1 iv vals,ai xb 33 [.int .i64 0,.int .i64 0]]):=by
   have:=h
   rw [afA] at this
   exact this
  refine h.iR (B.length+2) (by rw [Es];rfl) (by simp) rfl fun w6 h=>?_
  rw [Qm] at h
  refine h.st (n:=1) (B.length+2) (by rw [Es];rfl) (by simp) rfl fun w7 h=>?_
  rw [Qm] at h
  simp only [afN,afZ] at h
  have VB: ∀{l:List aa},(B++l)[8+more.length]? =some (ai eb 33 [.int .i64 e.1,.int .i64 e.2]):=fun{l}=>by rw [YJ (by omega),vU _ (by omega)];exact hAe
  refine h.cx (k:=.i .i64) (x:=e.1) (8+more.length) (by rw [VB];rfl) rfl ?_
  refine h.ld (n:=1) (k:=.i .i64) (x:=e.2) (8+more.length) (by rw [VB];rfl) rfl ?_
  refine FT.q8 h (B.length+0) (b:=tb) (m:=t) (by rw [Es];rfl) fun w8 h=>?_
  rw [wi]
  refine FT.zM h (B.length+0) (b:=tb) (m:=t) bK (by rw [Es];rfl) fun w9 h=>?_
  have fv:row < t.rows.length:=(aft.1 ei).1
  have ed:(t.yr ((some (row:Int)).getD (-1))).1=t.del row:=by
   show (t.yr (row:Int)).1=_
   unfold az.yr
   rw [if_pos ⟨by omega,by omega⟩,afu]
  rw [ed,Qm] at h
  simp only [afN,afZ] at h
  refine h.dr fun pj h=>?_
  refine bg ?_
  have R5: ∀{l:List aa},(B++l)[0]? =some (q.v7 b):=fun{l}=>by rw [YJ (by omega),vU _ (by omega)];exact Tt
  refine h.ld (n:=2) (k:=.m) (x:=some q.ms) 0 (by rw [R5];rfl) rfl ?_
  refine h.cx (k:=.i .i64) (x:=e.1) (8+more.length) (by rw [VB];rfl) rfl ?_
  refine h.ld (n:=1) (k:=.i .i64) (x:=e.2) (8+more.length) (by rw [VB];rfl) rfl ?_
  have hB5: ∀{l:List aa},(B++l)[5]? =some (fX q.ms cc (Value.int .i64) m.aJ):=fun{l}=>by rw [YJ (by omega),vU _ (by omega)];exact hA5
  refine h.delete (ek:=cc) (ev:=Value.int .i64) (g:=m.aJ) (k:=e) 5 rfl hB5 xk bD fun nv wx h=>?_
  rw [agx _ _ (by omega)] at h
  obtain⟨C,hC⟩: ∃C:List aa,C=B.set 5 (fX q.ms cc (Value.int .i64) (aH m.aJ e none)):=⟨_,rfl⟩
  have hCl:C.length=B.length:=by rw [hC];exact agi
  rw [<-hC] at h
  have Qn: ∀{l:List aa} (j:Nat),(C++l)[C.length+j]? =l[j]? :=fun{l} j=>by rw [afv (by omega)];simp
  have acI: ∀{l:List aa} (j:Nat) (t:aa),(C++l).set (C.length+j) t=C++l.set j t:=fun{l} j t=>by rw [afI _ _ (by omega)];simp
  have VC: ∀{l:List aa} {j:Nat},j < C.length->(C++l)[j]? =C[j]? :=fun{l j} hj=>afx hj
  have cU:k < q.T.length:=(aft.1 hk).1
  have hC7:C[7]? =some (an ((q.T.map tT).set k ao)):=by rw [hC,afY (by decide),hB,afX (by omega)]
  refine FT.zH h (C.length+0) (b:=tb) (m:=t.del row) (by rw [Qn];rfl) ?_
  by_cases hz:(t.del row).rows.length=0
  ·refine aE (by simp [hz]) ?_
   refine bg ?_
   have hC0:C[0]? =some (q.v7 b):=by rw [hC,afY (by decide),vU _ (by decide)];exact Tt
   have hC6:C[6]? =some (fX q.mt (Value.int .i64) pv (db q.T)):=by rw [hC,afY (by decide),vU _ (by decide),hA];rfl
   refine h.ld (n:=3) (k:=.m) (x:=some q.mt) 0 (by rw [VC (by omega),hC0];rfl) rfl ?_
   refine h.delete (ek:=Value.int .i64) (ev:=pv) (g:=db q.T) (k:=set) 6 rfl (by rw [VC (by omega)];exact hC6) xl wv fun nv2 z9 h=>?_
   have h:=h.KM (i:=C.length+0) (t:=di tb (t.del row)) (by rw [afY (by omega),Qn];rfl) rfl
   have h:=h.less (i:=7) (t:=an ((q.T.map tT).set k ao)) (t':=an ((q.T.eraseIdx k).map tT)) (by rw [afY (by omega),afY (by decide),VC (by omega)];exact hC7) (aK _) (fun w O hO=>by
    obtain⟨O',g1,g2⟩:=jI (by simpa using cU) hO
    refine⟨O',?_,g2⟩
    rw [dV]
    exact g1) (aK _)
   rw [uO bE hk,agx _ _ (by omega),afI _ _ (by rw [agi];omega),agi,agx _ _ (by rw [agi];omega)] at h
   have h:Hp S w0 z9 ((C.set 6 (fX q.mt (Value.int .i64) pv (db (q.T.eraseIdx k)))).set 7 (an ((q.T.eraseIdx k).map tT))++ [ao,aj s 2 1 iv vals,ai xb 33 [.int .i64 e.1,.int .i64 e.2]]):=by
    simpa using h
   rw [hC,hB,hA] at h
   have h:Hp S w0 z9 ((({ q with T:=q.T.eraseIdx k}:WH).all b { m with aJ:=aH m.aJ e none} u++(more++ [ai eb 33 [.int .i64 e.1,.int .i64 e.2]]))++ [ao,aj s 2 1 iv vals,ai xb 33 [.int .i64 e.1,.int .i64 e.2]]):=h
   have h:Hp S w0 z9 (((({ q with T:=q.T.eraseIdx k}:WH).all b { m with aJ:=aH m.aJ e none} u++more)++ [ai eb 33 [.int .i64 e.1,.int .i64 e.2],ao]++ [aj s 2 1 iv vals])++ [ai xb 33 [.int .i64 e.1,.int .i64 e.2]]):=by
    simp only [afA,af3,aga] at h ⊢
    exact h
   exact hK s _ z9 (.inr ⟨hz,rfl⟩) h.front.nT
  ·refine aF (by simpa using hz) ?_
   have h:=h.mT (i:=7) (j:=C.length+0) (k:=k) (ts:=(q.T.map tT).set k ao) (t:=tT (set,tb,t.del row)) (by omega) (by rw [VC (by omega)];exact hC7) (by rw [Qn];rfl) (by rw [afX (by simpa using cU)]) rfl
   rw [agx _ _ (by omega),agz] at h
   have h:Hp S w0 wx (C.set 7 (an ((q.T.map tT).set k (tT (set,tb,t.del row))))++ [ao,aj s 2 1 iv vals,ai xb 33 [.int .i64 e.1,.int .i64 e.2]]):=by
    rw [afI _ _ (by rw [agi];omega),agi] at h
    simpa using h
   have e2:(q.T.map tT).set k (tT (set,tb,t.del row))=(q.T.set k (set,tb,t.del row)).map tT:=by rw [agR]
   rw [e2,hC,hB,hA] at h
   have h:Hp S w0 wx ((({ q with T:=q.T.set k (set,tb,t.del row)}:WH).all b { m with aJ:=aH m.aJ e none} u++(more++ [ai eb 33 [.int .i64 e.1,.int .i64 e.2]]))++ [ao,aj s 2 1 iv vals,ai xb 33 [.int .i64 e.1,.int .i64 e.2]]):=by
    unfold WH.all
    rw [show db ({ q with T:=q.T.set k (set,tb,t.del row)}:WH).T=db q.T from z7 hk]
    exact h
   have h:Hp S w0 wx (((({ q with T:=q.T.set k (set,tb,t.del row)}:WH).all b { m with aJ:=aH m.aJ e none} u++more)++ [ai eb 33 [.int .i64 e.1,.int .i64 e.2],ao]++ [aj s 2 1 iv vals])++ [ai xb 33 [.int .i64 e.1,.int .i64 e.2]]):=by
    simp only [afA,af3,aga] at h ⊢
    exact h
   exact hK s _ wx (.inl ⟨hz,rfl⟩) h.front.nT
 ·exact absurd ⟨by show (0:Int)<=row;omega,by show (row:Int) < _;have:=(aft.1 ei).1;omega⟩ da
end
end Go.Proofs.YtcccjgmekakabaaGreat.FW
end

section
namespace Go.Proofs.YtcccjgmekakabaaGreat.FW
open F
open Go Go.Den Go.Proofs
open FI (af ay)
open FT (az di bM cc dz gm bD iv)
abbrev KD:=List (ByteArray×List ByteArray)
abbrev PL:=List (Option (List Int))
def jb:PL->Nat
 | []=>0
 | o :: p=>(if o.isSome then 1 else 0)+2*jb p
def aG (p:PL):Int:=(jb (none :: p):Nat)
def flat (p:PL):List Int:=p.flatMap fun o=>o.getD []
def PL.fit (ks:KD) (p:PL):Prop:=p.length=ks.length /\ ∀(i:Nat) (v:List Int) (k:ByteArray×List ByteArray),p[i]? =some (some v)->ks[i]? =some k->v.length=k.2.length
theorem na: ∀(p:PL) (i:Nat),(jb p).testBit i=(p.getD i none).isSome
 | [],i=>by simp [jb]
 | o :: p,0=>by
  rw [jb,Nat.testBit_zero]
  cases o <;> simp <;> omega
 | o :: p,i+1=>by
  rw [jb,Nat.testBit_succ]
  have:((if o.isSome=true then 1 else 0)+2*jb p) / 2=jb p:=by split <;> omega
  rw [this,na p i];rfl
theorem Dj: ∀p:PL,jb p < 2 ^ p.length
 | []=>by simp [jb]
 | o :: p=>by
  have:=Dj p
  rw [jb,af6,Nat.pow_succ]
  split <;> omega
theorem hU (p:PL):0<=aG p:=by unfold aG;omega
theorem hY {p:PL} (h:p.length<=12):aG p < 8192:=by
 have h1:=Dj (none :: p)
 have h2:2 ^ (none :: p:PL).length<=2 ^ 13:=ag1 (by omega) (by simp;omega)
 unfold aG;omega
theorem Hs (p:PL) (i:Nat):bit ((jb p:Nat):Int) i=if (p.getD i none).isSome then 1 else 0:=by
 have h:=na p i
 rw [Nat.testBit_eq_decide_div_mod_eq] at h
 unfold bit
 have e:(((jb p:Nat):Int) / 2 ^ i) % 2=((jb p / 2 ^ i % 2:Nat):Int):=by simp
 rw [e]
 cases hs:(p.getD i none).isSome with
 | true=>rw [hs] at h;have:=of_decide_eq_true h;rw [this];rfl
 | false=>
  rw [hs] at h
  have:=of_decide_eq_false h
  have:jb p / 2 ^ i % 2=0:=by omega
  rw [this];rfl
theorem nc (p:PL) (i:Nat):bit (aG p) (i+1)=if (p.getD i none).isSome then 1 else 0:=Hs (none :: p) (i+1)
theorem Ht {p:PL} {i:Nat}:bit (aG p) (i+1)=1↔(p.getD i none).isSome=true:=by
 rw [nc];split <;> simp_all
theorem Et (p:PL) (i j:Nat) (o:Option (List Int)):(p.set i o).getD j none=if i=j /\ j < p.length then o else p.getD j none:=by
 rw [afO,agm,afO]
 by_cases h:i=j
 ·subst h
  by_cases hl:i < p.length
  ·simp [hl]
  ·simp [hl]
 ·simp [h]
theorem Hu {k:Nat} (hk:k<=61):(2:Nat) ^ k<=2305843009213693952:=ag3 (ag1 (by omega) hk) (by decide)
theorem Qo {k:Nat} (hk:k<=61):IntKind.i64.wrap (1*2 ^ (min (Int.toNat (k:Int)) 64))=((2 ^ k:Nat):Int):=by
 have h:=Hu hk
 rw [afu,show min k 64=k by omega,Int.one_mul]
 have e:(2:Int) ^ k=((2 ^ k:Nat):Int):=by simp
 rw [e]
 generalize 2 ^ k=t at h
 exact aB (by omega) (by omega)
theorem or_eq {s k:Nat} (hs:s < 4611686018427387904) (hk:k<=61):
  IntKind.i64.wrap ((BitVec.ofInt 64 (s:Int) ||| BitVec.ofInt 64 (IntKind.i64.wrap (1*2 ^ (min (Int.toNat (k:Int)) 64)))).toNat:Nat)=((s ||| 2 ^ k:Nat):Int):=by
 have h:=Hu hk
 rw [Qo hk]
 have e:(BitVec.ofInt 64 (s:Int) ||| BitVec.ofInt 64 ((2 ^ k:Nat):Int)).toNat=s ||| 2 ^ k:=by
  rw [BitVec.toNat_or]
  congr 1
  ·rw [ahT];omega
  ·rw [ahT];generalize 2 ^ k=t at h;omega
 rw [e]
 have:s ||| 2 ^ k < 2 ^ 62:=Nat.or_lt_two_pow (by omega) (by generalize 2 ^ k=t at h;omega)
 generalize s ||| 2 ^ k=t at this
 exact aB (by omega) (by omega)
theorem uP {p:PL} (h:p.length<=12) {i:Nat} (hi:i < p.length) (v:List Int):
  IntKind.i64.wrap ((BitVec.ofInt 64 (aG p) ||| BitVec.ofInt 64 (IntKind.i64.wrap (1*2 ^ (min (Int.toNat ((i+1:Nat):Int)) 64)))).toNat:Nat)=aG (p.set i (some v)):=by
 have h1:=hY h
 unfold aG at h1 ⊢
 rw [or_eq (by omega) (by omega)]
 congr 1
 apply ahp
 intro j
 rw [agj,na,na,agt]
 show _=(((none :: p).set (i+1) (some v)).getD j none).isSome
 rw [Et]
 by_cases hj:i+1=j
 ·subst hj;simp [hi]
 ·simp [hj]
theorem ri {p:PL} {i:Nat} {o:Option (List Int)} (h:p[i]? =some o):flat (p.take (i+1))=flat (p.take i)++o.getD []:=by
 have hl:=(aft.1 h).1
 have he:=(aft.1 h).2
 unfold flat
 rw [afG hl,af5,he];simp
theorem fh {p:PL} {i:Nat} {o:Option (List Int)} (h:p[i]? =some o):flat p=flat (p.take i)++(o.getD []++flat (p.drop (i+1))):=by
 have hl:=(aft.1 h).1
 have he:=(aft.1 h).2
 have:p=p.take i++o :: p.drop (i+1):=by rw [<-he];simp
 conv=>lhs;rw [this]
 unfold flat
 rw [af5,age]
theorem Hv {p:PL} {i:Nat} (o:Option (List Int)) (hl:i < p.length):flat (p.set i o)=flat (p.take i)++(o.getD []++flat (p.drop (i+1))):=by
 rw [fh (p:=p.set i o) (i:=i) (o:=o) (by simp [hl])]
 rw [List.take_set_of_le (afV _),agG (by omega)]
theorem PL.fit.at {ks:KD} {p:PL} (h:p.fit ks): ∀{q:Nat},q<=p.length->eL ks (aG p) q=(flat (p.take q)).length
 | 0,_=>by simp [eL,flat]
 | q+1,hq=>by
  have ih:=PL.fit.at h (q:=q) (by omega)
  have hp:p[q]? =some p[q]:=by simp [show q < p.length by omega]
  have hk:ks[q]? =some (ks[q]'(by have:=h.1;omega)):=by simp [show q < ks.length by have:=h.1;omega]
  rw [ri hp,afw,eL,ih,hk]
  congr 1
  by_cases hb:bit (aG p) (q+1)=1
  ·rw [if_pos hb]
   have:=Ht.1 hb
   rw [afO,hp] at this
   cases ho:p[q] with
   | none=>rw [ho] at this;cases this
   | some v=>
    have:=h.2 q v _ (by rw [hp,ho]) hk
    simp [this]
  ·rw [if_neg hb]
   cases ho:p[q] with
   | none=>rfl
   | some v=>exact absurd (Ht.2 (by rw [afO,hp,ho];rfl)) hb
theorem PL.fit.all {ks:KD} {p:PL} (h:p.fit ks):(flat p).length=eL ks (aG p) ks.length:=by
 rw [h.at (q:=ks.length) (by rw [h.1];exact afV _),<-h.1,agJ]
theorem PL.fit.ins {ks:KD} {p:PL} (h:p.fit ks) {i:Nat} (hi:i < p.length) (hn:p.getD i none=none) (v:List Int):
  flat (p.set i (some v))=(flat p).take (eL ks (aG p) i)++v++(flat p).drop (eL ks (aG p) i):=by
 have hp:p[i]? =some none:=by
  have:p[i]? =some p[i]:=by simp [hi]
  rw [this];rw [afO,this] at hn;simpa using hn
 rw [Hv _ hi,fh hp,h.at (by omega)]
 simp
theorem PL.fit.get {ks:KD} {p:PL} (h:p.fit ks) {i:Nat} {v:List Int} (hp:p[i]? =some (some v)):
  ((flat p).take (eL ks (aG p) i+v.length)).drop (eL ks (aG p) i)=v:=by
 have hi:=(aft.1 hp).1
 rw [fh hp,h.at (by omega)]
 simp [List.take_append]
theorem PL.fit.set {ks:KD} {p:PL} (h:p.fit ks) {i:Nat} {v:List Int} {k:ByteArray×List ByteArray} (hk:ks[i]? =some k) (hl:v.length=k.2.length):(PL.fit ks (p.set i (some v))):=by
 refine⟨by rw [agi];exact h.1,fun j x k' hx bG=>?_⟩
 rw [agm] at hx
 by_cases hj:i=j
 ·subst hj
  by_cases ar:i < p.length
  ·rw [if_pos rfl,if_pos ar] at hx
   obtain rfl:=afK (afK hx)
   rw [hk] at bG;obtain rfl:=afK bG;exact hl
  ·rw [if_pos rfl,if_neg ar] at hx;cases hx
 ·rw [if_neg hj] at hx;exact h.2 j x k' hx bG
theorem tv (ks:KD):PL.fit ks (List.replicate ks.length none):=by
 refine⟨by simp,fun i v k hx _=>?_⟩
 rw [ahd] at hx
 split at hx <;> cases hx
theorem Aa: ∀n,jb (List.replicate n none)=0
 | 0=>rfl
 | n+1=>by rw [agO,jb,Aa n];rfl
theorem Ab (n:Nat):aG (List.replicate n none)=0:=by
 unfold aG
 show ((jb (List.replicate (n+1) none):Nat):Int)=0
 rw [Aa];rfl
theorem uQ (n:Nat):flat (List.replicate n none)= []:=by
 unfold flat
 induction n with
 | zero=>rfl
 | succ n ih=>rw [agO,age,ih];rfl
structure eD (ks:KD) (row:bM->Option PL) (aJ:bM->Option Int) (cD:List (Int×az)):Prop where
 aJ:aJ=fun e=>(row e).map aG
 nd:(cD.map (·.1)).Nodup
 tok: ∀x∈cD,x.2.Ok /\ x.2.n=eL ks x.1 ks.length /\ x.2.rows≠ [] /\ ∀r∈x.2.rows,∃p,row r.1=some p /\ aG p=x.1 /\ flat p=r.2
 has: ∀e p,row e=some p-> ∃t,(aG p,t)∈cD /\ (e,flat p)∈t.rows
 fit: ∀e p,row e=some p->p.fit ks
theorem eD.new (ks:KD):eD ks (fun _=>none) (fun _=>none) []:=
 ⟨rfl,by simp,by simp,by simp,by simp⟩
theorem Ac: ∀(n:Nat) (L:List Nat),L.Nodup->(∀x∈L,x < n)->L.length<=n
 | 0,L,_,h=>by
  cases L with
  | nil=>simp
  | cons x L=>exact absurd (h x (by simp)) (by omega)
 | n+1,L,bE,h=>by
  have h1:=Ac n (L.erase n) (bE.erase n) (fun x hx=>by
   have hm:=(bE.mem_erase_iff).1 hx
   have:=h x hm.2
   have:=hm.1
   omega)
  have h2:=List.length_erase (a:=n) (l:=L)
  split at h2 <;> omega
theorem eD.enter {ks:KD} {row:bM->Option PL} {aJ:bM->Option Int} {cD T1:List (Int×az)} (h:eD ks row aJ cD) {e:bM} {p:PL} (aR:row e=none) (hp:p.fit ks)
  (hb: ∀L:List bM,L.Nodup->(∀x∈L,(row x).isSome=true)->L.length < 200) (hmk: ∀x∈ks,x.2.length<=4) (Fh:ks.length<=12)
  (hT:T1=cD \/ (T1=cD++ [(aG p,⟨eL ks (aG p) ks.length,[]⟩)] /\ ∀x∈cD,x.1≠aG p)) {k:Nat} {t:az} (hk:T1[k]? =some (aG p,t)):
  (t.oe e (flat p)).1=t.add e (flat p) /\ eD ks (aH row e (some p)) (aH aJ e (some (aG p))) (T1.set k (aG p,t.add e (flat p))):=by
 -- the old tables, with perhaps one that is empty
 have Tu:(T1.map (·.1)).Nodup:=by
  rcases hT with rfl | ⟨rfl,da⟩
  ·exact h.nd
  ·rw [agh,ago]
   refine⟨h.nd,by simp,fun a ha b hb=>?_⟩
   simp only [agl,ahq,afF] at hb
   subst hb
   obtain⟨x,hx,rfl⟩:=afQ.1 ha
   exact da x hx
 have Ms: ∀x∈T1,x.2.Ok /\ x.2.n=eL ks x.1 ks.length /\ ∀r∈x.2.rows,∃p,row r.1=some p /\ aG p=x.1 /\ flat p=r.2:=by
  intro x hx
  rcases hT with rfl | ⟨rfl,da⟩
  ·exact⟨(h.tok x hx).1,(h.tok x hx).2.1,(h.tok x hx).2.2.2⟩
  ·rcases afB.1 hx with hx | hx
   ·exact⟨(h.tok x hx).1,(h.tok x hx).2.1,(h.tok x hx).2.2.2⟩
   ·simp only [afF] at hx
    subst hx
    have:=fR hmk (aG p) ks.length
    exact⟨⟨by show eL ks (aG p) ks.length<=48;omega,by simp,by simp [az.aw],by simp⟩,rfl,by simp⟩
 have YK: ∀x∈T1,x.1≠aG p->x.2.rows≠ []:=by
  intro x hx lx
  rcases hT with rfl | ⟨rfl,da⟩
  ·exact(h.tok x hx).2.2.1
  ·rcases afB.1 hx with hx | hx
   ·exact(h.tok x hx).2.2.1
   ·simp only [afF] at hx
    subst hx;exact absurd rfl lx
 have Tv: ∀e p,row e=some p-> ∃t,(aG p,t)∈T1 /\ (e,flat p)∈t.rows:=by
  intro e p hr
  obtain⟨t,h1,h2⟩:=h.has e p hr
  rcases hT with rfl | ⟨rfl,da⟩
  ·exact⟨t,h1,h2⟩
  ·exact⟨t,agZ _ h1,h2⟩
 have cU:=(aft.1 hk).1
 have cP:=afz hk
 obtain⟨tk,tn,tr⟩:=Ms _ cP
 have sV:e ∉ t.aw:=fun hm=>by
  obtain⟨r,hr,rfl⟩:=afQ.1 hm
  obtain⟨p',tM,_⟩:=tr r hr
  rw [aR] at tM;cases tM
 have yz:t.rows.length < 200:=by
  have:=hb t.aw tk.nd (fun x hx=>by
   obtain⟨r,hr,rfl⟩:=afQ.1 hx
   obtain⟨p',tM,_⟩:=tr r hr
   rw [tM];rfl)
  rwa [az.cj] at this
 have ee:(flat p).length=t.n:=by rw [tn];exact hp.all
 refine⟨?_,?_⟩
 ·unfold az.oe
  rw [if_neg (by simp [ee]),if_neg sV,if_neg (by omega)]
 have YI: ∀x∈T1.set k (aG p,t.add e (flat p)),x=(aG p,t.add e (flat p)) \/ (x∈T1 /\ x.1≠aG p):=by
  intro x hx
  obtain⟨j,hj⟩:=afT hx
  rw [agm] at hj
  by_cases Cc:k=j
  ·subst Cc;simp only [if_true,if_pos cU,afy] at hj;exact .inl hj.symm
  ·rw [if_neg Cc] at hj
   refine .inr ⟨afz hj,fun he=>Cc ?_⟩
   have gN:=(aft.1 hj).1
   exact(agF (i:=k) (j:=j) (l:=T1.map (·.1)) (by simpa using cU) Tu).1 (by rw [afC,afC,hk,hj];simp [he])
 refine⟨?_,?_,?_,?_,?_⟩
 ·funext x
  unfold aH
  split
  ·rfl
  ·exact congrFun h.aJ x
 ·have:(T1.set k (aG p,t.add e (flat p))).map (·.1)=T1.map (·.1):=by
   rw [agR]
   apply agd
   intro j
   rw [agm]
   split
   ·rename_i hj
    subst hj
    rw [afC,hk,if_pos (by simpa using cU)];rfl
   ·rfl
  rw [this];exact Tu
 ·intro x hx
  rcases YI x hx with rfl | ⟨hx,lx⟩
  ·refine⟨tk.add ee yz sV,tn,by simp [az.add],fun r hr=>?_⟩
   rcases afB.1 hr with hr | hr
   ·obtain⟨p',h1,h2,h3⟩:=tr r hr
    refine⟨p',?_,h2,h3⟩
    unfold aH
    rw [if_neg (fun he=>by rw [he,aR] at h1;cases h1)];exact h1
   ·simp only [afF] at hr
    subst hr
    exact⟨p,by unfold aH;rw [if_pos rfl],rfl,rfl⟩
  ·obtain⟨a1,a2,a3⟩:=Ms x hx
   refine⟨a1,a2,YK x hx lx,fun r hr=>?_⟩
   obtain⟨p',h1,h2,h3⟩:=a3 r hr
   refine⟨p',?_,h2,h3⟩
   unfold aH
   rw [if_neg (fun he=>by rw [he,aR] at h1;cases h1)];exact h1
 ·intro e' p' jP
  unfold aH at jP
  by_cases Eu:e'=e
  ·rw [if_pos Eu] at jP
   obtain rfl:=afK jP
   subst Eu
   exact⟨t.add e' (flat p),afz (i:=k) (by simp [cU]),by simp [az.add]⟩
  ·rw [if_neg Eu] at jP
   obtain⟨t',h1,h2⟩:=Tv e' p' jP
   obtain⟨j,hj⟩:=afT h1
   by_cases Cc:k=j
   ·subst Cc
    rw [hk] at hj
    obtain⟨hs,rfl⟩:=agK (afK hj)
    exact⟨t.add e (flat p),afz (i:=k) (by rw [afX cU,<-hs]),agZ _ h2⟩
   ·exact⟨t',afz (i:=j) (by rw [afY Cc];exact hj),h2⟩
 ·intro e' p' jP
  unfold aH at jP
  by_cases Eu:e'=e
  ·rw [if_pos Eu] at jP
   obtain rfl:=afK jP
   exact hp
  ·rw [if_neg Eu] at jP
   exact h.fit e' p' jP
theorem eD.find {ks:KD} {row:bM->Option PL} {aJ:bM->Option Int} {cD:List (Int×az)} (h:eD ks row aJ cD) {e:bM} {p:PL} (hr:row e=some p):
  ∃(k r:Nat) (t:az),cD[k]? =some (aG p,t) /\ t.Ok /\ gm t e=some (r:Int) /\ t.rows[r]? =some (e,flat p):=by
 obtain⟨t,h1,h2⟩:=h.has e p hr
 obtain⟨k,hk⟩:=afT h1
 obtain⟨r,xo⟩:=afT h2
 have tk:=(h.tok _ h1).1
 exact⟨k,r,t,hk,tk,(az.pZ tk.nd).2 (by unfold az.aw;rw [afC,xo];rfl),xo⟩
theorem Lk {t:az} (tk:t.Ok) {r:Nat} {x:bM×List Int} (hr:t.rows[r]? =some x) (y:bM×List Int):y∈(t.del r).rows↔y∈t.rows /\ y.1≠x.1:=by
 have hl:=(aft.1 hr).1
 have h0:0 < t.rows.length:=by omega
 have inj: ∀{i j:Nat} {a b:bM×List Int},t.rows[i]? =some a->t.rows[j]? =some b->a.1=b.1->i=j:=fun{i j a b} hi hj he=>
  (agF (i:=i) (j:=j) (l:=t.aw) (by unfold az.aw;simpa using (aft.1 hi).1) tk.nd).1 (by unfold az.aw;rw [afC,afC,hi,hj];simp [he])
 constructor
 ·intro hy
  obtain⟨j,hj⟩:=afT hy
  rw [az.kV t r j h0] at hj
  split at hj
  ·rename_i gN
   split at hj
   ·refine⟨afz hj,fun he=>?_⟩
    have:=inj hj hr he
    omega
   ·rename_i IU
    exact⟨afz hj,fun he=>IU (inj hj hr he)⟩
  ·cases hj
 ·rintro⟨hy,aR⟩
  obtain⟨j,hj⟩:=afT hy
  have gN:=(aft.1 hj).1
  have IU:j≠r:=fun e=>by subst e;rw [hj] at hr;exact aR (by rw [afK hr])
  by_cases gA:j=t.rows.length - 1
  ·refine afz (i:=r) ?_
   rw [az.kV t r r h0,if_pos (by omega),if_pos rfl,<-gA];exact hj
  ·refine afz (i:=j) ?_
   rw [az.kV t r j h0,if_pos (by omega),if_neg IU];exact hj
theorem eD.leave {ks:KD} {row:bM->Option PL} {aJ:bM->Option Int} {cD T':List (Int×az)} (h:eD ks row aJ cD) {e:bM} {p:PL} (hr:row e=some p)
  {k r:Nat} {t:az} (hk:cD[k]? =some (aG p,t)) (xo:t.rows[r]? =some (e,flat p)) (hT:((t.del r).rows.length≠0 /\ T'=cD.set k (aG p,t.del r)) \/ ((t.del r).rows.length=0 /\ T'=cD.eraseIdx k)):
  eD ks (aH row e none) (aH aJ e none) T':=by
 have cU:=(aft.1 hk).1
 have cP:=afz hk
 obtain⟨tk,tn,tne,tr⟩:=h.tok _ cP
 have fv:=(aft.1 xo).1
 have dm:=Lk tk xo
 have o0: ∀{i j:Nat} {a b:Int×az},cD[i]? =some a->cD[j]? =some b->a.1=b.1->i=j:=fun{i j a b} hi hj he=>
  (agF (i:=i) (j:=j) (l:=cD.map (·.1)) (by simpa using (aft.1 hi).1) h.nd).1 (by rw [afC,afC,hi,hj];simp [he])
 -- what is in the new list
 have uR: ∀x,x∈T'↔(x∈cD /\ x.1≠aG p) \/ ((t.del r).rows.length≠0 /\ x=(aG p,t.del r)):=by
  intro x
  rcases hT with ⟨hz,rfl⟩ | ⟨hz,rfl⟩
  ·constructor
   ·intro hx
    obtain⟨j,hj⟩:=afT hx
    rw [agm] at hj
    by_cases Cc:k=j
    ·subst Cc;simp only [if_true,if_pos cU,afy] at hj;exact .inr ⟨hz,hj.symm⟩
    ·rw [if_neg Cc] at hj
     exact .inl ⟨afz hj,fun he=>Cc (o0 hk hj he.symm)⟩
   ·rintro(⟨hx,lx⟩ | ⟨_,rfl⟩)
    ·obtain⟨j,hj⟩:=afT hx
     have Cc:k≠j:=fun e=>by subst e;rw [hk] at hj;exact lx (by rw [<-afK hj])
     exact afz (i:=j) (by rw [afY Cc];exact hj)
    ·exact afz (i:=k) (by simp [cU])
  ·constructor
   ·intro hx
    obtain⟨j,hj⟩:=afT hx
    rw [aic] at hj
    split at hj
    ·exact .inl ⟨afz hj,fun he=>by have:=o0 hk hj he.symm;omega⟩
    ·exact .inl ⟨afz hj,fun he=>by have:=o0 hk hj he.symm;omega⟩
   ·rintro(⟨hx,lx⟩ | ⟨xp,_⟩)
    ·obtain⟨j,hj⟩:=afT hx
     have Cc:k≠j:=fun e=>by subst e;rw [hk] at hj;exact lx (by rw [<-afK hj])
     by_cases ar:j < k
     ·exact afz (i:=j) (by rw [aic,if_pos ar];exact hj)
     ·exact afz (i:=j - 1) (by rw [aic,if_neg (by omega),show j - 1+1=j by omega];exact hj)
    ·exact absurd hz xp
 refine⟨?_,?_,?_,?_,?_⟩
 ·funext x
  unfold aH
  split
  ·rfl
  ·exact congrFun h.aJ x
 ·rcases hT with ⟨hz,rfl⟩ | ⟨hz,rfl⟩
  ·have:(cD.set k (aG p,t.del r)).map (·.1)=cD.map (·.1):=by
    rw [agR]
    apply agd
    intro j
    rw [agm]
    split
    ·rename_i hj
     subst hj
     rw [afC,hk,if_pos (by simpa using cU)];rfl
    ·rfl
   rw [this];exact h.nd
  ·rw [dV]
   exact h.nd.sublist (ah0 _ _)
 ·intro x hx
  rcases(uR x).1 hx with ⟨hx,lx⟩ | ⟨hz,rfl⟩
  ·obtain⟨a1,a2,a3,a4⟩:=h.tok x hx
   refine⟨a1,a2,a3,fun y hy=>?_⟩
   obtain⟨p',h1,h2,h3⟩:=a4 y hy
   refine⟨p',?_,h2,h3⟩
   unfold aH
   rw [if_neg (fun he=>by rw [he,hr] at h1;obtain rfl:=afK h1;exact lx h2.symm)];exact h1
  ·refine⟨tk.del fv,tn,fun e=>hz (by rw [e];rfl),fun y hy=>?_⟩
   obtain⟨hy,aR⟩:=(dm y).1 hy
   obtain⟨p',h1,h2,h3⟩:=tr y hy
   refine⟨p',?_,h2,h3⟩
   unfold aH
   rw [if_neg aR];exact h1
 ·intro e' p' jP
  unfold aH at jP
  by_cases Eu:e'=e
  ·rw [if_pos Eu] at jP;cases jP
  ·rw [if_neg Eu] at jP
   obtain⟨t',h1,h2⟩:=h.has e' p' jP
   by_cases hs:aG p'=aG p
   ·obtain⟨j,hj⟩:=afT h1
    have Cc:=o0 hk hj hs.symm
    subst Cc
    rw [hk] at hj
    obtain⟨_,rfl⟩:=agK (afK hj)
    have hm:=(dm (e',flat p')).2 ⟨h2,Eu⟩
    refine⟨t.del r,(uR _).2 (.inr ⟨fun hz=>?_,by rw [hs]⟩),hm⟩
    rw [ahQ.1 hz] at hm;simp at hm
   ·exact⟨t',(uR _).2 (.inl ⟨h1,hs⟩),h2⟩
 ·intro e' p' jP
  unfold aH at jP
  by_cases Eu:e'=e
  ·rw [if_pos Eu] at jP;cases jP
  ·rw [if_neg Eu] at jP
   exact h.fit e' p' jP
end Go.Proofs.YtcccjgmekakabaaGreat.FW
end

section
namespace Go.Proofs.YtcccjgmekakabaaGreat.FI
open F
open Go Go.Den Go.Proofs
def qc (g:Int):Int:=if 1000000 < g then 1000000 else g
def Ll (g:Int):Bool:=decide (g<=1000000)
structure I2 (aA:Int) (ah:List Int) (m:af):Prop where
 Ad:m.aA=aA
 Dk:m.ah=ah.map qc
 len:m.alive.length=ah.length
 nodup:m.free.Nodup
 free: ∀i∈m.free,0<=i /\ i < ah.length /\ m.alive.getD i.toNat false=false /\ ah.getD i.toNat 0 < 1000000
 dead: ∀i:Int,0<=i->i < ah.length->m.alive.getD i.toNat false=false->ah.getD i.toNat 0 < 1000000->i∈m.free
 kB:m.free.length+m.alive.count true<=ah.length
theorem I2.step {aA:Int} {ah:List Int} {m:af} (h:I2 aA ah m) {i:Int} (hi: ¬(i < 0 \/ i>=ah.length \/ m.alive.getD i.toNat false=false \/ ah.getD i.toNat 0>=1000000)):
  I2 aA ah { m with alive:=m.alive.set i.toNat false,free:=m.free++ [i]}:=by
 simp only [not_or,Bool.not_eq_false] at hi
 obtain⟨i0,i1,i2,i3⟩:=hi
 have hl:i.toNat < m.alive.length:=by have:=h.len;omega
 refine⟨h.Ad,h.Dk,by simpa using h.len,?_,?_,?_,?_⟩
 ·show (m.free++ [i]).Nodup
  rw [ago]
  refine⟨h.nodup,by simp,?_⟩
  rintro a ha b hb rfl
  simp only [afF] at hb
  subst hb
  have:=(h.free _ ha).2.2.1
  rw [i2] at this;cases this
 ·intro j hj
  show _ /\ _ /\ (m.alive.set _ _).getD _ _=_ /\ _
  rw [kY]
  rcases afB.1 hj with hj | hj
  ·obtain⟨a,b,c,d⟩:=h.free j hj
   refine⟨a,b,?_,d⟩
   split
   ·rfl
   ·exact c
  ·simp only [afF] at hj
   subst hj
   exact⟨by omega,by omega,by rw [if_pos ⟨rfl,hl⟩],by omega⟩
 ·intro j h0 h1 h2 h3
  show j∈m.free++ [i]
  have h2:(m.alive.set i.toNat false).getD j.toNat false=false:=h2
  rw [kY] at h2
  by_cases mJ:i.toNat=j.toNat /\ j.toNat < m.alive.length
  ·exact afB.2 (.inr (by simp;omega))
  ·rw [if_neg mJ] at h2
   exact afB.2 (.inl (h.dead j h0 h1 h2 h3))
 ·have hc:=h.kB
  have h1:=count_set (l:=m.alive) (v:=false) hl
  have h2:m.alive[i.toNat]=true:=by
   simp only [afO,afD hl,ag9] at i2
   exact i2
  rw [h2] at h1
  show (m.free++ [i]).length+(m.alive.set _ _).count true<=_
  simp at h1 ⊢
  omega
theorem I2.init (aA:Int) (ah:List Int):I2 aA ah ⟨aA,ah.map qc,ah.map Ll,[]⟩:=by
 refine⟨rfl,rfl,by simp,by simp,by simp,?_,?_⟩
 ·intro i h0 h1 h2 h3
  have hl:i.toNat < ah.length:=by omega
  exfalso
  simp only [afO,afC,afD hl,agy,ag9,Ll,decide_eq_false_iff_not] at h2 h3
  omega
 ·have:=List.count_le_length (a:=true) (l:=ah.map Ll)
  simpa using this
theorem Ae {aA:Int} {ah:List Int}: ∀{free:List Int} {m m':af},I2 aA ah m->dW ah free m=some m'->I2 aA ah m'
 | [],m,m',h,he=>by rw [dW] at he;cases he;exact h
 | i :: r,m,m',h,he=>by
  rw [dW] at he
  split at he
  ·cases he
  ·rename_i hc
   exact Ae (h.step hc) he
theorem Af {aA:Int} {ah free:List Int} {m:af} (h:cS aA ah free=some m):m.Hl /\ m.aA=aA:=by
 unfold cS at h
 split at h
 ·cases h
 rename_i hc
 simp only [not_or,ahW] at hc
 obtain⟨c1,c2,c3,c4⟩:=hc
 have hI:=Ae (I2.init aA ah) h
 have sB:m.ah.length=ah.length:=by rw [hI.Dk];simp
 have gz: ∀i:Int,m.gen i=if i.toNat < ah.length then qc (ah.getD i.toNat 0) else 0:=by
  intro i
  unfold af.gen
  rw [hI.Dk]
  simp only [afO,afC]
  by_cases hl:i.toNat < ah.length
  ·rw [if_pos hl,afD hl];rfl
  ·rw [if_neg hl,af0 (by omega)];rfl
 refine⟨⟨⟨by rw [hI.Ad];omega,by rw [hI.Ad];omega,by rw [hI.len,sB],by rw [hI.Ad,sB];omega,?_,?_,hI.nodup,by rw [sB];exact hI.kB⟩,?_⟩,hI.Ad⟩
 ·intro g hg
  rw [hI.Dk] at hg
  obtain⟨x,hx,rfl⟩:=afQ.1 hg
  have:=c4 x hx
  unfold qc
  split <;> omega
 ·intro i hi
  obtain⟨a,b,c,d⟩:=hI.free i hi
  refine⟨a,by rw [sB];exact b,?_,?_⟩
  ·unfold af.bt;rw [c];simp
  ·rw [gz,if_pos (by omega)]
   unfold qc
   rw [if_neg (by omega)]
   exact d
 ·intro i h0 h1 h2 h3
  rw [sB] at h1
  have IT:m.alive.getD i.toNat false=false:=by
   unfold af.bt at h2
   simpa [h0] using h2
  refine hI.dead i h0 h1 IT ?_
  rw [gz,if_pos (by omega)] at h3
  unfold qc at h3
  split at h3 <;> omega
theorem Lm {n:Int} (h1:1<=n) (h2:n<=200):af.Hl ⟨n,[],[],[]⟩:=
 ⟨af.Ok.new h1 h2,by intro i h0 h1;simp at h1;omega⟩
theorem Ag {m:af} (h:m.Hl):m.bu.1.Hl /\ m.bu.1.aA=m.aA:=by
 unfold af.bu
 cases hf:m.free with
 | cons i rest=>
  refine⟨⟨h.toOk.cu hf,?_⟩,rfl⟩
  have hi:=h.free i (by simp [hf])
  intro j h0 h1 h2 h3
  have h1:j < (m.ah.set i.toNat (m.gen i+1)).length:=h1
  rw [agi] at h1
  rw [af.jF m hi.1 (by rw [h.len];omega)] at h2
  split at h2
  ·cases h2
  ·rename_i aR
   rw [af.lQ m hi.1 (by omega) h0,if_neg aR] at h3
   have:=h.dead j h0 h1 h2 h3
   rw [hf] at this
   rcases af1.1 this with e | e
   ·exact absurd e aR
   ·exact e
 | nil=>
  simp only []
  split
  ·rename_i hl
   refine⟨⟨h.toOk.cV hf hl,?_⟩,rfl⟩
   intro j h0 h1 h2 h3
   have h1:j < (m.ah++ [1]).length:=h1
   rw [afw,ahi] at h1
   rw [af.oy m h.len] at h2
   split at h2
   ·cases h2
   ·rename_i aR
    rw [af.sC m h0,if_neg aR] at h3
    exact h.dead j h0 (by omega) h2 h3
  ·exact⟨h,rfl⟩
theorem Hw {m:af} (h:m.Hl) (i g:Int):(m.kZ i g).1.Hl /\ (m.kZ i g).1.aA=m.aA:=by
 unfold af.kZ
 split
 ·rename_i hi
  refine⟨⟨h.toOk.dj hi,?_⟩,rfl⟩
  obtain⟨gK,hg⟩:=af.jG.1 hi
  obtain⟨i0,B7,_⟩:=p8 gK
  intro j h0 h1 h2 h3
  show j∈if g < 1000000 then m.free++ [i] else m.free
  rw [af.uM] at h3
  rw [af.lR m i0 B7] at h2
  by_cases hj:j=i
  ·subst hj
   rw [if_pos (by omega)]
   simp
  ·rw [if_neg hj] at h2
   have:=h.dead j h0 h1 h2 h3
   split
   ·simp [this]
   ·exact this
 ·exact⟨h,rfl⟩
theorem uS (m:af):m.aM.length=m.ah.length:=by simp [af.aM]
theorem Cd {m:af} {k:Nat} (hk:k < m.ah.length):m.aM[k]? =some (if m.gen k=1000000 /\ m.bt k=false then m.gen k+1 else m.gen k):=by
 simp [af.aM,List.getElem?_mapIdx,hk,af.gen]
end Go.Proofs.YtcccjgmekakabaaGreat.FI
end

section
namespace Go.Proofs.YtcccjgmekakabaaGreat.FP
open F
open Go Go.Den Go.Proofs
theorem w8 (n:Int):IntKind.u8.wrap n=n % 256:=by simp only [IntKind.wrap,IntKind.bits,IntKind.signed,Bool.false_and];simp
theorem kH (n:Int):IntKind.u64.wrap n=n % 18446744073709551616:=by simp only [IntKind.wrap,IntKind.bits,IntKind.signed,Bool.false_and];simp
theorem Ah (n:Int):IntKind.i64.wrap n=if n % 18446744073709551616>=9223372036854775808 then n % 18446744073709551616 - 18446744073709551616 else n % 18446744073709551616:=by
 simp only [IntKind.wrap,IntKind.bits,IntKind.signed,agW,decide_eq_true_eq,ge_iff_le];split <;> split <;> omega
theorem Tw: ∀x:BitVec 8,(x ||| 128#8).toNat=x.toNat % 128+128:=by decide+kernel
theorem Qp: ∀x:BitVec 8,(x &&& 127#8).toNat=x.toNat % 128:=by decide+kernel
theorem dS (k:Nat) (n:Int):(BitVec.ofInt k n).toNat=(n % 2 ^ k).toNat:=by
 rw [ahT];norm_cast
theorem YL {n:Int}:IntKind.u8.wrap ((BitVec.ofInt 8 (IntKind.u8.wrap n) ||| BitVec.ofInt 8 128).toNat:Nat)=n % 128+128:=by
 have e:BitVec.ofInt 8 128=128#8:=by decide
 rw [e,Tw,dS,w8,w8]
 omega
theorem YM {c:Int} (h0:0<=c) (h1:c < 256):IntKind.u64.wrap (IntKind.u8.wrap ((BitVec.ofInt 8 c &&& BitVec.ofInt 8 127).toNat:Nat))=c % 128:=by
 have e:BitVec.ofInt 8 127=127#8:=by decide
 rw [e,Qp,dS,w8,kH]
 omega
theorem Hx (n:Int):Int.fdiv n (2 ^ (min (Int.toNat 7) 64))=n / 128:=by
 show Int.fdiv n 128=_
 rw [ag4 _ (by omega)]
def eR:Nat->Int->List Int
 | 0,_=> []
 | f+1,n=>if n < 128 then [n] else (n % 128+128) :: eR f (n / 128)
def aV (n:Int):List Int:=eR 10 n
theorem xr: ∀(f:Nat) (n:Int),0<=n->n < 128 ^ (f+1)-> ∀g,f<=g->eR (g+1) n=eR (f+1) n
 | 0,n,h0,h1,g,hg=>by
  have h1:n < 128:=by simpa using h1
  rw [eR,eR,if_pos h1,if_pos h1]
 | f+1,n,h0,h1,0,hg=>by omega
 | f+1,n,h0,h1,g+1,hg=>by
  have u1:eR (g+1+1) n=if n < 128 then [n] else (n % 128+128) :: eR (g+1) (n / 128):=by rw [eR]
  have u2:eR (f+1+1) n=if n < 128 then [n] else (n % 128+128) :: eR (f+1) (n / 128):=by rw [eR]
  rw [u1,u2]
  by_cases h:n < 128
  ·rw [if_pos h,if_pos h]
  ·rw [if_neg h,if_neg h]
   rw [Int.pow_succ] at h1
   have h3:n / 128 < 128 ^ (f+1):=by
    generalize (128:Int) ^ (f+1)=p at h1 ⊢
    omega
   rw [xr f (n / 128) (by omega) h3 g (by omega)]
theorem Dl {n:Int} (h:n < 128):aV n= [n]:=by unfold aV;rw [eR,if_pos h]
theorem tw {n:Int} (h:128<=n) (h2:n < 18446744073709551616):aV n=(n % 128+128) :: aV (n / 128):=by
 unfold aV
 rw [eR,if_neg (by omega),xr 8 (n / 128) (by omega) (by omega) 9 (by omega)]
theorem Ai: ∀(f:Nat) (n:Int),(eR f n).length<=f
 | 0,n=>by simp [eR]
 | f+1,n=>by
  rw [eR];split
  ·simp
  ·have:=Ai f (n / 128);simp;omega
theorem aT (n:Int):(aV n).length<=10:=Ai 10 n
theorem Hy (f:Nat) (n:Int):1<=(eR (f+1) n).length:=by
 rw [eR];split <;> simp
theorem cM (n:Int):1<=(aV n).length:=Hy 9 n
theorem xu: ∀(f:Nat) (n:Int),0<=n-> ∀x∈eR f n,0<=x /\ x < 256
 | 0,n,h,x,hx=>by simp [eR] at hx
 | f+1,n,h,x,hx=>by
  rw [eR] at hx
  split at hx
  ·simp only [afF] at hx;omega
  ·rcases af1.1 hx with rfl | hx
   ·omega
   ·exact xu f (n / 128) (by omega) x hx
def eI (n:Int):Int:=if n < 0 then -2*n - 1 else 2*n
def lT (n:Int):Int:=if n % 2=1 then -(n / 2) - 1 else n / 2
theorem nV (n:Int):lT (eI n)=n:=by unfold lT eI;split <;> split <;> omega
theorem jm {n:Int} (h1: -9223372036854775808<=n) (h2:n<=9223372036854775807):0<=eI n /\ eI n < 18446744073709551616:=by unfold eI;split <;> omega
theorem rj {n:Int} (h1:0<=n) (h2:n < 18446744073709551616): -9223372036854775808<=lT n /\ lT n<=9223372036854775807:=by unfold lT;split <;> omega
theorem Aj {k:Nat} (x:BitVec k):(x ^^^ BitVec.allOnes k).toNat=2 ^ k - 1 - x.toNat:=by
 rw [BitVec.xor_allOnes,BitVec.toNat_not]
theorem xv {n:Int} (h1: -9223372036854775808<=n) (h2:n<=9223372036854775807):
  IntKind.u64.wrap ((BitVec.ofInt 64 (IntKind.u64.wrap (IntKind.i64.wrap (n*2 ^ (min (Int.toNat 1) 64)))) ^^^ BitVec.ofInt 64 (IntKind.u64.wrap (Int.fdiv n (2 ^ (min (Int.toNat 63) 64))))).toNat:Nat)=eI n:=by
 have e1:n*2 ^ (min (Int.toNat 1) 64)=n*2:=rfl
 have e2:Int.fdiv n (2 ^ (min (Int.toNat 63) 64))=n / 9223372036854775808:=by
  show Int.fdiv n 9223372036854775808=_
  rw [ag4 _ (by omega)]
 rw [e1,e2]
 unfold eI
 by_cases h:n < 0
 ·have e3:n / 9223372036854775808= -1:=by omega
  have e4:BitVec.ofInt 64 (IntKind.u64.wrap (-1))=BitVec.allOnes 64:=by decide
  rw [e3,e4,Aj,dS,if_pos h,kH,kH,Ah]
  split <;> omega
 ·have e3:n / 9223372036854775808=0:=by omega
  have e4:BitVec.ofInt 64 (IntKind.u64.wrap 0)=0#64:=by decide
  rw [e3,e4,BitVec.xor_zero,dS,if_neg h,kH,kH,Ah]
  split <;> omega
theorem YN (n:Int):((BitVec.ofInt 64 n &&& BitVec.ofInt 64 1).toNat:Int)=n % 2:=by
 have e:BitVec.ofInt 64 1=1#64:=by decide
 rw [e,BitVec.toNat_and,dS]
 show ((_ &&& 1:Nat):Int)=_
 rw [Nat.and_one_is_mod]
 omega
theorem Hz {n:Int} (h1:0<=n) (h2:n < 18446744073709551616):
  IntKind.i64.wrap ((BitVec.ofInt 64 (IntKind.i64.wrap (Int.fdiv n (2 ^ (min (Int.toNat 1) 64)))) ^^^ BitVec.ofInt 64 (IntKind.i64.wrap (0 - (IntKind.i64.wrap (IntKind.u64.wrap ((BitVec.ofInt 64 n &&& BitVec.ofInt 64 1).toNat:Nat)))))).toNat:Nat)=lT n:=by
 have e2:Int.fdiv n (2 ^ (min (Int.toNat 1) 64))=n / 2:=by
  show Int.fdiv n 2=_
  rw [ag4 _ (by omega)]
 rw [e2,YN]
 have e3:IntKind.u64.wrap (n % 2)=n % 2:=by rw [kH];omega
 have e4:IntKind.i64.wrap (n % 2)=n % 2:=aB (by omega) (by omega)
 have e5:IntKind.i64.wrap (n / 2)=n / 2:=aB (by omega) (by omega)
 rw [e3,e4,e5]
 unfold lT
 rcases Int.emod_two_eq n with h | h
 ·rw [h,if_neg (by omega)]
  have e6:BitVec.ofInt 64 (IntKind.i64.wrap (0 - 0))=0#64:=by decide
  rw [e6,BitVec.xor_zero,dS,Ah]
  split <;> omega
 ·rw [h,if_pos rfl]
  have e6:BitVec.ofInt 64 (IntKind.i64.wrap (0 - 1))=BitVec.allOnes 64:=by decide
  rw [e6,Aj,dS,Ah]
  split <;> omega
def jc:List Int->Nat->Int->Int×Int
 | [],_,_=>(0,0)
 | c :: r,i,n=>if i=9 /\ 1 < c then (0,0) else
  if 128<=c then jc r (i+1) (n+(c % 128)*2 ^ (7*i)) else
  if c=0 /\ 0 < i then (0,0) else (n+(c % 128)*2 ^ (7*i),i+1)
def ax (l:List Int):Int×Int:=jc l 0 0
theorem Qq {n:Int} {a k:Nat} (h0:0<=n) (h1:n < 2 ^ k) (h2:n+a*2 ^ k < 18446744073709551616):((BitVec.ofInt 64 n ||| BitVec.ofInt 64 ((a:Int)*2 ^ k)).toNat:Int)=n+a*2 ^ k:=by
 obtain⟨m,rfl⟩:=Int.eq_ofNat_of_zero_le h0
 have rY:m < 2 ^ k:=by exact_mod_cast h1
 have hc:((a*2 ^ k:Nat):Int)=(a:Int)*2 ^ k:=by rw [Int.natCast_mul,Int.natCast_pow];rfl
 rw [<-hc] at h2 ⊢
 have IT:m+a*2 ^ k < 18446744073709551616:=by omega
 generalize hq:a*2 ^ k=q at h2 IT ⊢
 have e1:(BitVec.ofInt 64 (m:Int)).toNat=m:=by rw [dS];omega
 have e2:(BitVec.ofInt 64 (q:Int)).toNat=q:=by rw [dS];omega
 rw [BitVec.toNat_or,e1,e2,<-hq,Nat.or_comm,Nat.mul_comm a,<-Nat.two_pow_add_eq_or_of_lt rY,Nat.mul_comm]
 omega
end Go.Proofs.YtcccjgmekakabaaGreat.FP
end

section
namespace Go.Proofs.YtcccjgmekakabaaGreat.FP
open F
open Go Go.Den Go.Proofs
abbrev iv (x:Int):List Value:= [.int .i64 x]
theorem aq (x:Int):(iv x).length=1:=rfl
theorem yD: ∃inf:TypeInfo,Tryz.prog.info? 5=some inf /\ inf.zero=some (.int .u8 0) /\ inf.size=1 /\ inf.bytes=1:=fE (by kernel_rfl)
theorem jC: ∃inf:TypeInfo,Tryz.prog.info? 2=some inf /\ inf.zero=some (.int .i64 0) /\ inf.size=1 /\ inf.bytes=8:=fE (by kernel_rfl)
theorem dR:Tryz.prog.underlying 23=some (.slice 5):=by kernel_rfl
theorem Dm:Tryz.prog.underlying 34=some (.slice 2):=by kernel_rfl
abbrev tB (s:Sl) (l:List Int):aa:=aj s 5 1 eC l
section
variable {S:List Nat} {w0 w:World} {ae:List aa}
theorem ch {α:Type} (l:List α) (t u:α):(l++ [t]).set l.length u=l++ [u]:=by
 rw [afI _ _ (afV _),af9,afN]
theorem jJ (h:Hp S w0 w ae) (i:Nat) {b:Sl} {l:List Int} {n:Int} (hi:ae[i]? =some (tB b l)) (h0:0<=n) (h1:n < 18446744073709551616) (hl:l.length+10<=140737488355328) {K:Sl->World->Prop}
  (hK: ∀s w',Hp S w0 w' (ae.set i (tB s (l++aV n)))->K s w'):yi b n w K:=by
 refine JQ ?_
 unfold f101
 have ky:=(aft.1 hi).1
 obtain⟨inf,q1,q2,q3,q4⟩:=yD
 refine⟨fun b2 n2 m w'=> ∃pre:List Int,0<=n2 /\ n2 < 18446744073709551616 /\ l++aV n=l++pre++aV n2 /\ pre.length+(aV n2).length<=10 /\ m=n2.toNat /\ Hp S w0 w' (ae.set i (tB b2 (l++pre))),
  ⟨n.toNat,[],h0,h1,by simp,by have:=aT n;simpa using this,rfl,by rw [afH,Hp.cK hi];exact h⟩,?_⟩
 rintro b2 n2 m w2 ⟨pre,g0,g1,g2,g3,rfl,h⟩
 have Tx:(ae.set i (tB b2 (l++pre)))[i]? =some (tB b2 (l++pre)):=by simp [ky]
 have qB:=h.len (s:=b2) i (by rw [Tx];rfl)
 simp only [afw] at qB
 have hp:=cM n2
 by_cases iL:n2>=128
 ·refine aE (by simpa using iL) ?_
  rw [YL]
  refine h.bL (c:= [_]) i (n2 % 128+128) Tx bx dR q1 q3 q2 rfl rfl (by simp [Value.oneCell']) (by rw [q4];omega) (by omega) fun s2 w1 h jO _=>?_
  rw [agz] at h
  refine⟨by omega,(n2 / 128).toNat,by omega,pre++ [n2 % 128+128],?_,?_,?_,?_,?_,?_⟩
  ·rw [Hx];omega
  ·rw [Hx];omega
  ·rw [g2,Hx,tw iL g1];simp
  ·rw [Hx,tw iL g1] at*;simp at g3 ⊢;omega
  ·rw [Hx]
  ·rw [<-afA];exact h
 ·refine aF (by simpa using iL) ?_
  have e:IntKind.u8.wrap n2=n2:=by rw [w8];omega
  rw [e]
  refine h.bL (c:= [_]) i n2 Tx bx dR q1 q3 q2 rfl rfl (by simp [Value.oneCell']) (by rw [q4];omega) (by omega) fun s2 w1 h jO _=>?_
  rw [agz] at h
  refine hK s2 w1 ?_
  rw [g2,Dl (by omega)]
  exact h
theorem lU (h:Hp S w0 w ae) (j:Nat) {u:aa} {b:Sl} {l:List Int} (hj:ae[j]? =some u) (hu:Hp.Reads u b 1 eC l) (hl:l.length<=140737488355328) {K:Sl->World->Prop}
  (hK: ∀s w',Hp S w0 w' (ae++ [tB s l])->K s w'):bZ .sl Tryz.prog (Builtin.append_ #[23,23] 23 #[.slice none 0 0,.slice b.a b.len b.cap]) w K:=by
 have qB:=h.df j (by rw [hj];rfl) hu
 have ar:=(aft.1 hj).1
 have h:=h.nil 5 1 eC
 obtain⟨inf,q1,q2,q3,q4⟩:=yD
 refine h.gY ae.length j (s:=⟨none,0,0⟩) afU (u:=u) (by rw [afx ar];exact hj) hu bx dR q1 q3 q2 rfl (by simp [Value.oneCell']) (by rw [q4];show (0+b.len)*1<=_;omega) (by show 0+b.len<=_;omega) fun r w h _ _=>?_
 rw [ch] at h
 exact hK r w h
theorem Ak (h:Hp S w0 w ae) (j:Nat) {u:aa} {b:Sl} {l:List Int} {n:Int} (hj:ae[j]? =some u) (hu:Hp.Reads u b 1 eC l) (h0:0<=n) (h1:n < 18446744073709551616) (hl:l.length+10<=140737488355328) {K:Sl->World->Prop}
  (hK: ∀s w',Hp S w0 w' (ae++ [tB s (l++aV n)])->K s w'):U7 b n w K:=by
 refine OC ?_
 unfold f40
 refine BM ?_
 unfold f98
 refine lU h j hj hu (by omega) fun s w1 h=>?_
 refine jJ h ae.length afU h0 h1 hl fun s w2 h=>?_
 rw [ch] at h
 exact hK s w2 h
theorem Al (h:Hp S w0 w ae) (j:Nat) {u:aa} {b:Sl} {l:List Int} {n:Int} (hj:ae[j]? =some u) (hu:Hp.Reads u b 1 eC l) (h0: -9223372036854775808<=n) (h1:n<=9223372036854775807) (hl:l.length+10<=140737488355328) {K:Sl->World->Prop}
  (hK: ∀s w',Hp S w0 w' (ae++ [tB s (l++aV (eI n))])->K s w'):WO b n w K:=by
 refine OD ?_
 unfold f41
 refine CY ?_
 unfold f102
 refine⟨by omega,by omega,?_⟩
 rw [xv h0 h1]
 have:=jm h0 h1
 exact Ak h j hj hu this.1 this.2 hl hK
theorem k5 (h:Hp S w0 w ae) (j:Nat) {u:aa} {b:Sl} {l:List Int} {n:Int} (hj:ae[j]? =some u) (hu:Hp.Reads u b 1 eC l) (h0:0<=n) (h1:n < 18446744073709551616) (hl:l.length+10<=140737488355328) {K:Sl->World->Prop}
  (hK: ∀s w',Hp S w0 w' (ae++ [tB s (l++aV n)])->K s w'):BB b n w K:=by
 refine JU ?_
 unfold f106
 refine lU h j hj hu (by omega) fun s w1 h=>?_
 obtain⟨inf,q1,q2,q3,q4⟩:=yD
 refine⟨fun n2 b2 m w'=> ∃pre:List Int,0<=n2 /\ n2 < 18446744073709551616 /\ l++aV n=l++pre++aV n2 /\ pre.length+(aV n2).length<=10 /\ m=n2.toNat /\ Hp S w0 w' (ae++ [tB b2 (l++pre)]),
  ⟨n.toNat,[],h0,h1,by simp,by have:=aT n;simpa using this,rfl,by rw [afH];exact h⟩,?_⟩
 rintro n2 b2 m w2 ⟨pre,g0,g1,g2,g3,rfl,h⟩
 have qB:=h.len (s:=b2) ae.length (by rw [afU];rfl)
 simp only [afw] at qB
 have hp:=cM n2
 by_cases iL:n2>=128
 ·refine aE (by simpa using iL) ⟨by omega,?_⟩
  have e:IntKind.u8.wrap (IntKind.u64.wrap (Int.tmod n2 128+128))=n2 % 128+128:=by
   rw [ahE g0,kH,w8];omega
  have e2:IntKind.u64.wrap (Int.tdiv n2 128)=n2 / 128:=by rw [Int.tdiv_eq_ediv_of_nonneg g0,kH];omega
  rw [e]
  refine h.bL (c:= [_]) ae.length (n2 % 128+128) afU bx dR q1 q3 q2 rfl rfl (by simp [Value.oneCell']) (by rw [q4];omega) (by omega) fun s2 w1 h jO _=>?_
  rw [ch] at h
  refine⟨by omega,(n2 / 128).toNat,by omega,pre++ [n2 % 128+128],?_,?_,?_,?_,?_,?_⟩
  ·rw [e2];omega
  ·rw [e2];omega
  ·rw [g2,e2,tw iL g1];simp
  ·rw [e2];rw [tw iL g1] at g3;simp at g3 ⊢;omega
  ·rw [e2]
  ·rw [<-afA];exact h
 ·refine aF (by simpa using iL) ?_
  have e:IntKind.u8.wrap n2=n2:=by rw [w8];omega
  rw [e]
  refine h.bL (c:= [_]) ae.length n2 afU bx dR q1 q3 q2 rfl rfl (by simp [Value.oneCell']) (by rw [q4];omega) (by omega) fun s2 w1 h jO _=>?_
  rw [ch] at h
  refine hK s2 w1 ?_
  rw [g2,Dl (by omega)]
  exact h
theorem Ev {n:Int} (h1: -9223372036854775808<=n) (h2:n<=9223372036854775807) {K:Int->World->Prop} (hK:K (eI n) w):NT n w K:=by
 refine Kt ?_
 unfold f147
 unfold eI at hK
 by_cases h:n < 0
 ·refine aE (by simpa using h) ?_
  rw [if_pos h] at hK
  have e:IntKind.u64.wrap (IntKind.u64.wrap (IntKind.u64.wrap (IntKind.i64.wrap (0 - IntKind.i64.wrap (n+1)))*2)+1)= -2*n - 1:=by
   rw [aB (n:=n+1) (by omega) (by omega),aB (by omega) (by omega),kH,kH,kH];omega
  rw [e];exact hK
 ·refine aF (by simpa using h) ?_
  rw [if_neg h] at hK
  have e:IntKind.u64.wrap (IntKind.u64.wrap n*2)=2*n:=by rw [kH,kH];omega
  rw [e];exact hK
theorem jd (h:Hp S w0 w ae) (j:Nat) {u:aa} {b:Sl} {l:List Int} {n:Int} (hj:ae[j]? =some u) (hu:Hp.Reads u b 1 eC l) (h0: -9223372036854775808<=n) (h1:n<=9223372036854775807) (hl:l.length+10<=140737488355328) {K:Sl->World->Prop}
  (hK: ∀s w',Hp S w0 w' (ae++ [tB s (l++aV (eI n))])->K s w'):DY b n w K:=by
 refine JV ?_
 unfold f107
 refine Ev h0 h1 ?_
 have:=jm h0 h1
 exact k5 h j hj hu this.1 this.2 hl hK
end
end Go.Proofs.YtcccjgmekakabaaGreat.FP
end

section
namespace Go.Proofs.YtcccjgmekakabaaGreat.FP
open F
open Go Go.Den Go.Proofs
theorem k6 {n c:Int} {i:Nat} (hi:i<=9) (c0:0<=c) (c1:c < 256) (h9:i=9->c<=1) (n0:0<=n) (n1:n < 2 ^ (7*i)):
  0<=(c % 128)*2 ^ (7*i) /\ n+(c % 128)*2 ^ (7*i) < 18446744073709551616 /\ n+(c % 128)*2 ^ (7*i) < 2 ^ (7*(i+1)):=by
 have hc9:i≠9 \/ c<=1:=by
  by_cases h:i=9
  ·exact .inr (h9 h)
  ·exact .inl h
 clear h9
 have:i=0 \/ i=1 \/ i=2 \/ i=3 \/ i=4 \/ i=5 \/ i=6 \/ i=7 \/ i=8 \/ i=9:=by omega
 rcases this with rfl | rfl | rfl | rfl | rfl | rfl | rfl | rfl | rfl | rfl <;> simp only [Nat.reduceMul,Nat.reduceAdd,Int.reducePow] at* <;> omega
theorem xw {i:Nat} (hi:i<=9):min (Int.toNat (IntKind.i64.wrap (7*(i:Int)))) 64=7*i:=by
 rw [aB (by omega) (by omega)];omega
theorem Ln {n c:Int} {i:Nat} (hi:i<=9) (c0:0<=c) (c1:c < 256) (h9:i=9->c<=1) (n0:0<=n) (n1:n < 2 ^ (7*i)):
  IntKind.u64.wrap ((BitVec.ofInt 64 n ||| BitVec.ofInt 64 (IntKind.u64.wrap ((IntKind.u64.wrap (IntKind.u8.wrap ((BitVec.ofInt 8 c &&& BitVec.ofInt 8 127).toNat:Nat)))*2 ^ (min (Int.toNat (IntKind.i64.wrap (7*(i:Int)))) 64)))).toNat:Nat)=n+(c % 128)*2 ^ (7*i):=by
 obtain⟨b0,b1,b2⟩:=k6 hi c0 c1 h9 n0 n1
 rw [YM c0 c1,xw hi]
 have e:IntKind.u64.wrap (c % 128*2 ^ (7*i))=c % 128*2 ^ (7*i):=by
  rw [kH]
  generalize c % 128*2 ^ (7*i)=q at b0 b1
  omega
 rw [e]
 obtain⟨a,ha⟩:=Int.eq_ofNat_of_zero_le (show 0<=c % 128 by omega)
 rw [ha] at b0 b1 b2 ⊢
 have:=Qq (a:=a) (k:=7*i) n0 n1 b1
 rw [this,kH]
 generalize (a:Int)*2 ^ (7*i)=q at b0 b1
 omega
theorem HA {n c:Int} {i:Nat} (hi:i<=9) (c0:0<=c) (c1:c < 256) (h9:i=9->c<=1) (n0:0<=n) (n1:n < 2 ^ (7*i)):
  IntKind.u64.wrap (n+(IntKind.u64.wrap ((Int.tmod (IntKind.u64.wrap c) 128)*2 ^ (min (Int.toNat (IntKind.i64.wrap (7*(i:Int)))) 64))))=n+(c % 128)*2 ^ (7*i):=by
 obtain⟨b0,b1,b2⟩:=k6 hi c0 c1 h9 n0 n1
 have e0:IntKind.u64.wrap c=c:=by rw [kH];omega
 rw [e0,ahE c0,xw hi]
 generalize c % 128*2 ^ (7*i)=q at b0 b1
 rw [kH,kH]
 omega
theorem jo (c:Int) (r:List Int) (i:Nat) (n:Int):jc (c :: r) i n=if i=9 /\ 1 < c then (0,0) else
  if 128<=c then jc r (i+1) (n+(c % 128)*2 ^ (7*i)) else
  if c=0 /\ 0 < i then (0,0) else (n+(c % 128)*2 ^ (7*i),(i:Int)+1):=by rw [jc]
theorem uT: ∀(l:List Int) (i:Nat) (n:Int),i<=9->Bytes l->0<=n->n < 2 ^ (7*i)->0<=(jc l i n).1 /\ (jc l i n).1 < 18446744073709551616 /\ 0<=(jc l i n).2 /\ (jc l i n).2<=i+l.length /\ (jc l i n).2<=10 /\ ((jc l i n).2=0->(jc l i n).1=0)
 | [],i,n,hi,hb,h0,h1=>by rw [jc];simp
 | c :: r,i,n,hi,hb,h0,h1=>by
  have hc:=hb c (by simp)
  rw [jo]
  split
  ·simp;omega
  ·rename_i h9
   have Qr:i=9->c<=1:=fun h=>by omega
   obtain⟨b0,b1,b2⟩:=k6 hi hc.1 hc.2 Qr h0 h1
   split
   ·have:=uT r (i+1) (n+(c % 128)*2 ^ (7*i)) (by omega) (fun x hx=>hb x (by simp [hx])) (by omega) b2
    refine⟨this.1,this.2.1,this.2.2.1,?_,this.2.2.2.2.1,this.2.2.2.2.2⟩
    have:=this.2.2.2.1
    simp only [af6]
    omega
   ·split
    ·simp;omega
    ·refine⟨by omega,b1,by omega,by simp only [af6];omega,by omega,by omega⟩
theorem bz {l:List Int} (hb:Bytes l):0<=(ax l).1 /\ (ax l).1 < 18446744073709551616 /\ 0<=(ax l).2 /\ (ax l).2<=l.length /\ (ax l).2<=10 /\ ((ax l).2=0->(ax l).1=0):=by
 have:=uT l 0 0 (by omega) hb (by omega) (by simp)
 unfold ax
 simpa using this
section
variable {S:List Nat} {w0 w:World} {ae:List aa}
theorem uU (h:Hp S w0 w ae) (j:Nat) {u:aa} {b:Sl} {l:List Int} (hj:(ae[j]?).map aa.holds=some u.holds) (hu:Hp.Reads u b 1 eC l) (hb:Bytes l) (hl:l.length<=9000000000000000) {K:Int->Int->World->Prop}
  (hK:K (ax l).1 (ax l).2 w):Sq b w K:=by
 refine Pr ?_
 unfold f66
 have qB:=h.df j hj hu
 refine⟨fun n t m w'=> ∃i:Nat,t=i /\ i<=l.length /\ i<=9 /\ 0<=n /\ n < 2 ^ (7*i) /\ jc (l.drop i) i n=ax l /\ m=l.length - i /\ w'=w,⟨l.length,0,rfl,by omega,by omega,by omega,by simp,rfl,rfl,rfl⟩,?_⟩
 rintro n t m w2 ⟨i,rfl,hi,Rz,n0,n1,hg,rfl,rfl⟩
 by_cases ar:i < l.length
 ·refine aE (by simp;omega) ?_
  have hc:=hb l[i] (afR ar)
  have hd:l.drop i=l[i] :: l.drop (i+1):=agf ar
  refine h.dd (k:=.i .u8) (u:=u) (y:=l[i]) (x:=l[i]) j hj hu (by omega) (by simp [ar]) bx rfl ?_
  rw [hd,jo] at hg
  generalize l[i]=c at hc hg hd
  by_cases h9:i=9 /\ 1 < c
  ·refine aE (by rw [h9.1];simpa using h9.2) ?_
   rw [if_pos h9] at hg
   rw [<-hg] at hK
   exact hK
  ·rw [if_neg h9] at hg
   refine aF ?_ ?_
   ·by_cases fK:(i:Int)=9
    ·have: ¬c > 1:=fun h=>h9 ⟨by omega,h⟩
     simp [fK,this]
    ·simp [fK]
   have Qr:i=9->c<=1:=fun h=>by omega
   obtain⟨b0,b1,b2⟩:=k6 Rz hc.1 hc.2 Qr n0 n1
   refine⟨by rw [aB (by omega) (by omega)];omega,?_⟩
   rw [Ln Rz hc.1 hc.2 Qr n0 n1]
   by_cases iL:128<=c
   ·refine aE (by simpa using iL) ?_
    rw [if_pos iL] at hg
    exact⟨l.length - (i+1),by omega,i+1,by rw [aB (by omega) (by omega)];omega,by omega,by omega,by omega,b2,hg,rfl,rfl⟩
   ·refine aF (by simpa using iL) ?_
    rw [if_neg iL] at hg
    by_cases hz:c=0 /\ 0 < i
    ·refine aE (by simp [hz]) ?_
     rw [if_pos hz] at hg
     rw [<-hg] at hK
     exact hK
    ·refine aF ?_ ?_
     ·by_cases ya:c=0
      ·have: ¬0 < i:=fun h=>hz ⟨ya,h⟩
       simp [ya];omega
      ·simp [ya]
     rw [if_neg hz] at hg
     rw [<-hg] at hK
     rw [aB (by omega) (by omega)]
     exact hK
 ·refine aF (by simp;omega) ?_
  rw [agq (by omega),jc] at hg
  rw [<-hg] at hK
  exact hK
theorem k7 (h:Hp S w0 w ae) (j:Nat) {u:aa} {b:Sl} {l:List Int} (hj:(ae[j]?).map aa.holds=some u.holds) (hu:Hp.Reads u b 1 eC l) (hb:Bytes l) (hl:l.length<=9000000000000000) {K:Int->Int->World->Prop}
  (hK:K (ax l).1 (ax l).2 w):Nt b w K:=by
 refine Pv ?_
 unfold f70
 have qB:=h.df j hj hu
 refine⟨fun n t m w'=> ∃i:Nat,t=i /\ i<=l.length /\ i<=9 /\ 0<=n /\ n < 2 ^ (7*i) /\ jc (l.drop i) i n=ax l /\ m=l.length - i /\ w'=w,⟨l.length,0,rfl,by omega,by omega,by omega,by simp,rfl,rfl,rfl⟩,?_⟩
 rintro n t m w2 ⟨i,rfl,hi,Rz,n0,n1,hg,rfl,rfl⟩
 by_cases ar:i < l.length
 ·refine aE (by simp;omega) ?_
  have hc:=hb l[i] (afR ar)
  have hd:l.drop i=l[i] :: l.drop (i+1):=agf ar
  refine h.dd (k:=.i .u8) (u:=u) (y:=l[i]) (x:=l[i]) j hj hu (by omega) (by simp [ar]) bx rfl ?_
  rw [hd,jo] at hg
  generalize l[i]=c at hc hg hd
  have e0:IntKind.u64.wrap c=c:=by rw [kH];omega
  by_cases h9:i=9 /\ 1 < c
  ·refine aE (by rw [e0,h9.1];simpa using h9.2) ?_
   rw [if_pos h9] at hg
   rw [<-hg] at hK
   exact hK
  ·rw [if_neg h9] at hg
   refine aF ?_ ?_
   ·rw [e0]
    by_cases fK:(i:Int)=9
    ·have: ¬c > 1:=fun h=>h9 ⟨by omega,h⟩
     simp [fK,this]
    ·simp [fK]
   have Qr:i=9->c<=1:=fun h=>by omega
   obtain⟨b0,b1,b2⟩:=k6 Rz hc.1 hc.2 Qr n0 n1
   refine⟨by omega,by rw [aB (by omega) (by omega)];omega,?_⟩
   rw [HA Rz hc.1 hc.2 Qr n0 n1,e0]
   by_cases iL:128<=c
   ·refine aE (by simpa using iL) ?_
    rw [if_pos iL] at hg
    exact⟨l.length - (i+1),by omega,i+1,by rw [aB (by omega) (by omega)];omega,by omega,by omega,by omega,b2,hg,rfl,rfl⟩
   ·refine aF (by simpa using iL) ?_
    rw [if_neg iL] at hg
    by_cases hz:c=0 /\ 0 < i
    ·refine aE (by simp [hz]) ?_
     rw [if_pos hz] at hg
     rw [<-hg] at hK
     exact hK
    ·refine aF ?_ ?_
     ·by_cases ya:c=0
      ·have: ¬0 < i:=fun h=>hz ⟨ya,h⟩
       simp [ya];omega
      ·simp [ya]
     rw [if_neg hz] at hg
     rw [<-hg] at hK
     rw [aB (by omega) (by omega)]
     exact hK
 ·refine aF (by simp;omega) ?_
  rw [agq (by omega),jc] at hg
  rw [<-hg] at hK
  exact hK
def fi (l:List Int):Int×Int:=(lT (ax l).1,(ax l).2)
theorem o5 {n:Int} {K:Int->World->Prop} (h1:0<=n) (h2:n < 18446744073709551616) (hK:K (lT n) w):F3 n w K:=by
 refine J7 ?_
 unfold f122
 refine⟨by omega,?_⟩
 rw [Hz h1 h2]
 exact hK
theorem wy {n:Int} {K:Int->World->Prop} (h1:0<=n) (h2:n < 18446744073709551616) (hK:K (lT n) w):NF n w K:=by
 refine Ke ?_
 unfold f128
 refine⟨by omega,?_⟩
 unfold lT at hK
 have e1:IntKind.u64.wrap (Int.tdiv n 2)=n / 2:=by rw [Int.tdiv_eq_ediv_of_nonneg h1,kH];omega
 rw [ahE h1,e1]
 by_cases h:n % 2=1
 ·refine aE (by simpa using h) ⟨by omega,?_⟩
  rw [if_pos h] at hK
  rw [aB (n:=n / 2) (by omega) (by omega),aB (n:=0 - n / 2) (by omega) (by omega),aB (by omega) (by omega)]
  have e:0 - n / 2 - 1= -(n / 2) - 1:=by omega
  rw [e];exact hK
 ·refine aF (by simpa using h) ⟨by omega,?_⟩
  rw [if_neg h] at hK
  rw [aB (by omega) (by omega)]
  exact hK
theorem Am (h:Hp S w0 w ae) (j:Nat) {u:aa} {b:Sl} {l:List Int} (hj:(ae[j]?).map aa.holds=some u.holds) (hu:Hp.Reads u b 1 eC l) (hb:Bytes l) (hl:l.length<=9000000000000000) {K:Int->Int->World->Prop}
  (hK:K (fi l).1 (fi l).2 w):WT b w K:=by
 refine Ps ?_
 unfold f67
 have hr:=bz hb
 refine uU h j hj hu hb hl ?_
 exact o5 hr.1 hr.2.1 hK
theorem qd (h:Hp S w0 w ae) (j:Nat) {u:aa} {b:Sl} {l:List Int} (hj:(ae[j]?).map aa.holds=some u.holds) (hu:Hp.Reads u b 1 eC l) (hb:Bytes l) (hl:l.length<=9000000000000000) {K:Int->Int->World->Prop}
  (hK:K (fi l).1 (fi l).2 w):Vi b w K:=by
 refine Pw ?_
 unfold f71
 have hr:=bz hb
 refine k7 h j hj hu hb hl ?_
 unfold fi at hK
 by_cases hz:(ax l).2=0
 ·refine aE (by simpa using hz) ?_
  have h0:=hr.2.2.2.2.2 hz
  rw [h0,hz] at hK
  exact hK
 ·refine aF (by simpa using hz) ?_
  exact wy hr.1 hr.2.1 hK
theorem uV {l:List Int} (h:Bytes l) (n:Nat):Bytes (l.take n):=fun x hx=>h x (ahH hx)
theorem lV {l:List Int} (h:Bytes l) (n:Nat):Bytes (l.drop n):=fun x hx=>h x (ag2 hx)
end
end Go.Proofs.YtcccjgmekakabaaGreat.FP
end

section
namespace Go.Proofs.YtcccjgmekakabaaGreat.FP
open F
open Go Go.Den Go.Proofs
def dX (l:List Int):Prop:= ∀x∈l,-9223372036854775808<=x /\ x<=9223372036854775807
def bI (l:List Int):List Int:=l.flatMap fun x=>aV (eI x)
def iB:Int->List Int->List Int
 | _,[]=> []
 | last,x :: r=>aV (eI (IntKind.i64.wrap (x - last)))++iB x r
def kB (x:Int):List Int->Nat
 | []=>0
 | y :: r=>if y=x then kB x r+1 else 0
def runT:Option Int->List Int->List (Int×Int)
 | _,[]=> []
 | p,x :: r=>if p=some x then runT (some x) r else (((kB x r+1:Nat):Int),x) :: runT (some x) r
def bY (l:List Int):List (Int×Int):=runT none l
def fG (x:Int×Int):List Int:=aV x.1++aV (eI x.2)
def yE (l:List Int):List Int:=aV (bY l).length++(bY l).flatMap fG
def bd (f:Int) (l:List Int):List Int:=if f=0 then bI l else if f=1 then iB 0 l else yE l
def dT (a b:List Int):List Int:=if b.length < a.length then b else a
def gO (l:List Int):List Int:=dT (dT (0 :: bd 0 l) (1 :: bd 1 l)) (2 :: bd 2 l)
def bS (l:List Int):List Int:=aV l.length++(if l= [] then [] else gO l)
def ke (out:List (Int×Int)) (x:Int):List (Int×Int):=
 match out.getLast? with
 | some (n,y)=>if y=x then out.dropLast++ [(n+1,y)] else out++ [(1,x)]
 | none=> [(1,x)]
theorem uW (out:List (Int×Int)) (n y:Int):ke (out++ [(n,y)]) y=out++ [(n+1,y)]:=by
 unfold ke
 simp
theorem uX (out:List (Int×Int)) (n:Int) {x y:Int} (h:y≠x):ke (out++ [(n,y)]) x=out++ [(n,y)]++ [(1,x)]:=by
 unfold ke
 simp [h]
theorem rk: ∀(r:List Int) (out:List (Int×Int)) (n y:Int),r.foldl ke (out++ [(n,y)])=out++ [(n+kB y r,y)]++runT (some y) r
 | [],out,n,y=>by simp [runT,kB]
 | x :: r,out,n,y=>by
  rw [ahn]
  by_cases h:x=y
  ·subst h
   rw [uW,rk r out (n+1) x,runT,if_pos rfl]
   simp only [kB,if_true]
   have e:n+1+(kB x r:Int)=n+((kB x r+1:Nat):Int):=by omega
   rw [e]
  ·rw [uX _ _ (Ne.symm h),rk r (out++ [(n,y)]) 1 x,runT,if_neg (by simpa using Ne.symm h)]
   have e:kB y (x :: r)=0:=by simp [kB,h]
   rw [e]
   have e2:(1:Int)+(kB x r:Int)=((kB x r+1:Nat):Int):=by omega
   rw [e2]
   simp
theorem HB (l:List Int):l.foldl ke []=bY l:=by
 cases l with
 | nil=>rfl
 | cons x r=>
  rw [ahn]
  have e:ke [] x= []++ [(1,x)]:=rfl
  rw [e,rk]
  unfold bY
  rw [runT,if_neg (by simp)]
  have e2:(1:Int)+(kB x r:Int)=((kB x r+1:Nat):Int):=by omega
  rw [e2]
  simp
theorem Ce (x:Int): ∀r:List Int,kB x r<=r.length
 | []=>by simp [kB]
 | y :: r=>by
  rw [kB];split
  ·have:=Ce x r;simp;omega
  ·simp
theorem An: ∀(p:Option Int) (l:List Int),(runT p l).length<=l.length
 | p,[]=>by simp [runT]
 | p,x :: r=>by
  have:=An (some x) r
  rw [runT];split
  ·simp;omega
  ·simp;omega
theorem jq (l:List Int):(bY l).length<=l.length:=An none l
theorem jK: ∀(p:Option Int) (l:List Int) (y:Int×Int),y∈runT p l->1<=y.1 /\ y.1<=l.length /\ y.2∈l
 | p,[],y,h=>by simp [runT] at h
 | p,x :: r,y,h=>by
  rw [runT] at h
  split at h
  ·have:=jK (some x) r y h
   exact⟨this.1,by simp;omega,by simp [this.2.2]⟩
  ·rcases af1.1 h with rfl | h
   ·have:=Ce x r
    exact⟨by show (1:Int)<=_;omega,by show ((kB x r+1:Nat):Int)<=_;simp;omega,by simp⟩
   ·have:=jK (some x) r y h
    exact⟨this.1,by simp;omega,by simp [this.2.2]⟩
theorem cw (l:List Int):(bI l).length<=10*l.length:=by
 induction l with
 | nil=>simp [bI]
 | cons x r ih=>
  have:=aT (eI x)
  simp only [bI,age,afw,af6] at ih ⊢
  omega
theorem HC (x:Int×Int):(fG x).length<=20:=by
 have:=aT x.1
 have:=aT (eI x.2)
 simp only [fG,afw];omega
theorem Ew (l:List (Int×Int)):(l.flatMap fG).length<=20*l.length:=by
 induction l with
 | nil=>simp
 | cons x r ih=>
  have:=HC x
  simp only [age,afw,af6]
  omega
theorem rm (l:List Int):(gO l).length<=11+10*l.length:=by
 have h0:(0 :: bd 0 l).length<=11+10*l.length:=by
  have:=cw l
  simp only [bd,if_true,af6];omega
 unfold gO
 have hs: ∀a b:List Int,(dT a b).length<=a.length:=fun a b=>by unfold dT;split <;> omega
 have:=hs (0 :: bd 0 l) (1 :: bd 1 l)
 have:=hs (dT (0 :: bd 0 l) (1 :: bd 1 l)) (2 :: bd 2 l)
 omega
theorem sE {a b:List Int} (ha:1<=a.length) (hb:1<=b.length):1<=(dT a b).length:=by
 unfold dT;split <;> assumption
theorem xx (l:List Int):1<=(gO l).length:=
 sE (sE (by simp) (by simp)) (by simp)
end Go.Proofs.YtcccjgmekakabaaGreat.FP
end

section
namespace Go.Proofs.YtcccjgmekakabaaGreat.FP
open F
open Go Go.Den Go.Proofs
abbrev rv (x:Int×Int):List Value:= [.int .u64 x.1,.int .i64 x.2]
theorem rp (x:Int×Int):(rv x).length=2:=rfl
theorem Ty: ∃inf:TypeInfo,Tryz.prog.info? 207=some inf /\ inf.zero=some (.agg #[.int .u64 0,.int .i64 0]) /\ inf.size=2 /\ inf.bytes=16:=fE (by kernel_rfl)
theorem Mt:Tryz.prog.underlying 204=some (.slice 207):=by kernel_rfl
section
variable {S:List Nat} {w0 w:World} {ae:List aa}
theorem HD {α:Type} {f:α->List Value} {e:TypeId} (h:Hp S w0 w ae) (i:Nat) {s:Sl} {l:List α} {j:Int} {x y:α} {v a b':Value} {K:World->Prop} (hi:ae[i]? =some (aj s e 2 f l)) (h0:0<=j) (hx:l[j.toNat]? =some x) (hf: ∀x,(f x).length=2) (hfx:f x= [a,b']) (hy:f y= [v,b']) (hv:v.oneCell'=true)
  (hK: ∀w',Hp S w0 w' (ae.set i (aj s e 2 f (l.set j.toNat y)))->K w'):Ix s.a s.len j 2 fun a=>St a v w K:=by
 obtain⟨O,hO,back⟩:=h.step hi rfl
 refine cA.ix hf hO h0 hx fun b off c ho hb eY pW dh=>?_
 refine Go.Den.st hb (by omega) hv fun w' iV wK _=>hK w' (back (t':=aj s e 2 f (l.set j.toNat y)) (O':=O) (by rw [ho];exact wK) (dh w' y ?_) (fun k hk=>.inl hk) rfl)
 have c1:=pW 1 (by omega)
 rw [hfx] at c1
 simp only [af8,afJ] at c1
 have e1:c.set off v=c.take off++f y++c.drop (off+2):=by
  apply agd
  intro m
  rw [hy]
  have l1:(List.take off c).length=off:=by rw [afM];omega
  simp only [agm,agP,afw,l1,af6,agU,agc,agn]
  by_cases h1:m < off
  ·rw [if_neg (by omega),if_pos (by omega),if_pos h1,if_pos h1]
  ·by_cases h2:m=off
   ·subst h2
    rw [if_pos rfl,if_pos (by omega),if_pos (by omega),if_neg (by omega)]
    simp
   ·by_cases h3:m=off+1
    ·subst h3
     rw [if_neg (by omega),if_pos (by omega),if_neg (by omega),c1]
     simp
    ·rw [if_neg (by omega),if_neg (by omega)]
     congr 1;omega
 rw [<-e1];exact iV
theorem Ex (h:Hp S w0 w ae) (j:Nat) {u:aa} {b:Sl} {l:List Int} (hj:ae[j]? =some u) (hu:Hp.Reads u b 1 iv l) (hr:dX l) (hl:l.length<=1000000000000) {K:Sl->World->Prop}
  (hK: ∀s w',Hp S w0 w' (ae++ [aj s 207 2 rv (bY l)])->K s w'):N0 b w K:=by
 refine KF ?_
 unfold f161
 have qB:=h.df j (by rw [hj];rfl) hu
 have ar:=(aft.1 hj).1
 have h:=h.nil 207 2 rv
 obtain⟨inf,q1,q2,q3,q4⟩:=Ty
 refine⟨fun out t m w'=> ∃(i:Nat) (R:List (Int×Int)),t=i /\ i<=l.length /\ R.length<=i /\ (∀x∈R,0<=x.1 /\ x.1<=i) /\ (l.drop i).foldl ke R=bY l /\ m=l.length - i /\ Hp S w0 w' (ae++ [aj out 207 2 rv R]),⟨l.length,0,[],rfl,by omega,by simp,by simp,HB l,rfl,h⟩,?_⟩
 rintro out t m w2 ⟨i,R,rfl,hi,YO,hR,qe,rfl,h⟩
 have kA:=h.len (s:=out) ae.length (by rw [afU];rfl)
 have dI: ∀t:aa,(ae++ [t])[j]? =some u:=fun t=>by rw [afx ar];exact hj
 by_cases hli:i < l.length
 ·refine aE (by simp;omega) ?_
  have hd:l.drop i=l[i] :: l.drop (i+1):=agf hli
  refine h.dd (k:=.i .i64) (u:=u) (y:=l[i]) (x:=l[i]) j (by rw [dI];rfl) hu (by omega) (by simp [hli]) aq rfl ?_
  rw [hd,ahn] at qe
  generalize l[i]=x at qe
  have ew:IntKind.i64.wrap ((out.len:Int) - 1)=(out.len:Int) - 1:=aB (by omega) (by omega)
  rw [ew]
  rcases List.eq_nil_or_concat R with rfl | ⟨R',⟨n,y⟩,rfl⟩
  ·simp only [agU] at kA
   refine⟨fun t w'=>t=false /\ w'=w2,aF (by simp;omega) ⟨rfl,rfl⟩,?_⟩
   rintro t w' ⟨rfl,rfl⟩
   refine aF (by simp) ?_
   refine h.bL (c:= [_,_]) ae.length ((1:Int),x) afU rp Mt q1 q3 q2 rfl rfl (by simp [Value.oneCell']) (by rw [q4];omega) (by omega) fun s2 w1 h _ _=>?_
   rw [ch] at h
   exact⟨l.length - (i+1),by omega,i+1,[(1,x)],by rw [aB (by omega) (by omega)];omega,by omega,by simp,by simp;omega,qe,rfl,h⟩
  ·simp only [List.concat_eq_append] at*
   simp only [afw,af6,agU] at kA YO
   have gz:(R'++ [(n,y)])[((out.len:Int) - 1).toNat]? =some (n,y):=by
    rw [afv (by omega),show ((out.len:Int) - 1).toNat - R'.length=0 by omega];rfl
   obtain⟨n0,n1⟩:=hR (n,y) (by simp)
   dsimp only at n0 n1
   refine⟨fun t w'=>t=(y ==x) /\ w'=w2,?_,?_⟩
   ·refine aE (by simp;omega) ?_
    refine h.sq ae.length (by rw [afU];rfl) (by omega) gz rp fun a hc=>?_
    exact j8 (k:=.i .i64) (x:=y) (hc 1 (by omega)) rfl ⟨rfl,rfl⟩
   ·rintro t w' ⟨rfl,rfl⟩
    by_cases HE:y=x
    ·subst HE
     refine aE (by simp) ?_
     refine h.sq ae.length (by rw [afU];rfl) (by omega) gz rp fun a hc=>?_
     refine ep (k:=.i .u64) (x:=n) (hc 0 (by omega)) rfl ?_
     have YP:IntKind.u64.wrap (n+1)=n+1:=by rw [kH];omega
     rw [YP]
     refine HD h ae.length (y:=(n+1,y)) afU (by omega) gz rp rfl rfl rfl fun w1 h=>?_
     rw [ch] at h
     have es:(R'++ [(n,y)]).set ((out.len:Int) - 1).toNat (n+1,y)=R'++ [(n+1,y)]:=by
      rw [afI _ _ (by omega),show ((out.len:Int) - 1).toNat - R'.length=0 by omega];rfl
     rw [es] at h
     rw [uW] at qe
     refine⟨l.length - (i+1),by omega,i+1,_,by rw [aB (by omega) (by omega)];omega,by omega,by simp;omega,?_,qe,rfl,h⟩
     intro z hz
     rcases afB.1 hz with hz | hz
     ·have:=hR z (by simp [hz]);omega
     ·simp only [afF] at hz;subst hz;dsimp only;omega
    ·refine aF (by simpa using HE) ?_
     refine h.bL (c:= [_,_]) ae.length ((1:Int),x) afU rp Mt q1 q3 q2 rfl rfl (by simp [Value.oneCell']) (by rw [q4];omega) (by omega) fun s2 w1 h _ _=>?_
     rw [ch] at h
     rw [uX _ _ HE] at qe
     refine⟨l.length - (i+1),by omega,i+1,_,by rw [aB (by omega) (by omega)];omega,by omega,by simp;omega,?_,qe,rfl,h⟩
     intro z hz
     rcases afB.1 hz with hz | hz
     ·have:=hR z hz;omega
     ·simp only [afF] at hz;subst hz;dsimp only;omega
 ·refine aF (by simp;omega) ?_
  rw [agq (by omega),List.foldl_nil] at qe
  subst qe
  exact hK out _ h
end
end Go.Proofs.YtcccjgmekakabaaGreat.FP
end

section
namespace Go.Proofs.YtcccjgmekakabaaGreat.FP
open F
open Go Go.Den Go.Proofs
section
variable {S:List Nat} {w0 w:World} {ae:List aa}
theorem nf {n:Int} {K:Int->World->Prop} (h1: -9223372036854775808<=n) (h2:n<=9223372036854775807) (hK:K (eI n) w):DW n w K:=by
 refine CY ?_
 unfold f102
 refine⟨by omega,by omega,?_⟩
 rw [xv h1 h2]
 exact hK
theorem yF (h:Hp S w0 w ae) (i j:Nat) (mJ:i≠j) {u:aa} {b v:Sl} {pre l:List Int} (hi:ae[i]? =some (tB b pre)) (hj:ae[j]? =some u) (hu:Hp.Reads u v 1 iv l) (hr:dX l) (hl:l.length<=1000000000000) (hp:pre.length<=10000000000000) {form:Int} (hf:form=0 \/ form=1 \/ form=2) {K:Sl->World->Prop}
  (hK: ∀s w',Hp S w0 w' (ae.set i (tB s (pre++bd form l)))->K s w'):NR form b v w K:=by
 refine Kp ?_
 unfold f143
 have gi:=h.df j (by rw [hj];rfl) hu
 have ky:=(aft.1 hi).1
 have dI: ∀t:aa,(ae.set i t)[j]? =some u:=fun t=>by rw [afY mJ];exact hj
 have fK: ∀t:aa,(ae.set i t)[i]? =some t:=fun t=>by simp [ky]
 rcases hf with rfl | rfl | rfl
 ·refine aE rfl ?_
  refine⟨fun b2 t m w'=> ∃(k:Nat) (cur:List Int),t=k /\ k<=l.length /\ cur++bI (l.drop k)=pre++bI l /\ cur.length<=pre.length+10*k /\ m=l.length - k /\ Hp S w0 w' (ae.set i (tB b2 cur)),⟨l.length,0,pre,rfl,by omega,rfl,by omega,rfl,by rw [Hp.cK hi];exact h⟩,?_⟩
  rintro b2 t m w2 ⟨k,cur,rfl,hk,hc,qA,rfl,h⟩
  by_cases ar:k < l.length
  ·refine aE (by simp;omega) ?_
   have hd:l.drop k=l[k] :: l.drop (k+1):=agf ar
   have hx:=hr l[k] (afR ar)
   refine h.dd (k:=.i .i64) (u:=u) (y:=l[k]) (x:=l[k]) j (by rw [dI];rfl) hu (by omega) (by simp [ar]) aq rfl ?_
   rw [hd] at hc
   generalize l[k]=x at hc hx
   refine nf hx.1 hx.2 ?_
   have hz:=jm hx.1 hx.2
   refine jJ h i (fK _) hz.1 hz.2 (by omega) fun s w1 h=>?_
   rw [agz] at h
   have:=aT (eI x)
   refine⟨l.length - (k+1),by omega,k+1,_,by rw [aB (by omega) (by omega)];omega,by omega,?_,by simp only [afw];omega,rfl,h⟩
   rw [<-hc]
   simp [bI]
  ·refine aF (by simp;omega) ?_
   rw [agq (by omega)] at hc
   have hc:cur=pre++bI l:=by simpa [bI] using hc
   rw [hc] at h
   exact hK b2 _ h
 ·refine aF (by simp) ?_
  refine aE rfl ?_
  refine⟨fun b2 last t m w'=> ∃(k:Nat) (cur:List Int),t=k /\ k<=l.length /\ cur++iB last (l.drop k)=pre++iB 0 l /\ cur.length<=pre.length+10*k /\ m=l.length - k /\ Hp S w0 w' (ae.set i (tB b2 cur)),⟨l.length,0,pre,rfl,by omega,rfl,by omega,rfl,by rw [Hp.cK hi];exact h⟩,?_⟩
  rintro b2 last t m w2 ⟨k,cur,rfl,hk,hc,qA,rfl,h⟩
  by_cases ar:k < l.length
  ·refine aE (by simp;omega) ?_
   have hd:l.drop k=l[k] :: l.drop (k+1):=agf ar
   refine h.dd (k:=.i .i64) (u:=u) (y:=l[k]) (x:=l[k]) j (by rw [dI];rfl) hu (by omega) (by simp [ar]) aq rfl ?_
   rw [hd,iB] at hc
   generalize l[k]=x at hc
   have HF:=qP (x - last)
   have vJ:=qQ (x - last)
   generalize IntKind.i64.wrap (x - last)=y at hc HF vJ ⊢
   refine nf HF vJ ?_
   have hz:=jm HF vJ
   refine jJ h i (fK _) hz.1 hz.2 (by omega) fun s w1 h=>?_
   rw [agz] at h
   have:=aT (eI y)
   refine⟨l.length - (k+1),by omega,k+1,_,by rw [aB (by omega) (by omega)];omega,by omega,?_,by simp only [afw];omega,rfl,h⟩
   rw [<-hc,afA]
  ·refine aF (by simp;omega) ?_
   rw [agq (by omega),iB,afH] at hc
   rw [hc] at h
   exact hK b2 _ h
 ·refine aF (by simp) ?_
  refine aF (by simp) ?_
  refine Ex h j hj hu hr hl fun all w1 h=>?_
  have gI:=h.len (s:=all) ae.length (by rw [afU];rfl)
  have fv:=jq l
  have YQ:=jK none l
  have ew:IntKind.u64.wrap (all.len:Int)=((bY l).length:Int):=by rw [kH];omega
  rw [ew]
  refine jJ h i (by rw [afx ky];exact hi) (by omega) (by omega) (by omega) fun b6 w1 h=>?_
  rw [agx _ _ ky] at h
  have yG:=aT (bY l).length
  have hKs: ∀s w',Hp S w0 w' (ae.set i (tB s (pre++aV (bY l).length++(bY l).flatMap fG)))->K s w':=fun s w' h=>hK s w' (by
   have e:bd 2 l=yE l:=rfl
   rw [e,yE,<-afA];exact h)
  change ∀y∈bY l,_ at YQ
  generalize bY l=R at gI fv YQ yG h hKs ⊢
  have hR: ∀y∈R,0<=y.1 /\ y.1 < 18446744073709551616 /\ -9223372036854775808<=y.2 /\ y.2<=9223372036854775807:=fun y hy=>by
   obtain⟨a1,a2,a3⟩:=YQ y hy
   have:=hr _ a3
   omega
  refine⟨fun b7 t m w'=> ∃(k:Nat) (cur:List Int),t=k /\ k<=R.length /\ cur++(R.drop k).flatMap fG=pre++aV R.length++R.flatMap fG /\ cur.length<=pre.length+10+20*k /\ m=R.length - k /\ Hp S w0 w' (ae.set i (tB b7 cur)++ [aj all 207 2 rv R]),⟨R.length,0,_,rfl,by omega,rfl,by simp;omega,rfl,h⟩,?_⟩
  rintro b7 t m w2 ⟨k,cur,rfl,hk,hc,qA,rfl,h⟩
  have eQ:(ae.set i (tB b7 cur)).length=ae.length:=by simp
  by_cases ar:k < R.length
  ·refine aE (by simp;omega) ?_
   have hd:R.drop k=R[k] :: R.drop (k+1):=agf ar
   have hy:=hR R[k] (afR ar)
   have gz:R[((k:Int)).toNat]? =some R[k]:=by simp [ar]
   rw [hd] at hc
   generalize R[k]=y at hc hy gz
   refine h.sq ae.length (by rw [afv (by omega),eQ,af9];rfl) (by omega) gz rp fun a ha=>?_
   refine ep (k:=.i .u64) (x:=y.1) (ha 0 (by omega)) rfl ?_
   refine j8 (k:=.i .i64) (x:=y.2) (ha 1 (by omega)) rfl ?_
   have e1: ∀t:aa,(ae.set i (tB b7 cur)++ [aj all 207 2 rv R]++ [t])[ae.length+1]? =some t:=fun t=>by
    rw [afv (by simp),afw,eQ];simp
   have Tz: ∀t t':aa,(ae.set i (tB b7 cur)++ [aj all 207 2 rv R]++ [t]).set (ae.length+1) t'=ae.set i (tB b7 cur)++ [aj all 207 2 rv R]++ [t']:=fun t t'=>by
    rw [afI _ _ (by simp),afw,eQ];simp
   refine h.nw (c:= [_,_]) fun r3 w1 h=>?_
   refine h.iR (ae.length+1) (e1 _) (by simp) rfl fun w1 h=>?_
   rw [Tz] at h
   refine h.st (ae.length+1) (e1 _) (by simp) rfl fun w1 h=>?_
   rw [Tz] at h
   refine h.dr fun w1 h=>?_
   refine h.cx (k:=.i .u64) (x:=y.1) (ae.length+1) (by rw [e1];rfl) rfl ?_
   refine h.ld (x:=y.2) (ae.length+1) (by rw [e1];rfl) rfl ?_
   have YR: ∀t t' KL:aa,(ae.set i t++ [t']++ [KL])[i]? =some t:=fun t t' KL=>by
    rw [afA,afx (by simp;omega)];exact fK t
   have hss: ∀t t' KL q:aa,(ae.set i t++ [t']++ [KL]).set i q=ae.set i q++ [t']++ [KL]:=fun t t' KL q=>by
    rw [afA,agx _ _ (by simp;omega),agz,afA]
   refine jJ h i (YR _ _ _) hy.1 hy.2.1 (by omega) fun r4 w1 h=>?_
   rw [hss] at h
   have e2: ∀q t:aa,(ae.set i q++ [aj all 207 2 rv R]++ [t])[ae.length+1]? =some t:=fun q t=>by
    rw [afv (by simp),afw,agi];simp
   refine⟨h.IZ (ae.length+1) (by rw [e2];rfl) rfl,?_⟩
   refine nf hy.2.2.1 hy.2.2.2 ?_
   have hz:=jm hy.2.2.1 hy.2.2.2
   have:=aT y.1
   refine jJ h i (YR _ _ _) hz.1 hz.2 (by simp only [afw];omega) fun b8 w1 h=>?_
   rw [hss] at h
   have:=aT (eI y.2)
   refine⟨R.length - (k+1),by omega,k+1,_,by rw [aB (by omega) (by omega)];omega,by omega,?_,by simp only [afw];omega,rfl,h.front⟩
   rw [<-hc]
   simp [fG]
  ·refine aF (by simp;omega) ?_
   rw [agq (by omega),aij,afH] at hc
   rw [hc] at h
   exact hKs b7 _ h.front
theorem uY (h:Hp S w0 w ae) (i i' j:Nat) {u:aa} {bh bl:Nat} {head v:Sl} {hd:List Int} {l:List Int} {t1 t2:TypeId} {ih:Nat} {uh:aa} (hi:(ae[i]?).map aa.holds=some (ai bh t1 [.slice head.a head.len head.cap]).holds) (fK:(ae[i']?).map aa.holds=some (ai bl t2 [.slice v.a v.len v.cap]).holds)
  (hih:ae[ih]? =some uh) (huh:Hp.Reads uh head 1 eC hd) (hj:ae[j]? =some u) (hu:Hp.Reads u v 1 iv l) (hr:dX l) (hl:l.length<=1000000000000) (hp:hd.length<=1000000000000) {form:Int} (hf:form=0 \/ form=1 \/ form=2) {K:Sl->World->Prop}
  (hK: ∀s w',Hp S w0 w' (ae++ [tB s (hd++form :: bd form l)])->K s w'):NQ form (some ⟨bh,0,none⟩) (some ⟨bl,0,none⟩) w K:=by
 refine Ko ?_
 unfold f142
 have gN:=(aft.1 hj).1
 have YS:=(aft.1 hih).1
 have TA:i' < ae.length:=by
  refine aih fun hle=>?_
  rw [af0 hle] at fK
  cases fK
 obtain⟨inf,q1,q2,q3,q4⟩:=yD
 refine h.dr fun w1 h=>?_
 refine bg ?_
 refine h.cx (k:=.sl) (x:=head) i hi rfl ?_
 refine bg ?_
 refine h.cx (k:=.sl) (x:=v) i' fK rfl ?_
 have h:=h.opt 5 [.int .u8 form]
 refine h.dH ae.length afU fun y w1 h=>?_
 rw [ch] at h
 refine BM ?_
 unfold f98
 refine lU h ih (by rw [afx YS];exact hih) huh (by omega) fun r w1 h=>?_
 refine⟨h.GJ i' (by rw [afA,afx TA];exact fK) rfl,?_⟩
 have e1: ∀t t':aa,(ae++ [t]++ [t'])[ae.length]? =some t:=fun t t'=>by
  rw [afA,afv (afV _),af9];rfl
 have Tz: ∀t t' q:aa,(ae++ [t]++ [t']).set ae.length q=ae++ [q]++ [t']:=fun t t' q=>by
  rw [afA,afI _ _ (afV _),af9];simp
 have e2: ∀t t':aa,(ae++ [t]++ [t'])[ae.length+1]? =some t':=fun t t'=>by
  rw [afv (by simp)];simp
 have e2': ∀t t' q:aa,(ae++ [t]++ [t']).set (ae.length+1) q=ae++ [t]++ [q]:=fun t t' q=>by
  rw [afI _ _ (by simp)];simp
 have fv:=h.len (s:=r) (ae.length+1) (by rw [e2];rfl)
 refine h.dH ae.length (e1 _ _) fun y2 w1 h=>?_
 rw [Tz] at h
 refine h.X5 ae.length (e1 _ _) fun b3 h=>?_
 rw [Tz] at h
 refine h.app (ae.length+1) ae.length (y:=form) (c:= [.int .u8 form]) (e2 _ _) (by rw [e1];rfl) bx dR q1 q3 q2 rfl rfl (by simp [Value.oneCell']) (by rw [q4];omega) (by omega) fun s w1 h _ _=>?_
 rw [e2'] at h
 refine⟨h.GJ i' (by rw [afA,afx TA];exact fK) rfl,?_⟩
 refine yF h (ae.length+1) j (by omega) (e2 _ _) (by rw [afA,afx gN];exact hj) hu hr hl (by simp;omega) hf fun s2 w1 h=>?_
 rw [e2'] at h
 refine hK s2 w1 ?_
 have e3:hd++ [form]++bd form l=hd++form :: bd form l:=by simp
 rw [e3] at h
 refine h.GB (List.range ae.length++ [ae.length+1]) ?_ (by simp) ?_
 ·rw [ago]
  refine⟨aii,by simp,?_⟩
  intro a ha b hb
  simp only [agC] at ha
  simp only [afF] at hb
  omega
 ·intro n m vY
  by_cases hn:n < ae.length
  ·rw [afx (by simpa using hn),agV hn] at vY
   cases vY
   rw [afA,afx hn,afx hn]
  ·have Jf:n=ae.length:=by
    have:=(aft.1 vY).1
    simp at this
    omega
   subst Jf
   rw [afv (by simp)] at vY
   simp at vY
   subst vY
   rw [e2,afv (afV _),af9];rfl
end
end Go.Proofs.YtcccjgmekakabaaGreat.FP
end

section
namespace Go.Proofs.YtcccjgmekakabaaGreat.FP
open F
open Go Go.Den Go.Proofs
def bk (l:List Int) (k:Nat):List Int:=if k=1 then 0 :: bd 0 l else if k=2 then dT (0 :: bd 0 l) (1 :: bd 1 l) else gO l
theorem Dn (l:List Int) {k:Nat} (h1:1<=k) (h2:k < 3):bk l (k+1)=dT (bk l k) ((k:Int) :: bd k l):=by
 have:k=1 \/ k=2:=by omega
 rcases this with rfl | rfl <;> rfl
section
variable {S:List Nat} {w0 w:World} {ae:List aa}
theorem Dp {α:Type} {f:α->List Value} {n:Nat} {e:TypeId} (h:Hp S w0 w ae) (i:Nat) {s:Sl} {l:List α} (hi:(ae[i]?).map aa.holds=some (aj s e n f l).holds) (hl:l≠ []):s.a≠none:=by
 obtain⟨O,hO⟩:=h.dQ hi
 intro hn
 rcases hO.2 with ⟨_,h0,_⟩ | ⟨b,off,c,h1,_⟩
 ·exact hl (af7 (by rw [hO.1,h0]))
 ·rw [hn] at h1;cases h1
theorem Ao (h:Hp S w0 w ae) (j:Nat) {u:aa} {v:Sl} {l:List Int} (hj:ae[j]? =some u) (hu:Hp.Reads u v 1 iv l) (hr:dX l) (hl:l.length<=1000000000000) {K:Sl->World->Prop}
  (hK: ∀s w',Hp S w0 w' (ae++ [tB s (bS l)])->K s w'):Vn v w K:=by
 refine PK ?_
 unfold f99
 have gi:=h.df j (by rw [hj];rfl) hu
 have h1:=h.IY (j:=j) (u:=u) (by rw [hj];rfl)
 have pn:Hp.Reads u.ro v 1 iv l:=⟨hu.rd⟩
 refine h1.nw (c:= [_]) fun l2 w1 h1=>?_
 refine h1.cx (k:=.sl) (x:=v) 1 rfl rfl ?_
 have h1:=h1.nil 5 1 eC
 have ew:IntKind.u64.wrap (v.len:Int)=(l.length:Int):=by rw [kH];omega
 rw [ew]
 refine jJ h1 2 rfl (by omega) (by omega) (by simp) fun head w1 h1=>?_
 rw [aga] at h1
 have hhl:=aT l.length
 refine h1.nw (c:= [_]) fun pQ w1 h1=>?_
 refine h1.iR 3 rfl (by simp) rfl fun w1 h1=>?_
 simp only [af3,aga,afN,afZ] at h1
 refine h1.cx (k:=.sl) (x:=v) 1 rfl rfl ?_
 by_cases hz:l= []
 ·refine aE (by rw [hz] at gi;simp at gi ⊢;omega) ?_
  refine h1.cx (k:=.sl) (x:=head) 3 rfl rfl ?_
  have e:bS l=aV l.length:=by unfold bS;rw [if_pos hz,afH]
  have:=hK head w1
  rw [e] at this
  exact this (h.r0 rfl (h1.oV 2 rfl))
 have hlp:1<=l.length:=by cases l with | nil=>exact absurd rfl hz | cons _ _=>simp
 refine aF (by simp;omega) ?_
 have ei:bS l=aV l.length++gO l:=by unfold bS;rw [if_neg hz]
 rw [ei] at hK
 generalize aV l.length=hd at hhl h1 hK
 refine⟨fun jz t m w'=> ∃k:Nat,t=k /\ k<=3 /\ m=3 - k /\ ((k=0 /\ jz=⟨none,0,0⟩ /\ Hp [] w w' [u.ro,ai l2 34 [.slice v.a v.len v.cap],tB head hd,ai pQ 23 [.slice head.a head.len head.cap]]) \/
   (1<=k /\ jz.a≠none /\ Hp [] w w' [u.ro,ai l2 34 [.slice v.a v.len v.cap],tB head hd,ai pQ 23 [.slice head.a head.len head.cap],tB jz (hd++bk l k)])),⟨3,0,rfl,by omega,rfl,.inl ⟨rfl,rfl,h1⟩⟩,?_⟩
 rintro jz t m w2 ⟨k,rfl,hk,rfl,hh⟩
 have TB: ∀{w':World} {K':Sl->World->Prop},NQ (k:Int) (some ⟨pQ,0,none⟩) (some ⟨l2,0,none⟩) w' K'->FA Tryz.prog (.func (.func 142) #[] #[.pointer (some ⟨pQ,0,none⟩),.pointer (some ⟨l2,0,none⟩)]) [.int .u8 (k:Int)] [.one .sl] w' K':=
  fun hc=>⟨142,#[],#[.pointer (some ⟨pQ,0,none⟩),.pointer (some ⟨l2,0,none⟩)],rfl,⟨_,Tryz.func142,by kernel_rfl⟩,hc⟩
 have YP:k < 3->IntKind.u8.wrap ((k:Int)+1)=((k+1:Nat):Int):=fun h=>by rw [w8];omega
 by_cases ar:k < 3
 ·refine aE (by simp;omega) ?_
  rw [YP ar]
  refine TB ?_
  rcases hh with ⟨rfl,rfl,h1⟩ | ⟨YT,aR,h1⟩
  ·refine uY h1 3 1 0 rfl rfl (ih:=2) rfl Hp.bX rfl pn hr hl (by omega) (by omega) fun r w3 h1=>?_
   refine aE rfl ?_
   have aR:=Dp h1 4 rfl (by simp)
   exact⟨2,by omega,1,rfl,by omega,rfl,.inr ⟨by omega,aR,h1⟩⟩
  ·refine uY h1 3 1 0 rfl rfl (ih:=2) rfl Hp.bX rfl pn hr hl (by omega) (by omega) fun r w3 h1=>?_
   have qB:=h1.len (s:=jz) 4 rfl
   have fv:=h1.len (s:=r) 5 rfl
   simp only [afw] at qB fv
   have hs:=Dn l YT ar
   have hbn:jz.a.isNone=false:=by cases hb:jz.a with | none=>exact absurd hb aR | some _=>rfl
   rw [hbn]
   by_cases Qs:((k:Int) :: bd k l).length < (bk l k).length
   ·refine aE (by simp only [cond_false,decide_eq_true_eq];omega) ?_
    have e:bk l (k+1)=(k:Int) :: bd k l:=by rw [hs];unfold dT;rw [if_pos Qs]
    have YU:=Dp h1 5 rfl (by simp)
    refine⟨3 - (k+1),by omega,k+1,rfl,by omega,rfl,.inr ⟨by omega,YU,?_⟩⟩
    rw [e]
    exact h1.BR 0 1 2 3 5 (by decide) rfl rfl rfl rfl rfl
   ·refine aF (by simp only [cond_false,decide_eq_true_eq];omega) ?_
    have e:bk l (k+1)=bk l k:=by rw [hs];unfold dT;rw [if_neg Qs]
    refine⟨3 - (k+1),by omega,k+1,rfl,by omega,rfl,.inr ⟨by omega,aR,?_⟩⟩
    rw [e]
    exact h1.trim 5
 ·refine aF (by simp;omega) ?_
  obtain rfl:k=3:=by omega
  rcases hh with ⟨h,_⟩ | ⟨_,_,h1⟩
  ·omega
  ·exact hK jz _ (h.r0 rfl (h1.oV 4 rfl))
theorem fH (l:List Int):(bS l).length<=21+10*l.length:=by
 have:=aT l.length
 have:=rm l
 unfold bS
 rw [afw]
 split
 ·simp;omega
 ·omega
theorem sF (h:Hp S w0 w ae) (j j':Nat) {u u':aa} {b v:Sl} {bs l:List Int} (hj:ae[j]? =some u) (hu:Hp.Reads u b 1 eC bs) (dI:ae[j']? =some u') (pn:Hp.Reads u' v 1 iv l) (hr:dX l) (hl:l.length<=1000000000000) (hb:bs.length<=10000000000000) {K:Sl->World->Prop}
  (hK: ∀s w',Hp S w0 w' (ae++ [tB s (bs++bS l)])->K s w'):U5 b v w K:=by
 refine Oz ?_
 unfold f37
 have gN:=(aft.1 dI).1
 refine BM ?_
 unfold f98
 refine lU h j hj hu (by omega) fun r w1 h=>?_
 refine Ao h j' (by rw [afx gN];exact dI) pn hr hl fun r2 w1 h=>?_
 have fv:=h.len (s:=r) ae.length (by rw [afA,afv (afV _),af9];rfl)
 have yX:=h.len (s:=r2) (ae.length+1) (by rw [afv (by simp)];simp;rfl)
 have hrw:=fH l
 obtain⟨inf,q1,q2,q3,q4⟩:=yD
 refine h.gY ae.length (ae.length+1) (s:=r) (by rw [afA,afv (afV _),af9];rfl) (by rw [afv (by simp)];simp;rfl) Hp.bX bx dR q1 q3 q2 rfl (by simp [Value.oneCell']) (by rw [q4];omega) (by omega) fun s w1 h _ _=>?_
 have e:(ae++ [tB r bs]++ [tB r2 (bS l)]).set ae.length (tB s (bs++bS l))=ae++ [tB s (bs++bS l)]++ [tB r2 (bS l)]:=by
  rw [afA,afI _ _ (afV _),af9];simp
 rw [e] at h
 exact hK s w1 h.front
end
end Go.Proofs.YtcccjgmekakabaaGreat.FP
end

section
namespace Go.Proofs.YtcccjgmekakabaaGreat.FP
open F
open Go Go.Den Go.Proofs
def oz (l:List Int) (i:Nat):Option Int:=if i=0 then none else l[i - 1]?
theorem nW (p:Option Int) (x:Int) (r:List Int):runT p (x :: r)=if p=some x then runT (some x) r else (((kB x r+1:Nat):Int),x) :: runT (some x) r:=by rw [runT]
section
variable {S:List Nat} {w0 w:World} {ae:List aa}
set_option maxHeartbeats 2000000 in
theorem Cf (h:Hp S w0 w ae) (j:Nat) {u:aa} {v:Sl} {l:List Int} (hj:(ae[j]?).map aa.holds=some u.holds) (hu:Hp.Reads u v 1 iv l) (hr:dX l) (hl:l.length<=1000000000000) {K:Sl->Sl->Sl->World->Prop}
  (hK: ∀p s r w',Hp S w0 w' (ae++ [tB p (0 :: bd 0 l),tB s (1 :: bd 1 l),tB r (2 :: bd 2 l)])->K p s r w'):N1 v w K:=by
 refine KH ?_
 unfold f164
 have gi:=h.df j hj hu
 have h1:=h.IY hj
 have pn:Hp.Reads u.ro v 1 iv l:=⟨hu.rd⟩
 obtain⟨inf,q1,q2,q3,q4⟩:=yD
 refine h1.nw (c:= [_,_,_]) fun a w1 h1=>?_
 refine h1.nw (c:= [_]) fun b w1 h1=>?_
 refine h1.nw (c:= [_]) fun b2 w1 h1=>?_
 refine h1.nw (c:= [_]) fun b3 w1 h1=>?_
 have h1:=h1.sr (i:=2) (m:=1) (l:= [(0:Int)]) (f:=eC) (n:=1) rfl rfl rfl bx
 have h1:=h1.sr (i:=3) (m:=1) (l:= [(1:Int)]) (f:=eC) (n:=1) rfl rfl rfl bx
 have h1:=h1.sr (i:=4) (m:=1) (l:= [(2:Int)]) (f:=eC) (n:=1) rfl rfl rfl bx
 have h1:=h1.nil 5 1 eC
 simp only [af3,aga,afN,afZ] at h1
 refine⟨fun plain steps each many last t m w'=> ∃(i:Nat) (P Q E:List Int),t=i /\ i<=l.length /\ m=l.length - i /\ P++bI (l.drop i)=0 :: bI l /\ P.length<=1+10*i /\
   Q++iB last (l.drop i)=1 :: iB 0 l /\ Q.length<=1+10*i /\ E++(runT (oz l i) (l.drop i)).flatMap fG=(bY l).flatMap fG /\ E.length<=20*i /\ 0<=many /\ many+((runT (oz l i) (l.drop i)).length:Int)=((bY l).length:Int) /\
   Hp [] w w' [u.ro,ai a 209 [.slice none 0 0,.slice none 0 0,.slice none 0 0],tB plain P,tB steps Q,tB ⟨some ⟨b3,0,none⟩,1,1⟩ [2],tB each E],
  ⟨l.length,0,[0],[1],[],rfl,by omega,rfl,rfl,by simp,rfl,by simp,rfl,by simp,by omega,by simp [bY,oz],h1⟩,?_⟩
 rintro plain steps each many last t m w2 ⟨i,P,Q,E,rfl,hi,rfl,hP,hPl,hQ,hQl,hE,hEl,Qt,oA,h1⟩
 by_cases ar:i < l.length
 ·refine aE (by simp;omega) ?_
  have hd:l.drop i=l[i] :: l.drop (i+1):=agf ar
  have gz:l[((i:Int)).toNat]? =some l[i]:=by simp [ar]
  have hx:=hr l[i] (afR ar)
  have Ey:oz l (i+1)=some l[i]:=by unfold oz;rw [if_neg (by omega)];simp [ar]
  have TC:i≠0->oz l i=some (l.getD (i - 1) 0) /\ l[i - 1]? =some (l.getD (i - 1) 0):=fun h0=>by
   have A3:i - 1 < l.length:=by omega
   unfold oz
   rw [if_neg h0]
   simp [A3]
  rw [hd] at hP hQ hE oA
  rw [iB] at hQ
  rw [nW] at hE oA
  generalize Fj:l[i]=x at hd gz hx Ey hP hQ hE oA
  refine h1.dd (k:=.i .i64) (u:=u.ro) (y:=x) (x:=x) 0 rfl pn (by omega) gz aq rfl ?_
  refine jd h1 2 rfl Hp.bX hx.1 hx.2 (by omega) fun qW w3 h1=>?_
  refine h1.dd (k:=.i .i64) (u:=u.ro) (y:=x) (x:=x) 0 rfl pn (by omega) gz aq rfl ?_
  refine jd h1 3 rfl Hp.bX (qP _) (qQ _) (by omega) fun qX w3 h1=>?_
  refine h1.dd (k:=.i .i64) (u:=u.ro) (y:=x) (x:=x) 0 rfl pn (by omega) gz aq rfl ?_
  simp only [af3,aga] at h1
  have h1:=h1.KJ 0 1 6 7 4 5 (by decide) rfl rfl rfl rfl rfl rfl
  have VD:=aT (eI x)
  have acR:=aT (eI (IntKind.i64.wrap (x - last)))
  have hP':(P++aV (eI x))++bI (l.drop (i+1))=0 :: bI l:=by rw [<-hP];simp [bI]
  have hQ':(Q++aV (eI (IntKind.i64.wrap (x - last))))++iB x (l.drop (i+1))=1 :: iB 0 l:=by rw [<-hQ];simp
  have ewi:IntKind.i64.wrap ((i:Int)+1)=((i+1:Nat):Int):=by rw [aB (by omega) (by omega)];omega
  refine⟨fun t51 w'=>t51= !(decide (oz l i=some x)) /\ Hp [] w w' [u.ro,ai a 209 [.slice none 0 0,.slice none 0 0,.slice none 0 0],tB qW (P++aV (eI x)),tB qX (Q++aV (eI (IntKind.i64.wrap (x - last)))),tB ⟨some ⟨b3,0,none⟩,1,1⟩ [2],tB each E],?_,?_⟩
  ·refine h1.dr fun w4 h1=>?_
   by_cases DN:i=0
   ·subst DN
    refine aE (by simp) ⟨?_,h1⟩
    simp [oz]
   ·refine aF (by simp;omega) ?_
    obtain⟨e1,e2⟩:=TC DN
    have ew:IntKind.i64.wrap ((i:Int) - 1)=((i - 1:Nat):Int):=by rw [aB (by omega) (by omega)];omega
    rw [ew]
    refine h1.dd (k:=.i .i64) (u:=u.ro) (y:=l.getD (i - 1) 0) (x:=l.getD (i - 1) 0) 0 rfl pn (by omega) (by rw [afu];exact e2) aq rfl ?_
    refine h1.dd (k:=.i .i64) (u:=u.ro) (y:=x) (x:=x) 0 rfl pn (by omega) gz aq rfl ?_
    refine⟨?_,h1⟩
    rw [e1]
    by_cases hy:l.getD (i - 1) 0=x
    ·rw [hy];simp
    ·have: ¬(some (l.getD (i - 1) 0)=some x):=fun h=>hy (by injection h)
     rw [decide_eq_false this]
     simpa using hy
  ·rintro t51 w4 ⟨rfl,h1⟩
   by_cases hp:oz l i=some x
   ·rw [if_pos hp] at hE oA
    refine aF (by simp [hp]) ?_
    refine⟨l.length - (i+1),by omega,i+1,_,_,E,ewi,by omega,rfl,hP',by simp only [afw];omega,hQ',by simp only [afw];omega,?_,by omega,Qt,?_,h1⟩
    ·rw [Ey];exact hE
    ·rw [Ey];exact oA
   ·rw [if_neg hp] at hE oA
    refine aE (by simp [hp]) ?_
    have qA:=Ce x (l.drop (i+1))
    rw [af4] at qA
    refine⟨fun n w'=>n=((kB x (l.drop (i+1))+1:Nat):Int) /\ Hp [] w w' [u.ro,ai a 209 [.slice none 0 0,.slice none 0 0,.slice none 0 0],tB qW (P++aV (eI x)),tB qX (Q++aV (eI (IntKind.i64.wrap (x - last)))),tB ⟨some ⟨b3,0,none⟩,1,1⟩ [2],tB each E],?_,?_⟩
    ·refine⟨fun n m w'=> ∃q:Nat,n=q /\ 1<=q /\ i+q<=l.length /\ kB x (l.drop (i+1))+1=q+kB x (l.drop (i+q)) /\ m=l.length - (i+q) /\ Hp [] w w' [u.ro,ai a 209 [.slice none 0 0,.slice none 0 0,.slice none 0 0],tB qW (P++aV (eI x)),tB qX (Q++aV (eI (IntKind.i64.wrap (x - last)))),tB ⟨some ⟨b3,0,none⟩,1,1⟩ [2],tB each E],⟨l.length - (i+1),1,rfl,by omega,by omega,by omega,rfl,h1⟩,?_⟩
     rintro n m w5 ⟨q,rfl,q1,q2,hq,rfl,h1⟩
     refine h1.dr fun w6 h1=>?_
     have ewq:IntKind.i64.wrap ((i:Int)+(q:Int))=((i+q:Nat):Int):=by rw [aB (by omega) (by omega)];omega
     rw [ewq]
     by_cases hlq:i+q < l.length
     ·refine aE (by simp;omega) ?_
      have YV:l.drop (i+q)=l[i+q] :: l.drop (i+q+1):=agf hlq
      refine h1.dd (k:=.i .i64) (u:=u.ro) (y:=l[i+q]) (x:=l[i+q]) 0 rfl pn (by omega) (by rw [afu];simp [hlq]) aq rfl ?_
      refine h1.dd (k:=.i .i64) (u:=u.ro) (y:=x) (x:=x) 0 rfl pn (by omega) gz aq rfl ?_
      rw [YV,kB] at hq
      by_cases hy:l[i+q]=x
      ·refine aE (by simpa using hy) ?_
       rw [if_pos hy] at hq
       exact⟨l.length - (i+(q+1)),by omega,q+1,by rw [aB (by omega) (by omega)];omega,by omega,by omega,by rw [show i+(q+1)=i+q+1 by omega];omega,rfl,h1⟩
      ·refine aF (by simpa using hy) ⟨?_,h1⟩
       rw [if_neg hy] at hq
       omega
     ·refine aF (by simp;omega) ⟨?_,h1⟩
      have e0:kB x (l.drop (i+q))=0:=by rw [agq (by omega),kB]
      omega
    ·rintro n w5 ⟨rfl,h1⟩
     have Qu:IntKind.u64.wrap ((kB x (l.drop (i+1))+1:Nat):Int)=((kB x (l.drop (i+1))+1:Nat):Int):=by rw [kH];omega
     rw [Qu]
     generalize hcn:kB x (l.drop (i+1))+1=n at*
     refine k5 h1 5 rfl Hp.bX (by omega) (by omega) (by omega) fun L7 w6 h1=>?_
     have kF:=aT (n:Int)
     refine h1.dd (k:=.i .i64) (u:=u.ro) (y:=x) (x:=x) 0 rfl pn (by omega) gz aq rfl ?_
     refine jd h1 6 rfl Hp.bX hx.1 hx.2 (by simp only [afw];omega) fun L8 w6 h1=>?_
     simp only [af3,aga] at h1
     have h1:=h1.KJ 0 1 2 3 4 7 (by decide) rfl rfl rfl rfl rfl rfl
     simp only [af6] at oA
     have fv:=jq l
     refine⟨l.length - (i+1),by omega,i+1,_,_,_,ewi,by omega,rfl,hP',by simp only [afw];omega,hQ',by simp only [afw];omega,?_,by simp only [afw];omega,by rw [aB (by omega) (by omega)];omega,?_,h1⟩
     ·rw [Ey,<-hE]
      simp [fG]
     ·rw [Ey,aB (by omega) (by omega)];omega
 ·refine aF (by simp;omega) ?_
  obtain rfl:i=l.length:=by omega
  rw [ahN] at hP hQ hE oA
  have hP:P=0 :: bd 0 l:=by
   have e0:bd 0 l=bI l:=rfl
   rw [e0]
   simpa [bI] using hP
  have hQ:Q=1 :: bd 1 l:=by
   rw [iB,afH] at hQ
   exact hQ
  have hE:E=(bY l).flatMap fG:=by simpa [runT] using hE
  have oA:many=((bY l).length:Int):=by simpa [runT] using oA
  have fv:=jq l
  have YO:=Ew (bY l)
  have YW:IntKind.u64.wrap many=((bY l).length:Int):=by rw [kH];omega
  rw [YW]
  refine k5 h1 4 rfl Hp.bX (by omega) (by omega) (by simp) fun r w3 h1=>?_
  have yG:=aT (bY l).length
  have Cg:=h1.len (s:=r) 6 rfl
  have Fc:=h1.len (s:=each) 5 rfl
  simp only [afw,af6,agU] at Cg
  refine h1.gY 6 5 (s:=r) rfl rfl Hp.bX bx dR q1 q3 q2 rfl (by simp [Value.oneCell']) (by rw [q4];omega) (by omega) fun runs w3 h1 _ _=>?_
  simp only [af3,aga,afN,afZ] at h1
  refine h1.iR 1 rfl (by simp) rfl fun w3 h1=>?_
  refine h1.st 1 rfl (by simp) rfl fun w3 h1=>?_
  refine h1.st 1 rfl (by simp) rfl fun w3 h1=>?_
  simp only [af3,aga,afN,afZ] at h1
  refine h1.cx (k:=.sl) (x:=plain) 1 rfl rfl ?_
  refine h1.ld (k:=.sl) (x:=steps) 1 rfl rfl ?_
  refine h1.ld (k:=.sl) (x:=runs) 1 rfl rfl ?_
  have e:2 :: (aV ((bY l).length:Int)++E)=2 :: bd 2 l:=by rw [hE];rfl
  rw [hP,hQ,e] at h1
  exact hK plain steps runs w3 (h.r0 (rest:= [_,_,_]) rfl (h1.KI 2 3 6 (by decide) rfl rfl rfl))
theorem oB (h:Hp S w0 w ae) (j:Nat) {u:aa} {v:Sl} {l:List Int} (hj:(ae[j]?).map aa.holds=some u.holds) (hu:Hp.Reads u v 1 iv l) (hr:dX l) (hl:l.length<=1000000000000) {K:Sl->World->Prop}
  (hK: ∀s w',Hp S w0 w' (ae++ [tB s (gO l)])->K s w'):JF v w K:=by
 refine KC ?_
 unfold f157
 have h1:=h.IY hj
 refine Cf h1 0 (u:=u.ro) rfl ⟨hu.rd⟩ hr hl fun p s r w1 h1=>?_
 refine h1.nw (c:= [_,_,_]) fun f w1 h1=>?_
 refine h1.iR 4 rfl (by simp) rfl fun w1 h1=>?_
 refine h1.st 4 rfl (by simp) rfl fun w1 h1=>?_
 refine h1.st 4 rfl (by simp) rfl fun w1 h1=>?_
 simp only [af3,aga,afN,afZ] at h1
 refine h1.Vr (by omega) (by omega) ?_
 refine h1.GK (k:=.sl) (x:=p) 4 rfl rfl ?_
 generalize Qv: [u.ro,tB p (0 :: bd 0 l),tB s (1 :: bd 1 l),tB r (2 :: bd 2 l),ai f 209 [.slice p.a p.len p.cap,.slice s.a s.len s.cap,.slice r.a r.len r.cap]]=It at h1
 refine⟨fun jz t m w'=> ∃k q:Nat,t=k /\ 1<=k /\ k<=3 /\ m=3 - k /\ It[q]? =some (tB jz (bk l k)) /\ Hp [] w w' It,⟨2,1,1,rfl,by omega,by omega,rfl,by rw [<-Qv];rfl,h1⟩,?_⟩
 rintro jz t m w2 ⟨k,q,rfl,k1,k3,rfl,hq,h1⟩
 have fin: ∀{x:Sl},It[k+1]? =some (tB x ((k:Int) :: bd k l))->k < 3-> ∀{K2:World->Prop} {K3:World->Prop},
   (∀q':Nat,It[q']? =some (tB x (bk l (k+1)))->K2 w2)->((∀q':Nat,It[q']? =some (tB jz (bk l (k+1)))->K3 w2))->if (decide ((x.len:Int) < (jz.len:Int)))=true then K2 w2 else K3 w2:=by
  intro x hx hk K2 K3 h2 h3
  have l1:=h1.len (s:=jz) q (by rw [hq];rfl)
  have l2:=h1.len (s:=x) (k+1) (by rw [hx];rfl)
  have hs:=Dn l k1 hk
  by_cases Qs:((k:Int) :: bd k l).length < (bk l k).length
  ·refine aE (by simp only [decide_eq_true_eq];omega) (h2 (k+1) ?_)
   have e:bk l (k+1)=(k:Int) :: bd k l:=by rw [hs];unfold dT;rw [if_pos Qs]
   rw [e];exact hx
  ·refine aF (by simp only [decide_eq_true_eq];omega) (h3 q ?_)
   have e:bk l (k+1)=bk l k:=by rw [hs];unfold dT;rw [if_neg Qs]
   rw [e];exact hq
 by_cases ar:k < 3
 ·refine aE (by simp;omega) ?_
  refine h1.Vr (by omega) (by omega) ?_
  have TD:IntKind.i64.wrap ((k:Int)+1)=((k+1:Nat):Int):=by rw [aB (by omega) (by omega)];omega
  rw [TD]
  have hk:k=1 \/ k=2:=by omega
  rcases hk with rfl | rfl
  ·refine h1.GK (k:=.sl) (x:=s) 4 (by rw [<-Qv];rfl) rfl ?_
   refine fin (x:=s) (by rw [<-Qv];rfl) ar (K2:=fun w=>_) (K3:=fun w=>_) ?_ ?_
   ·intro q' FY
    refine h1.Vr (by omega) (by omega) ?_
    refine h1.GK (k:=.sl) (x:=s) 4 (by rw [<-Qv];rfl) rfl ?_
    exact⟨1,by omega,2,q',rfl,by omega,by omega,rfl,FY,h1⟩
   ·intro q' FY
    exact⟨1,by omega,2,q',rfl,by omega,by omega,rfl,FY,h1⟩
  ·refine h1.GK (k:=.sl) (x:=r) 4 (by rw [<-Qv];rfl) rfl ?_
   refine fin (x:=r) (by rw [<-Qv];rfl) ar (K2:=fun w=>_) (K3:=fun w=>_) ?_ ?_
   ·intro q' FY
    refine h1.Vr (by omega) (by omega) ?_
    refine h1.GK (k:=.sl) (x:=r) 4 (by rw [<-Qv];rfl) rfl ?_
    exact⟨0,by omega,3,q',rfl,by omega,by omega,rfl,FY,h1⟩
   ·intro q' FY
    exact⟨0,by omega,3,q',rfl,by omega,by omega,rfl,FY,h1⟩
 ·refine aF (by simp;omega) ?_
  obtain rfl:k=3:=by omega
  exact hK jz _ (h.r0 rfl (h1.oV q hq))
theorem qf (h:Hp S w0 w ae) (j j':Nat) {u u':aa} {b v:Sl} {bs l:List Int} (hj:ae[j]? =some u) (hu:Hp.Reads u b 1 eC bs) (dI:ae[j']? =some u') (pn:Hp.Reads u' v 1 iv l) (hr:dX l) (hl:l.length<=1000000000000) (hb:bs.length<=10000000000000) {K:Sl->World->Prop}
  (hK: ∀s w',Hp S w0 w' (ae++ [tB s (bs++bS l)])->K s w'):JC b v w K:=by
 refine Kr ?_
 unfold f145
 have gi:=h.df j' (by rw [dI];rfl) pn
 have gN:=(aft.1 dI).1
 have ew:IntKind.u64.wrap (v.len:Int)=(l.length:Int):=by rw [kH];omega
 rw [ew]
 refine k5 h j hj hu (by omega) (by omega) (by omega) fun out w1 h=>?_
 have yG:=aT l.length
 by_cases hz:l= []
 ·refine aE (by rw [hz] at gi;simp at gi ⊢;omega) ?_
  have e:bS l=aV l.length:=by unfold bS;rw [if_pos hz,afH]
  have:=hK out w1
  rw [e] at this
  exact this h
 have hlp:1<=l.length:=by cases l with | nil=>exact absurd rfl hz | cons _ _=>simp
 refine aF (by simp;omega) ?_
 have ei:bS l=aV l.length++gO l:=by unfold bS;rw [if_neg hz]
 rw [ei,<-afA] at hK
 refine oB h j' (by rw [afx gN,dI];rfl) pn hr hl fun r w1 h=>?_
 have qB:=rm l
 have kA:=h.len (s:=out) ae.length (by rw [afA,afv (afV _),af9];rfl)
 have fv:=h.len (s:=r) (ae.length+1) (by rw [afv (by simp)];simp;rfl)
 simp only [afw] at kA
 obtain⟨inf,q1,q2,q3,q4⟩:=yD
 refine h.gY ae.length (ae.length+1) (s:=out) (by rw [afA,afv (afV _),af9];rfl) (by rw [afv (by simp)];simp;rfl) Hp.bX bx dR q1 q3 q2 rfl (by simp [Value.oneCell']) (by rw [q4];omega) (by omega) fun s w1 h _ _=>?_
 have e: ∀t t' q:aa,(ae++ [t]++ [t']).set ae.length q=ae++ [q]++ [t']:=fun t t' q=>by
  rw [afA,afI _ _ (afV _),af9];simp
 rw [e] at h
 exact hK s w1 h.front
end
end Go.Proofs.YtcccjgmekakabaaGreat.FP
end

section
namespace Go.Proofs.YtcccjgmekakabaaGreat.FP
open F
open Go Go.Den Go.Proofs
theorem Ap: ∀(f i:Nat) (n acc:Int) (r:List Int),i+f=9->0<=n->n < 128 ^ (f+1)->(i=0->n < 18446744073709551616)->(0 < i->0 < n)->(n*2 ^ (7*i) < 18446744073709551616)->
  jc (eR (f+1) n++r) i acc=(acc+n*2 ^ (7*i),(i:Int)+(eR (f+1) n).length)
 | f,i,n,acc,r,Mu,h0,h1,h2,kx,h3=>by
  have u1:eR (f+1) n=if n < 128 then [n] else (n % 128+128) :: eR f (n / 128):=by rw [eR]
  rw [u1]
  by_cases ar:n < 128
  ·rw [if_pos ar]
   simp only [af3,aga]
   rw [jo,if_neg,if_neg (by omega),if_neg]
   ·have e:n % 128=n:=by omega
    rw [e];simp
   ·rintro⟨rfl,hi⟩;exact absurd (kx hi) (by omega)
   ·rintro⟨rfl,hc⟩
    simp only [Nat.reduceMul,Int.reducePow] at h3
    omega
  ·rw [if_neg ar]
   simp only [af3]
   have Rz:i≠9:=by
    rintro rfl
    simp only [Nat.reduceMul,Int.reducePow] at h3
    omega
   rw [jo,if_neg (by omega),if_pos (by omega)]
   match f,Mu with
   | 0,Mu=>omega
   | f+1,Mu=>
    have hp:(2:Int) ^ (7*(i+1))=128*2 ^ (7*i):=by
     rw [show 7*(i+1)=7+7*i by omega,Int.pow_add];rfl
    have hpp:(0:Int) < 2 ^ (7*i):=Int.pow_pos (by omega)
    have hn:n / 128 < 128 ^ (f+1):=by
     rw [Int.pow_succ] at h1
     generalize (128:Int) ^ (f+1)=p at h1 ⊢
     omega
    have hdm:n=128*(n / 128)+n % 128:=by omega
    have hle:n / 128*(128*2 ^ (7*i))<=n*2 ^ (7*i):=by
     rw [<-Int.mul_assoc]
     exact Int.mul_le_mul_of_nonneg_right (by omega) (by omega)
    have ih:=Ap f (i+1) (n / 128) (acc+(n % 128+128) % 128*2 ^ (7*i)) r (by omega) (by omega) hn (by omega) (by omega) (by rw [hp];omega)
    rw [ih]
    have e1:(n % 128+128) % 128=n % 128:=by omega
    rw [e1,hp]
    refine ahg ?_ ?_
    ·show acc+n % 128*2 ^ (7*i)+n / 128*(128*2 ^ (7*i))=acc+n*2 ^ (7*i)
     have:n*2 ^ (7*i)=n / 128*(128*2 ^ (7*i))+n % 128*2 ^ (7*i):=by
      rw [<-Int.mul_assoc,<-Int.add_mul]
      congr 1;omega
     omega
    ·show ((i+1:Nat):Int)+_=_
     simp only [af6];omega
theorem iC {n:Int} (h0:0<=n) (h1:n < 18446744073709551616) (r:List Int):ax (aV n++r)=(n,((aV n).length:Int)):=by
 unfold ax aV
 have:=Ap 9 0 n 0 r rfl h0 (by simp only [Int.reducePow,Nat.reduceAdd];omega) (fun _=>h1) (by omega) (by simpa using h1)
 rw [this]
 simp
theorem xy: ∀(f i:Nat) (l:List Int) (acc:Int),i+f=9->Bytes l->(jc l i acc).2≠0-> ∃n:Int,0<=n /\ n < 128 ^ (f+1) /\ (0 < i->0 < n) /\ (jc l i acc).1=acc+n*2 ^ (7*i) /\ ∃r,l=eR (f+1) n++r /\ (jc l i acc).2=i+(eR (f+1) n).length
 | f,i,[],acc,Mu,hb,hk=>by rw [jc] at hk;exact absurd rfl hk
 | f,i,c :: r,acc,Mu,hb,hk=>by
  have hc:=hb c (by simp)
  rw [jo] at hk ⊢
  by_cases h9:i=9 /\ 1 < c
  ·rw [if_pos h9] at hk;exact absurd rfl hk
  rw [if_neg h9] at hk ⊢
  by_cases iL:128<=c
  ·rw [if_pos iL] at hk ⊢
   match f,Mu with
   | 0,Mu=>exact absurd ⟨by omega,by omega⟩ h9
   | f+1,Mu=>
    obtain⟨n,n0,n1,n2,n3,r',n4,n5⟩:=xy f (i+1) r (acc+c % 128*2 ^ (7*i)) (by omega) (fun x hx=>hb x (by simp [hx])) hk
    have kx:=n2 (by omega)
    have hp:(2:Int) ^ (7*(i+1))=128*2 ^ (7*i):=by
     rw [show 7*(i+1)=7+7*i by omega,Int.pow_add];rfl
    have u1:eR (f+1+1) (128*n+c % 128)=(c % 128+128) :: eR (f+1) n:=by
     have:eR (f+1+1) (128*n+c % 128)=if 128*n+c % 128 < 128 then [128*n+c % 128] else ((128*n+c % 128) % 128+128) :: eR (f+1) ((128*n+c % 128) / 128):=by rw [eR]
     rw [this,if_neg (by omega)]
     have e1:(128*n+c % 128) % 128=c % 128:=by omega
     have e2:(128*n+c % 128) / 128=n:=by omega
     rw [e1,e2]
    refine⟨128*n+c % 128,by omega,?_,by omega,?_,r',?_,?_⟩
    ·rw [Int.pow_succ]
     generalize (128:Int) ^ (f+1)=p at n1 ⊢
     omega
    ·rw [n3,hp,Int.add_mul,Int.mul_comm 128 n,Int.mul_assoc]
     omega
    ·rw [u1,n4]
     have:c % 128+128=c:=by omega
     rw [this];rfl
    ·rw [n5,u1]
     simp only [af6];omega
  ·rw [if_neg iL] at hk ⊢
   by_cases hz:c=0 /\ 0 < i
   ·rw [if_pos hz] at hk;exact absurd rfl hk
   rw [if_neg hz]
   have u1:eR (f+1) c= [c]:=by rw [eR,if_pos (by omega)]
   refine⟨c,hc.1,?_,by intro h;omega,?_,r,?_,?_⟩
   ·rw [Int.pow_succ]
    have:(0:Int) < 128 ^ f:=Int.pow_pos (by omega)
    generalize (128:Int) ^ f=p at this
    omega
   ·have e:c % 128=c:=by omega
    rw [e]
   ·rw [u1];rfl
   ·rw [u1];rfl
theorem k8 {l:List Int} (hb:Bytes l) (hk:(ax l).2≠0):aV (ax l).1=l.take (ax l).2.toNat:=by
 obtain⟨n,n0,n1,n2,n3,r,n4,n5⟩:=xy 9 0 l 0 rfl hb hk
 have e1:(ax l).1=n:=by show (jc l 0 0).1=n;rw [n3];simp
 have e2:(ax l).2=(aV n).length:=by show (jc l 0 0).2=_;rw [n5];simp [aV]
 rw [e1,e2,afu]
 conv=>rhs;rw [n4]
 show aV n=List.take (aV n).length (aV n++r)
 simp
theorem iD {x:Int} (h1: -9223372036854775808<=x) (h2:x<=9223372036854775807) (r:List Int):ax (aV (eI x)++r)=(eI x,((aV (eI x)).length:Int)):=by
 have:=jm h1 h2
 exact iC this.1 this.2 r
end Go.Proofs.YtcccjgmekakabaaGreat.FP
end

section
namespace Go.Proofs.YtcccjgmekakabaaGreat.FP
open F
open Go Go.Den Go.Proofs
def expand (D:List (Int×Int)):List Int:=D.flatMap fun x=>List.replicate x.1.toNat x.2
theorem ng: ∀(r:List Int) (y:Int),List.replicate (kB y r) y++expand (runT (some y) r)=r
 | [],y=>by simp [kB,runT,expand]
 | x :: r,y=>by
  by_cases h:x=y
  ·subst h
   rw [nW,if_pos rfl,kB,if_pos rfl,agO,af3,ng r x]
  ·rw [nW,if_neg (by simpa using Ne.symm h),kB,if_neg h]
   have:=ng r x
   unfold expand at this ⊢
   rw [age]
   simp only [afu,agO,List.replicate_zero,aga,af3]
   rw [this]
theorem je (l:List Int):expand (bY l)=l:=by
 cases l with
 | nil=>rfl
 | cons x r=>
  unfold bY
  rw [nW,if_neg (by simp)]
  have:=ng r x
  unfold expand at this ⊢
  rw [age]
  simp only [afu,agO,af3]
  rw [this]
abbrev Fk (s:Sl) (bad:Bool):List Value:= [.slice s.a s.len s.cap,.bool bad]
section
variable {S:List Nat} {w0 w:World} {ae:List aa}
theorem iE {u:aa} {br:Nat} {s:Sl} {bad:Bool} {cur:List Int} {R:List aa} (h:Hp S w0 w (u :: ai br 198 (Fk s bad) :: R)) (hu:Hp.Reads u s 1 eC cur) (hb:Bytes cur) (hl:cur.length<=9000000000000000) (dF:s.len<=s.cap) {K:Int->World->Prop}
  (hK: ∀s' w',Hp.Reads u s' 1 eC (cur.drop (ax cur).2.toNat)->s'.len<=s'.cap->Hp S w0 w' (u :: ai br 198 (Fk s' (cond bad true ((ax cur).2 ==0))) :: R)->K (ax cur).1 w'):BC (some ⟨br,0,none⟩) w K:=by
 refine Ky ?_
 unfold f153
 obtain⟨r0,r1,r2,r3,r4,r5⟩:=bz hb
 have eQ:=h.df 0 rfl hu
 refine bg ?_
 refine h.cx (k:=.sl) (x:=s) 1 rfl rfl ?_
 refine uU h 0 (u:=u) rfl hu hb hl ?_
 refine bg ?_
 refine h.ld (k:=.b) (x:=bad) 1 rfl rfl ?_
 refine bg ?_
 refine h.st 1 rfl (by simp) rfl fun w1 h=>?_
 refine bg ?_
 simp only [afN,afZ] at h
 refine h.cx (k:=.sl) (x:=s) 1 rfl rfl ?_
 refine Hp.jT (s:=s) hu eQ bx r2 (by omega) (by omega) (agr _) (by omega) fun s' qy cW MY=>?_
 refine bg ?_
 refine h.iR 1 rfl (by simp) rfl fun w1 h=>?_
 simp only [afN,afZ] at h
 have e:(cur.take ((s.len:Int)).toNat).drop (ax cur).2.toNat=cur.drop (ax cur).2.toNat:=by
  rw [afE (by omega)]
 rw [e] at qy
 exact hK s' w1 qy (by omega) h
def yY (cur g8:List Int):Prop:= ∃p,cur=p++g8
theorem yY.refl (c:List Int):yY c c:=⟨[],rfl⟩
theorem yY.drop {c c':List Int} (h:yY c c') (n:Nat):yY c (c'.drop n):=by
 obtain⟨p,rfl⟩:=h
 exact⟨p++c'.take n,by rw [afA,agp]⟩
theorem yY.bytes {c c':List Int} (h:yY c c') (hb:Bytes c):Bytes c':=by
 obtain⟨p,rfl⟩:=h
 exact fun x hx=>hb x (by simp [hx])
theorem yY.len {c c':List Int} (h:yY c c'):c'.length<=c.length:=by
 obtain⟨p,rfl⟩:=h
 simp
def Qw (form n:Int) (cur:List Int) (X g8:List Int) (bad:Bool):Prop:=
 ∀l rest,cur=bd form l++rest->(l.length:Int)=n->dX l->X=l /\ g8=rest /\ bad=false
theorem fI (a b:List Int) {k:Int} (h:k=(a.length:Int)):(a++b).drop k.toNat=b:=by
 subst h
 rw [afu,ahJ]
set_option maxHeartbeats 4000000 in
theorem Ez {u:aa} {br:Nat} {s:Sl} {cur:List Int} {form n:Int} (h:Hp S w0 w [u,ai br 198 (Fk s false)]) (hu:Hp.Reads u s 1 eC cur) (hb:Bytes cur) (hl:cur.length<=9000000000000000) (dF:s.len<=s.cap)
  (hf0:0<=form) (xz:0 < n) (tU:n<=100000) {K:Sl->World->Prop}
  (hK: ∀out s' X g8 bad w',Hp.Reads u s' 1 eC g8->s'.len<=s'.cap->yY cur g8->dX X->(X.length:Int)<=n->(2 < form->bad=true)->(form=0 \/ form=1 \/ form=2->Qw form n cur X g8 bad)->Hp S w0 w' [u,ai br 198 (Fk s' bad),aj out 2 1 iv X]->K out w'):NX (some ⟨br,0,none⟩) form n w K:=by
 refine Kz ?_
 unfold f154
 obtain⟨inf,q1,q2,q3,q4⟩:=jC
 have h:=h.nil 2 1 iv
 simp only [af3,aga] at h
 have VE: ∀X:List Int,(X.length:Int)<=n-> ∀o:Sl,X.length=o.len->IntKind.u64.wrap (o.len:Int)=(X.length:Int):=fun X hX o ho=>by rw [kH];omega
 -- the first loop
 refine⟨fun out w'=> ∃X bj s1 eH,Hp.Reads u s1 1 eC bj /\ s1.len<=s1.cap /\ yY cur bj /\ dX X /\ (X.length:Int)<=n /\ (2<=form->eH=false /\ X= [] /\ bj=cur) /\ (form=0 \/ form=1->Qw form n cur X bj eH) /\ Hp S w0 w' [u,ai br 198 (Fk s1 eH),aj out 2 1 iv X],?_,?_⟩
 ·refine⟨fun out last m w'=> ∃X bj s1 eH,Hp.Reads u s1 1 eC bj /\ s1.len<=s1.cap /\ yY cur bj /\ dX X /\ (X.length:Int)<=n /\ (2<=form->eH=false /\ X= [] /\ bj=cur) /\ m=n.toNat - X.length /\
    (∀l rest,(form=0 \/ form=1)->cur=bd form l++rest->(l.length:Int)=n->dX l->eH=false /\ ∃k,X=l.take k /\ k<=l.length /\ bj=(if form=0 then bI (l.drop k) else iB last (l.drop k))++rest) /\
    Hp S w0 w' [u,ai br 198 (Fk s1 eH),aj out 2 1 iv X],
   ⟨n.toNat,[],cur,s,false,hu,dF,yY.refl _,(by intro x hx;cases hx),(by simp;omega),fun _=>⟨rfl,rfl,rfl⟩,by simp,?_,h⟩,?_⟩
  ·intro l rest hf hc iS hr
   refine⟨rfl,0,rfl,by omega,?_⟩
   rw [hc]
   rcases hf with rfl | rfl <;> rfl
  rintro out last m w1 ⟨X,bj,s1,eH,v5,Ep,qg,hX,HG,VF,rfl,wA,h⟩
  have kA:=h.len (s:=out) 2 rfl
  -- what it means to end here
  have done:(n<=X.length \/ eH=true \/ 2<=form)-> ∃X bj s1 eH,Hp.Reads u s1 1 eC bj /\ s1.len<=s1.cap /\ yY cur bj /\ dX X /\ (X.length:Int)<=n /\ (2<=form->eH=false /\ X= [] /\ bj=cur) /\ (form=0 \/ form=1->Qw form n cur X bj eH) /\ Hp S w0 w1 [u,ai br 198 (Fk s1 eH),aj out 2 1 iv X]:=by
   intro qi
   refine⟨X,bj,s1,eH,v5,Ep,qg,hX,HG,VF,?_,h⟩
   intro hf l rest hc iS hr
   obtain⟨g1,k,g2,g3,g4⟩:=wA l rest hf hc iS hr
   have Mv:X.length=k:=by rw [g2,afM];omega
   have cU:k=l.length:=by
    rcases qi with h | h | h
    ·omega
    ·rw [g1] at h;cases h
    ·omega
   subst cU
   rw [agJ] at g2
   rw [ahN] at g4
   refine⟨g2,?_,g1⟩
   rw [g4]
   rcases hf with rfl | rfl <;> simp [bI,iB]
  refine⟨fun w'=>w'=w1 /\ (X.length:Int) < n /\ eH=false /\ form < 2,?_,?_⟩
  ·rw [VE X HG out kA]
   by_cases c1:(X.length:Int) < n
   ·refine aE (by simpa using c1) ?_
    refine bg ?_
    refine h.ld (k:=.b) (x:=eH) 1 rfl rfl ?_
    cases ff:eH with
    | true=>subst ff;exact aF (by simp) (done (.inr (.inl rfl)))
    | false=>
     subst ff
     refine aE (by simp) ?_
     by_cases c2:form < 2
     ·exact aE (by simpa using c2) ⟨rfl,c1,rfl,c2⟩
     ·exact aF (by simpa using c2) (done (.inr (.inr (by omega))))
   ·exact aF (by simpa using c1) (done (.inl (by omega)))
  ·rintro w2 ⟨rfl,c1,rfl,c2⟩
   have lr:=qg.bytes hb
   have A3:=qg.len
   obtain⟨r0,r1,r2,r3,r4,r5⟩:=bz lr
   refine iE h v5 lr (by omega) Ep fun s2 w3 yX jE h=>?_
   refine o5 r0 r1 ?_
   have hz:=rj r0 r1
   -- the number that is put
   have step: ∀(y fF:Int) (hy: -9223372036854775808<=y /\ y<=9223372036854775807),y=(if form=1 then IntKind.i64.wrap (lT (ax bj).1+last) else lT (ax bj).1)->(form=1->fF=y)->
     ∀s3 w4,Hp S w0 w4 [u,ai br 198 (Fk s2 (cond false true ((ax bj).2 ==0))),aj s3 2 1 iv (X++ [y])]->
     ∃m2:Nat,m2 < n.toNat - X.length /\ ∃X bj s1 eH,Hp.Reads u s1 1 eC bj /\ s1.len<=s1.cap /\ yY cur bj /\ dX X /\ (X.length:Int)<=n /\ (2<=form->eH=false /\ X= [] /\ bj=cur) /\ m2=n.toNat - X.length /\
      (∀l rest,(form=0 \/ form=1)->cur=bd form l++rest->(l.length:Int)=n->dX l->eH=false /\ ∃k,X=l.take k /\ k<=l.length /\ bj=(if form=0 then bI (l.drop k) else iB fF (l.drop k))++rest) /\
      Hp S w0 w4 [u,ai br 198 (Fk s1 eH),aj s3 2 1 iv X]:=by
    intro y fF hy yZ gA s3 w4 h
    refine⟨n.toNat - (X.length+1),by omega,X++ [y],_,s2,_,yX,jE,qg.drop _,?_,by simp;omega,by intro;omega,by simp,?_,h⟩
    ·intro z hz
     rcases afB.1 hz with hz | hz
     ·exact hX z hz
     ·simp only [afF] at hz;subst hz;exact hy
    ·intro l rest hf hc iS hr
     obtain⟨g1,k,g2,g3,g4⟩:=wA l rest hf hc iS hr
     have Mv:X.length=k:=by rw [g2,afM];omega
     have cU:k < l.length:=by omega
     have hd:l.drop k=l[k] :: l.drop (k+1):=agf cU
     have cX:l.take (k+1)=l.take k++ [l[k]]:=afG cU
     have Qx:=hr l[k] (afR cU)
     rw [hd] at g4
     generalize l[k]=x at hd cX Qx g4
     rcases hf with rfl | rfl
     ·have e:bj=aV (eI x)++(bI (l.drop (k+1))++rest):=by
       rw [g4,if_pos rfl];simp [bI]
      have hg:=iD Qx.1 Qx.2 (bI (l.drop (k+1))++rest)
      rw [<-e] at hg
      have hp:=cM (eI x)
      rw [if_neg (by omega)] at yZ
      rw [hg,nV] at yZ
      refine⟨by rw [hg];simp;intro h0;rw [h0] at hp;simp at hp,k+1,by rw [cX,<-g2,yZ],by omega,?_⟩
      rw [hg,if_pos rfl,e]
      exact fI _ _ rfl
     ·have e:bj=aV (eI (IntKind.i64.wrap (x - last)))++(iB x (l.drop (k+1))++rest):=by
       rw [g4,if_neg (by omega),iB];simp
      have hg:=iD (qP (x - last)) (qQ (x - last)) (iB x (l.drop (k+1))++rest)
      rw [<-e] at hg
      have hp:=cM (eI (IntKind.i64.wrap (x - last)))
      rw [if_pos rfl,hg,nV] at yZ
      have HE:y=x:=by
       rw [yZ,Ah,Ah]
       split <;> split <;> omega
      have yH:=gA rfl
      refine⟨by rw [hg];simp;intro h0;rw [h0] at hp;simp at hp,k+1,by rw [cX,<-g2,HE],by omega,?_⟩
      rw [hg,if_neg (by omega),yH,HE,e]
      exact fI _ _ rfl
   by_cases c3:form=1
   ·refine aE (by simpa using c3) ?_
    refine h.bL (c:= [_]) 2 (IntKind.i64.wrap (lT (ax bj).1+last)) rfl aq Dm q1 q3 q2 rfl rfl (by simp [Value.oneCell']) (by rw [q4];omega) (by omega) fun s3 w4 h _ _=>?_
    exact step _ _ ⟨qP _,qQ _⟩ (by rw [if_pos c3]) (fun _=>rfl) s3 w4 h
   ·refine aF (by simpa using c3) ?_
    refine h.bL (c:= [_]) 2 (lT (ax bj).1) rfl aq Dm q1 q3 q2 rfl rfl (by simp [Value.oneCell']) (by rw [q4];omega) (by omega) fun s3 w4 h _ _=>?_
    exact step _ _ hz (by rw [if_neg c3]) (fun hf=>absurd hf c3) s3 w4 h
 ·rintro out w1 ⟨X,bj,s1,eH,v5,Ep,qg,hX,HG,VF,wA,h⟩
  by_cases iH:form=2
  ·subst iH
   obtain⟨rfl,rfl,YX⟩:=VF (by omega)
   have YX:=YX.symm
   subst YX
   refine aF (by simp) ?_
   obtain⟨r0,r1,r2,r3,r4,r5⟩:=bz hb
   refine iE h v5 hb hl Ep fun s2 w2 yX jE h=>?_
   refine⟨fun qV k2 m w'=> ∃X bj s1 eH,Hp.Reads u s1 1 eC bj /\ s1.len<=s1.cap /\ yY cur bj /\ dX X /\ (X.length:Int)<=n /\ 0<=k2 /\ k2 < 18446744073709551616 /\ m=2*bj.length+(if eH=true then 0 else 1) /\
     (∀l rest,cur=bd 2 l++rest->(l.length:Int)=n->dX l->eH=false /\ ∃D T,bY l=D++T /\ X=expand D /\ bj=T.flatMap fG++rest /\ k2=T.length) /\
     Hp S w0 w' [u,ai br 198 (Fk s1 eH),aj qV 2 1 iv X],
    ⟨_,[],_,s2,_,yX,jE,(yY.refl _).drop _,(by intro x hx;cases hx),(by simp;omega),r0,r1,rfl,?_,h⟩,?_⟩
   ·intro l rest hc iS hr
    have fv:=jq l
    have e:cur=aV ((bY l).length:Int)++((bY l).flatMap fG++rest):=by
     rw [hc];show yE l++rest=_;simp [yE]
    have hg:=iC (n:=((bY l).length:Int)) (by omega) (by omega) ((bY l).flatMap fG++rest)
    rw [<-e] at hg
    have hp:=cM ((bY l).length:Int)
    refine⟨by rw [hg];simp;intro h0;rw [h0] at hp;simp at hp,[],bY l,rfl,rfl,?_,by rw [hg]⟩
    rw [hg,e]
    exact fI _ _ rfl
   clear r0 r1 r2 r3 r4 r5 yX jE h v5 Ep qg hX HG wA VF
   rintro qV k2 m w3 ⟨X,bj,s1,eH,v5,Ep,qg,hX,HG,k0,k1,rfl,wA,h⟩
   have kA:=h.len (s:=qV) 2 rfl
   have done:(k2=0 \/ eH=true)->K qV w3:=by
    intro qi
    refine hK qV s1 X bj eH w3 v5 Ep qg hX HG (by omega) ?_ h
    intro _ l rest hc iS hr
    obtain⟨g1,D,T,g2,g3,g4,g5⟩:=wA l rest hc iS hr
    have hT:T= []:=by
     rcases qi with h | h
     ·exact af7 (by omega)
     ·rw [g1] at h;cases h
    subst hT
    rw [afH] at g2
    refine⟨by rw [g3,<-g2,je],by rw [g4];rfl,g1⟩
   refine⟨fun w'=>w'=w3 /\ 0 < k2 /\ eH=false,?_,?_⟩
   ·by_cases c1:k2 > 0
    ·refine aE (by simpa using c1) ?_
     refine bg ?_
     refine h.ld (k:=.b) (x:=eH) 1 rfl rfl ?_
     cases ff:eH with
     | true=>subst ff;exact aF (by simp) (done (.inr rfl))
     | false=>subst ff;exact aE (by simp) ⟨rfl,c1,rfl⟩
    ·exact aF (by simpa using c1) (done (.inl (by omega)))
   ·rintro w4 ⟨rfl,c1,rfl⟩
    have lr:=qg.bytes hb
    have A3:=qg.len
    obtain⟨a0,a1,a2,a3,a4,a5⟩:=bz lr
    refine iE h v5 lr (by omega) Ep fun s2 w5 yX jE h=>?_
    have HH:=qg.drop (ax bj).2.toNat
    have eU:=HH.bytes hb
    have yH:=HH.len
    have uZ:(bj.drop (ax bj).2.toNat).length=bj.length - (ax bj).2.toNat:=af4
    generalize HI:bj.drop (ax bj).2.toNat=dg at*
    obtain⟨b0,b1,b2,b3,b4,b5⟩:=bz eU
    refine iE h yX eU (by omega) jE fun s3 w6 hr3 VG h=>?_
    refine o5 b0 b1 ?_
    have hz:=rj b0 b1
    have TE:=HH.drop (ax dg).2.toNat
    have aaB:(dg.drop (ax dg).2.toNat).length=dg.length - (ax dg).2.toNat:=af4
    refine bg ?_
    refine h.ld (k:=.b) 1 rfl rfl ?_
    refine bg ?_
    refine h.st 1 rfl (by simp) rfl fun w6 h=>?_
    simp only [afN,afZ] at h
    have Qu:IntKind.u64.wrap (n - IntKind.u64.wrap (qV.len:Int))=n - X.length:=by
     rw [VE X HG qV kA,kH];omega
    rw [Qu] at h
    generalize Fl:(cond (cond (cond false true ((ax bj).2 ==0)) true ((ax dg).2 ==0)) true (decide ((ax bj).1 > n - (X.length:Int))))=o6 at h
    have TF:o6=false->(ax bj).2≠0 /\ (ax bj).1<=n - X.length:=by
     intro iV
     rw [iV] at Fl
     cases h1:((ax bj).2 ==0) with
     | true=>rw [h1] at Fl;cases h2:((ax dg).2 ==0) <;> rw [h2] at Fl <;> simp at Fl
     | false=>
      refine⟨by simpa using h1,?_⟩
      rw [h1] at Fl
      cases h2:((ax dg).2 ==0) with
      | true=>rw [h2] at Fl;simp at Fl
      | false=>rw [h2] at Fl;simpa using Fl
    -- the canonical one
    have canon: ∀l rest,cur=bd 2 l++rest->(l.length:Int)=n->dX l->o6=false /\ ∃D T,bY l=D++T /\ X++List.replicate (ax bj).1.toNat (lT (ax dg).1)=expand D /\ dg.drop (ax dg).2.toNat=T.flatMap fG++rest /\ k2 - 1=T.length:=by
     intro l rest hc iS hr
     obtain⟨g1,D,T,g2,g3,g4,g5⟩:=wA l rest hc iS hr
     match T,g2,g4,g5 with
     | [],g2,g4,g5=>simp at g5;omega
     | (q,y) :: T,g2,g4,g5=>
      have cP:=jK none l (q,y) (by show (q,y)∈bY l;rw [g2];simp)
      have TG:=hr y cP.2.2
      obtain⟨m1,m2,_⟩:=cP
      dsimp only at m1 m2
      have e1:bj=aV q++(aV (eI y)++(T.flatMap fG++rest)):=by rw [g4];simp [fG]
      have Bc:=iC (n:=q) (by omega) (by omega) (aV (eI y)++(T.flatMap fG++rest))
      rw [<-e1] at Bc
      have e2:dg=aV (eI y)++(T.flatMap fG++rest):=by
       rw [<-HI,Bc,e1];exact fI _ _ rfl
      have Dg:=iD TG.1 TG.2 (T.flatMap fG++rest)
      rw [<-e2] at Dg
      have rf:=cM q
      have qC:=cM (eI y)
      have wB:=je l
      rw [g2] at wB
      have hlen:X.length+q.toNat<=l.length:=by
       rw [<-wB,g3]
       simp only [expand,af5,age,afw,agN]
       omega
      refine⟨?_,D++ [(q,y)],T,by rw [g2];simp,?_,?_,?_⟩
      ·rw [<-Fl,Bc,Dg]
       have n1:(((aV q).length:Int) ==0)=false:=by simp;intro h0;rw [h0] at rf;simp at rf
       have n2:(((aV (eI y)).length:Int) ==0)=false:=by simp;intro h0;rw [h0] at qC;simp at qC
       have n3: ¬(q > n - (X.length:Int)):=by omega
       dsimp only
       rw [n1,n2,decide_eq_false n3];rfl
      ·rw [Bc,Dg,nV,g3]
       simp [expand]
      ·rw [Dg,e2];exact fI _ _ rfl
      ·simp only [af6] at g5;omega
    refine⟨fun uz eE m w'=> ∃X',dX X' /\ (X'.length:Int)<=n /\ 0<=eE /\ eE < 18446744073709551616 /\ m=eE.toNat /\ (o6=false->(X'.length:Int)+eE<=n /\ X'++List.replicate eE.toNat (lT (ax dg).1)=X++List.replicate (ax bj).1.toNat (lT (ax dg).1)) /\
      Hp S w0 w' [u,ai br 198 (Fk s3 o6),aj uz 2 1 iv X'],
     ⟨_,X,hX,HG,a0,a1,rfl,fun iV=>⟨by have:=(TF iV).2;omega,rfl⟩,h⟩,?_⟩
    rintro uz eE m w7 ⟨X',hX',YY,n0,n1,rfl,RA,h⟩
    have acV:=h.len (s:=uz) 2 rfl
    have next:(eE=0 \/ o6=true)-> ∃m4:Nat,m4 < 2*bj.length+(if false=true then 0 else 1) /\ ∃X bj s1 eH,Hp.Reads u s1 1 eC bj /\ s1.len<=s1.cap /\ yY cur bj /\ dX X /\ (X.length:Int)<=n /\ 0<=IntKind.u64.wrap (k2 - 1) /\ IntKind.u64.wrap (k2 - 1) < 18446744073709551616 /\ m4=2*bj.length+(if eH=true then 0 else 1) /\
      (∀l rest,cur=bd 2 l++rest->(l.length:Int)=n->dX l->eH=false /\ ∃D T,bY l=D++T /\ X=expand D /\ bj=T.flatMap fG++rest /\ IntKind.u64.wrap (k2 - 1)=T.length) /\
      Hp S w0 w7 [u,ai br 198 (Fk s1 eH),aj uz 2 1 iv X]:=by
     intro qi
     have TD:IntKind.u64.wrap (k2 - 1)=k2 - 1:=by rw [kH];omega
     rw [TD]
     refine⟨2*(dg.drop (ax dg).2.toNat).length+(if o6=true then 0 else 1),?_,X',_,s3,o6,hr3,VG,TE,hX',YY,by omega,by omega,rfl,?_,h⟩
     ·cases iV:o6 with
      | true=>simp;omega
      | false=>
       have:=(TF iV).1
       simp;omega
     ·intro l rest hc iS hr
      obtain⟨g1,D,T,g2,g3,g4,g5⟩:=canon l rest hc iS hr
      obtain⟨_,g6⟩:=RA g1
      have hm:eE=0:=by
       rcases qi with h | h
       ·exact h
       ·rw [g1] at h;cases h
      rw [hm] at g6
      simp only [Int.toNat_zero,List.replicate_zero,afH] at g6
      exact⟨g1,D,T,g2,by rw [g6,g3],g4,g5⟩
    refine⟨fun w'=>w'=w7 /\ 0 < eE /\ o6=false,?_,?_⟩
    ·by_cases c2:eE > 0
     ·refine aE (by simpa using c2) ?_
      refine bg ?_
      refine h.ld (k:=.b) (x:=o6) 1 rfl rfl ?_
      cases iV:o6 with
      | true=>exact aF (by simp) (next (.inr iV))
      | false=>exact aE (by simp) ⟨rfl,c2,rfl⟩
     ·exact aF (by simpa using c2) (next (.inl (by omega)))
    ·rintro w8 ⟨rfl,c2,iV⟩
     obtain⟨g1,g2⟩:=RA iV
     refine h.bL (c:= [_]) 2 (lT (ax dg).1) rfl aq Dm q1 q3 q2 rfl rfl (by simp [Value.oneCell']) (by rw [q4];omega) (by omega) fun s4 w9 h _ _=>?_
     have YW:IntKind.u64.wrap (eE - 1)=eE - 1:=by rw [kH];omega
     rw [YW]
     refine⟨(eE - 1).toNat,by omega,X'++ [lT (ax dg).1],?_,by simp;omega,by omega,by omega,rfl,fun _=>⟨by simp;omega,?_⟩,h⟩
     ·intro z xp
      rcases afB.1 xp with xp | xp
      ·exact hX' z xp
      ·simp only [afF] at xp;subst xp;exact hz
     ·rw [<-g2,show eE.toNat=(eE - 1).toNat+1 by omega,agO]
      simp
  ·refine aE (by simpa using iH) ?_
   refine bg ?_
   refine h.ld (k:=.b) (x:=eH) 1 rfl rfl ?_
   refine bg ?_
   refine h.st 1 rfl (by simp) rfl fun w2 h=>?_
   simp only [afN,afZ] at h
   refine hK out s1 X bj (cond eH true (decide (form > 2))) w2 v5 Ep qg hX HG ?_ ?_ h
   ·intro ar;rw [decide_eq_true (show form > 2 from ar)];cases eH <;> rfl
   ·intro hf l rest hc iS hr
    have wK:form=0 \/ form=1:=by omega
    obtain⟨g1,g2,g3⟩:=wA wK l rest hc iS hr
    have: ¬form > 2:=by omega
    exact⟨g1,g2,by rw [g3];simp [this]⟩
end
end Go.Proofs.YtcccjgmekakabaaGreat.FP
end
