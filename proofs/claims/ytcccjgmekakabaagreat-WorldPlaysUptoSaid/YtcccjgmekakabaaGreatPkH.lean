/-
  Part 8 of the proof:WorldPlays of layer 6 is true of the given program for every input that its guards let in (of bulk at most 1048576).
-/
import Derived.Test.YtcccjgmekakabaaGreatPkG
set_option linter.unusedSimpArgs false
set_option linter.unusedVariables false
set_option maxRecDepth 100000
open Go.IntKind (i64 u64 u8)
section
namespace Go.Proofs.YtcccjgmekakabaaGreat.FW
open F
open Go Go.Den Go.Proofs
open FI (ai aD)
open FT (az fA bw ct fo cu jV dH iv aB)
open FP (eW tB bu gL bQ bV bx dO)
section
variable {S:List Nat} {w0 w:World} {ae:List aa}
set_option maxHeartbeats 2000000 in
theorem HR (h:Hp S w0 w ae) (i j:Nat) {b:Nat} {q:RH} {m:ai} (hm:m.MD) (hi:(ae[i]?).map aa.holds=some (af b 73 q.cells).holds) (hj:(ae[j]?).map aa.holds=some (aD 177 q.p m).holds) {K:Sl->World->Prop}
  (hK: ∀s w',Hp S w0 w' (ae++ [tB s (bQ m.aH++bQ m.free)])->K s w'):R9 (some ⟨b,0,none⟩) w K:=by
 refine NT ?_;unfold f105;obtain⟨g1,g2,g3,g4⟩:=gY hm.toOk;have r1:=fu m.aH;have r2:=fu m.free;have get: ∀{l:List aa} (k:Nat),(ae++l)[ae.length+k]? =l[k]? :=fun{l} k=>by rw [ak8 (by omega)];simp
 refine aS ?_;refine h.ld (n:=1) (k:=.p) (x:=some ⟨q.p,0,none⟩) i hi rfl ?_;refine FI.LG h j hm hj fun g f w1 h=>?_;refine ve h (ae.length+0) (u:=aj g 3 1 iv m.aH) (by rw [get];rfl) Hp.bZ (by omega) fun r w2 h=>?_;rw [ale] at h;refine FP.sj h (ae.length+0) (ae.length+2) (u:=aj g 3 1 iv m.aH) (b:=⟨none,0,0⟩) (bs:= []) (by rw [get];rfl) Lv (u':=aj r 2 1 iv m.aH) (l:=m.aH) (by rw [get];rfl) Hp.bZ g1 (by omega) (by simp) fun s w3 h=>?_;rw [ale] at h;refine ve h (ae.length+1) (u:=aj f 3 1 iv m.free) (by rw [get];rfl) Hp.bZ (by omega) fun r2' w4 h=>?_;rw [ale] at h;refine FP.sj h (ae.length+3) (ae.length+4) (u:=tB s ([]++bQ m.aH)) (bs:=bQ m.aH) (by rw [get];rfl) Hp.bZ (u':=aj r2' 2 1 iv m.free) (l:=m.free) (by rw [get];rfl) Hp.bZ g3 (by omega) (by omega) fun s2 w5 h=>?_;have h:Hp S w0 w5 (ae++ [aj g 3 1 iv m.aH,aj f 3 1 iv m.free,aj r 2 1 iv m.aH,tB s ([]++bQ m.aH),aj r2' 2 1 iv m.free]++ [tB s2 (bQ m.aH++bQ m.free)]):=by
  simp only [ale,alI,alO] at h ⊢;exact h
 exact hK s2 w5 h.rY
def jF (l:List gF):List Int:=l.flatMap fun r=>bu (dc r.2)++r.2.flatMap fun y=>bV y.2
theorem LN (l m:List gF):jF (l++m)=jF l++jF m:=by unfold jF;rw [alJ]
def gx (l:List Part):List Int:=l.flatMap fun y=>bV y.2
theorem LO (l m:List Part):gx (l++m)=gx l++gx m:=by unfold gx;rw [alJ]
theorem CR {l:List Part} (h: ∀y∈l,y.2.length<=4):(gx l).length<=40*l.length:=by
 induction l with
 | nil=>simp [gx]
 | cons y l ih=>
  have:=ih (fun z hz=>h z (by simp [hz]));have h1:=h y (by simp);have h2:=dO y.2;have e:gx (y :: l)=bV y.2++gx l:=by simp [gx]
  rw [e,alb,alQ];omega
theorem CS {l:List gF} (h: ∀r∈l,r.2.length<=12 /\ ∀y∈r.2,y.2.length<=4):(jF l).length<=490*l.length:=by
 induction l with
 | nil=>simp [jF]
 | cons r l ih=>
  have:=ih (fun z hz=>h z (by simp [hz]));obtain⟨h1,h2⟩:=h r (by simp);have h3:=CR h2;have h4:=bx (dc r.2);have e:jF (r :: l)=(bu (dc r.2)++gx r.2)++jF l:=by simp [jF,gx]
  rw [e,alb,alb,alQ];omega
theorem Gt {a:WA} (hf:a.fits):jF a.rows=a.all.flatMap fun e=>eP ((a.row e).getD []):=by
 unfold jF WA.rows;rw [List.flatMap_map];have key: ∀L:List bw,(∀e∈L,e∈a.all)->(L.flatMap fun e=>bu (dc (a.ns e).2)++(a.ns e).2.flatMap fun y=>bV y.2)=L.flatMap fun e=>eP ((a.row e).getD []):=by
  intro L
  induction L with
  | nil=>simp
  | cons e L ih=>
   intro hL;obtain⟨p,hp⟩:=gw hf.1 (hL e (by simp));rw [alX,alX,ih (fun x hx=>hL x (by simp [hx]))];congr 1;have e1:(a.ns e).2=partsOf p:=by unfold WA.ns;rw [hp];rfl
   rw [e1,nz,zL,hp];rfl
 exact key a.all (fun e he=>he)
set_option maxHeartbeats 4000000 in
theorem vf (h:Hp S w0 w ae) (i:Nat) {b:Nat} {a:WA} (hi:(ae[i]?).map aa.holds=some (fE b a).holds) {K:Sl->World->Prop}
  (hK: ∀s w',Hp S w0 w' (ae++ [tB s a.snap])->K s w'):c46 (some ⟨b,0,none⟩) w K:=by
 refine TA ?_;unfold f46;obtain⟨q,xs,hf,fx,h1⟩:=A0 h i hi;have ig:=jT hf.1;have eT:xs.length=a.all.length:=by
  have:=congrArg List.length fx;rw [alr] at this;unfold WA.rows at this;rw [alr] at this;exact this
 have hu:(j5 q.L xs).ro.holds=(j5 q.L xs).holds:=rfl;have hLl:=h1.dR (u:=j5 q.L xs) (s:=q.L) (l:=xs) (f:=Dp) (n:=3) 2 rfl (dP rfl);have Zh: ∀r∈a.rows,(r.2.length<=12 /\ ∀y∈r.2,y.2.length<=4):=fun r hr=>by
  obtain⟨p,hpa,hp,kT,Iv,kU⟩:=pV hf hr;obtain⟨yR,yw⟩:=kQ hf.1.len.2 hf.1.four Iv kU;rw [kT];exact⟨yR,fun y hy=>(yw y hy).1⟩
 refine HR h1 0 1 (m:=a.ar) hf.1.EP rfl rfl fun s1 w1 h1=>?_;have hhd:(bQ a.ar.aH++bQ a.ar.free).length<=10000:=by
  obtain⟨g1,g2,g3,g4⟩:=gY hf.1.qa;have r1:=fu a.ar.aH;have r2:=fu a.ar.free;rw [alb];omega
 have hsn:a.snap=bQ a.ar.aH++bQ a.ar.free++jF a.rows:=by rw [Gt hf];rfl
 rw [hsn] at hK;generalize bQ a.ar.aH++bQ a.ar.free=hd at h1 hhd hK;refine⟨fun s t mm w'=> ∃k:Nat,t=k /\ k<=xs.length /\ mm=xs.length - k /\ Hp [] w w' [(af b 73 q.cells).ro,(aD 177 q.p a.ar).ro,(j5 q.L xs).ro,tB s (hd++jF (a.rows.take k))],⟨xs.length,0,rfl,by omega,rfl,by simpa [jF] using h1⟩,?_⟩;clear h1;rintro s t mm w2 ⟨k,rfl,hk,rfl,h1⟩;refine aS ?_;refine h1.ld (n:=2) (k:=.sl) (x:=q.L) 0 rfl rfl ?_;by_cases av:k < xs.length
 ·refine aL (by simp;omega) ?_;have hx:xs[k]? =some xs[k]:=by simp [av]
  have fI:xs[k]∈xs:=alz av;have HQ:a.rows[k]? =some (Dq xs[k]):=by rw [<-fx,alc,hx];rfl
  generalize xs[k]=x at hx fI HQ;obtain⟨p,hpa,hp,kT,Iv,kU⟩:=pV hf (r:=Dq x) (ala HQ);have kT:x.2.2.map bq=partsOf p:=kT;have aeF:a.rows.take (k+1)=a.rows.take k++ [Dq x]:=by rw [amH,HQ];rfl
  obtain⟨yR,yw⟩:=kQ hf.1.len.2 hf.1.four Iv kU;have HE:=CS (l:=a.rows.take k) (fun r hr=>Zh r (ank hr));rw [alv] at HE;refine aS ?_;refine h1.ld (n:=2) (k:=.sl) (x:=q.L) 0 rfl rfl ?_;refine h1.uP (s:=q.L) (l:=xs) (f:=Dp) (n:=3) 2 rfl (dP hu) (by omega) (by rw [ak7];exact av) fun ad Ae=>?_;rw [ak7];refine h1.uQ (m:=2) (k:=.sl) (v:=x.2.1) 2 rfl (dP hu) Ae Gq hx rfl ?_;obtain⟨O',gD⟩:=h1.kY (i:=2) rfl;refine yh (AZ (u:=(j5 q.L xs).ro) hu fI gD) (by rw [kT];exact yR) (fun y hy=>by rw [kT] at hy;exact(yw y hy).2.2) ?_;have q9:=ff p;have zu:=fg (p:=p) (by rw [Iv.1];exact hf.1.len.2);have e0:dc (x.2.2.map bq)=aA p:=by rw [kT,nz]
  have e1:u64.wrap (dc (x.2.2.map bq))=aA p:=by rw [e0,FP.rh];omega
  rw [e1];refine FP.mj h1 3 (u:=tB s (hd++jF (a.rows.take k))) (l:=hd++jF (a.rows.take k)) rfl Hp.bZ q9 (by omega) (by rw [alb];omega) fun s2 w3 h1=>?_;have h1:Hp [] w w3 [(af b 73 q.cells).ro,(aD 177 q.p a.ar).ro,(j5 q.L xs).ro,tB s2 (hd++jF (a.rows.take k)++bu (aA p))]:=h1.ic [0,1,2,4] (by decide) rfl;have dM:=bx (aA p);have EN:(hd++jF (a.rows.take k)++bu (aA p)).length<=200000:=by rw [alb,alb];omega
  have qd:hd++jF (a.rows.take k)++bu (aA p)++gx (x.2.2.map bq)=hd++jF (a.rows.take (k+1)):=by
   rw [aeF,LN];have:jF [Dq x]=bu (aA p)++gx (x.2.2.map bq):=by
    rw [<-e0];simp [jF,gx,Dq]
   rw [this];simp
  generalize hd++jF (a.rows.take k)++bu (aA p)=pre at h1 EN qd;have aef:=h1.dR (s:=x.2.1) (l:=x.2.2) (f:=ck) (n:=2) (u:=(j5 q.L xs).ro) 2 rfl (mD hu fI);have vA:x.2.2.length<=12:=by rw [<-kT,alr] at yR;exact yR
  have YG: ∀y∈x.2.2,y.2.2.length<=4 /\ eW y.2.2:=fun y hy=>by
   have:=yw (bq y) (by rw [<-kT];exact am2 hy);exact⟨this.1,this.2.1⟩
  refine⟨fun s t mm w'=> ∃j:Nat,t=j /\ j<=x.2.2.length /\ mm=x.2.2.length - j /\ Hp [] w w' [(af b 73 q.cells).ro,(aD 177 q.p a.ar).ro,(j5 q.L xs).ro,tB s (pre++gx ((x.2.2.map bq).take j))],⟨x.2.2.length,0,rfl,by omega,rfl,by simpa [gx] using h1⟩,?_⟩;clear h1;rintro s3 t mm w4 ⟨j,rfl,hj,rfl,h1⟩;by_cases gQ:j < x.2.2.length
  ·refine aL (by simp;omega) ?_;have hy:x.2.2[j]? =some x.2.2[j]:=by simp [gQ]
   have HS:x.2.2[j]∈x.2.2:=alz gQ;have dU:(x.2.2.map bq).take (j+1)=(x.2.2.map bq).take j++ [bq x.2.2[j]]:=by
    rw [alp (by simpa using gQ)];simp
   generalize x.2.2[j]=y at hy HS dU;obtain⟨Gg,qv⟩:=YG y HS;have Kq:=CR (l:=(x.2.2.map bq).take j) (fun z hz=>by
    obtain⟨z',Dk,rfl⟩:=alu.1 (ank hz);exact(YG z' Dk).1)
   rw [alv] at Kq;have gJ:=h1.dR (s:=y.2.1) (l:=y.2.2) (f:=iv) (n:=1) (u:=(j5 q.L xs).ro) 2 rfl (pW hu fI HS);refine⟨fun s t mm w'=> ∃r:Nat,t=r /\ r<=y.2.2.length /\ mm=y.2.2.length - r /\ Hp [] w w' [(af b 73 q.cells).ro,(aD 177 q.p a.ar).ro,(j5 q.L xs).ro,tB s (pre++gx ((x.2.2.map bq).take j)++bV (y.2.2.take r))],⟨y.2.2.length,0,rfl,by omega,rfl,by simpa [bV] using h1⟩,?_⟩;clear h1;rintro s4 t mm w5 ⟨r,rfl,hr,rfl,h1⟩;have Vj: ∀{K:Sl->Prop},K y.2.1->Ix x.2.1.a x.2.1.len ((j:Nat):Int) 2 fun(a2:Addr)=>Ld .sl w5 (a2.add 1) K:=fun{K} hK=>by
    refine h1.uP (s:=x.2.1) (l:=x.2.2) (f:=ck) (n:=2) (u:=(j5 q.L xs).ro) 2 rfl (mD hu fI) (by omega) (by rw [ak7];exact gQ) fun ad Ae=>?_;rw [ak7];exact h1.uQ (m:=1) (k:=.sl) (v:=y.2.1) (u:=(j5 q.L xs).ro) 2 rfl (mD hu fI) Ae aR hy rfl hK
   refine Vj ?_;by_cases EK:r < y.2.2.length
   ·refine aL (by simp;omega) (Vj ?_);have hz:y.2.2[r]? =some y.2.2[r]:=by simp [EK]
    have hzr:=qv _ (alz EK);have dL:bV (y.2.2.take (r+1))=bV (y.2.2.take r)++bu (gL y.2.2[r]):=by
     unfold bV;rw [alp EK,alJ];simp
    have Il:=dO (y.2.2.take r);rw [alv] at Il;generalize y.2.2[r]=z at hz hzr dL;refine h1.fH (k:=.i .i64) (u:=(j5 q.L xs).ro) (y:=z) (x:=z) 2 rfl (pW hu fI HS) (by omega) (by rw [ak7];exact hz) aB rfl ?_;refine FP.jR h1 3 rfl Hp.bZ hzr.1 hzr.2 (by rw [alb,alb];omega) fun s5 w6 h1=>?_;have h1:Hp [] w w6 [(af b 73 q.cells).ro,(aD 177 q.p a.ar).ro,(j5 q.L xs).ro,tB s5 (pre++gx ((x.2.2.map bq).take j)++bV (y.2.2.take r)++bu (gL z))]:=h1.ic [0,1,2,4] (by decide) rfl;refine⟨y.2.2.length - (r+1),by omega,r+1,by rw [aI (by omega) (by omega)];omega,by omega,rfl,?_⟩;rw [dL,<-ale];exact h1
   ·refine aJ (by simp;omega) ⟨x.2.2.length - (j+1),by omega,j+1,by rw [aI (by omega) (by omega)];omega,by omega,rfl,?_⟩;rw [aln (l:=y.2.2) (by omega)] at h1;rw [dU,LO];have:gx [bq y]=bV y.2.2:=by simp [gx,bq]
    rw [this,<-ale];exact h1
  ·refine aJ (by simp;omega) ⟨xs.length - (k+1),by omega,k+1,by rw [aI (by omega) (by omega)];omega,by omega,rfl,?_⟩;rw [aln (by simp;omega),qd] at h1;exact h1
 ·refine aJ (by simp;omega) ?_;have EK:a.rows.length=xs.length:=by rw [<-fx,alr]
  rw [aln (by omega)] at h1;exact hK s w2 (h.r0 (rest:= [tB s (hd++jF a.rows)]) rfl (h1.ic [3] (by decide) rfl))
end
end Go.Proofs.YtcccjgmekakabaaGreat.FW
end

section
namespace Go.Proofs.YtcccjgmekakabaaGreat.FP
open F
open Go Go.Den Go.Proofs
def Told (form n:Int) (cur:List Int) (X:List Int) (last runs:Int) (cX:List Int):Prop:=
 ∀l rest,cur=cw form l++rest->(l.length:Int)=n->eW l->
  ((form=0 \/ form=1)->runs=0 /\ ∃k,X=l.take k /\ k<=l.length /\ cX=(if form=0 then bV (l.drop k) else mn last (l.drop k))++rest) /\
  (form=2-> ∃D T,dA l=D++T /\ X=expand D /\ cX=T.flatMap kG++rest /\ runs=T.length)
theorem Told.start {form n:Int} {cur:List Int} (hf:form=0 \/ form=1):Told form n cur [] 0 0 cur:=by
 intro l rest hc Bc hr;refine⟨fun _=>⟨rfl,0,rfl,by omega,?_⟩,fun h=>by omega⟩;rw [hc]
 rcases hf with rfl | rfl <;> rfl
end Go.Proofs.YtcccjgmekakabaaGreat.FP
end

section
namespace Go.Proofs.YtcccjgmekakabaaGreat.FW
open F
open Go Go.Den Go.Proofs
open FI (ai aD gK)
open FT (az fA bw ct fo cu jV dH iv aB)
open FP (eW tB bu gL bQ bV bx dO gM Acc bH nq)
section
variable {S:List Nat} {w0 w:World} {ae:List aa}
theorem yi (n:Nat): ∀k,cF (List.replicate n none) k= []
 | 0=>rfl
 | k+1=>by
  rw [cF,yi n k];have:(List.replicate n (none:Option (List Int))).getD k none=none:=by
   rw [alk,ams]
   split <;> rfl
  rw [this];rfl
end
section
variable {α:Type} (k:α->Int)
def nX (l:List α):Prop:=l.Pairwise fun a b=>k a < k b
def kR (l:List α) (x:α):List α:=l.takeWhile (fun y=>decide (k y < k x))++x :: l.dropWhile (fun y=>decide (k y < k x))
variable {k}
theorem nA: ∀{l m:List α},nX k l->nX k m->(∀x,x∈l↔x∈m)->l=m
 | [],[],_,_,_=>rfl
 | [],b :: m,_,_,h=>absurd ((h b).2 (by simp)) (by simp)
 | a :: l,[],_,_,h=>absurd ((h a).1 (by simp)) (by simp)
 | a :: l,b :: m,hl,hm,h=>by
  obtain⟨h1,h2⟩:=anf.1 hl;obtain⟨h3,h4⟩:=anf.1 hm;have hab:a=b:=by
   have ha:=(h a).1 (by simp);have hb:=(h b).2 (by simp)
   rcases alF.1 ha with ha | ha
   ·exact ha
   ·rcases alF.1 hb with hb | hb
    ·exact hb.symm
    ·have:=h1 b hb;have:=h3 a ha;omega
  subst hab;congr 1;refine nA h2 h4 fun x=>⟨fun hx=>?_,fun hx=>?_⟩
  ·rcases alF.1 ((h x).1 (by simp [hx])) with e | e
   ·subst e;have:=h1 x hx;omega
   ·exact e
  ·rcases alF.1 ((h x).2 (by simp [hx])) with e | e
   ·subst e;have:=h3 x hx;omega
   ·exact e
theorem yj {l:List α} {x y:α}:y∈kR k l x↔y=x \/ y∈l:=by
 unfold kR;have e: ∀y,y∈l↔y∈l.takeWhile (fun y=>decide (k y < k x)) \/ y∈l.dropWhile (fun y=>decide (k y < k x)):=fun y=>by
  rw [<-alg,List.takeWhile_append_dropWhile]
 rw [alg,alF,e];constructor
 ·rintro(h | h | h)
  ·exact .inr (.inl h)
  ·exact .inl h
  ·exact .inr (.inr h)
 ·rintro(h | h | h)
  ·exact .inr (.inl h)
  ·exact .inl h
  ·exact .inr (.inr h)
theorem zU {l:List α} {x:α} (h:nX k l) (hn: ∀y∈l,k y≠k x):nX k (kR k l x):=by
 induction l with
 | nil=>simp [nX,kR]
 | cons a l ih=>
  obtain⟨h1,h2⟩:=anf.1 h;by_cases ha:k a < k x
  ·have e:kR k (a :: l) x=a :: kR k l x:=by unfold kR;simp [ha]
   rw [e];refine anf.2 ⟨fun y hy=>?_,ih h2 fun y hy=>hn y (by simp [hy])⟩
   rcases yj.1 hy with rfl | hy
   ·exact ha
   ·exact h1 y hy
  ·have e:kR k (a :: l) x=x :: a :: l:=by unfold kR;simp [ha]
   rw [e];have:=hn a (by simp);refine anf.2 ⟨fun y hy=>?_,h⟩
   rcases alF.1 hy with rfl | hy
   ·omega
   ·have:=h1 y hy;omega
theorem yk {l:List α} (h:nX k l) (q:Nat):nX k (l.eraseIdx q):=List.Pairwise.sublist (anF l q) h
theorem mem_erase {l:List α} (h:nX k l) {q:Nat} {x:α} (hq:l[q]? =some x) (y:α):y∈l.eraseIdx q↔y∈l /\ y≠x:=by
 induction l generalizing q with
 | nil=>simp at hq
 | cons a l ih=>
  obtain⟨h1,h2⟩:=anf.1 h
  cases q with
  | zero=>
   simp only [alo,ald] at hq;subst hq;simp only [List.eraseIdx_cons_zero,alF];constructor
   ·intro hy;refine⟨.inr hy,fun e=>?_⟩;subst e;have:=h1 y hy;omega
   ·rintro⟨h | h,aW⟩
    ·exact absurd h aW
    ·exact h
  | succ q=>
   simp only [alP] at hq;have ja:=ala hq;simp only [anq,alF,ih h2 hq];constructor
   ·rintro(rfl | ⟨h,aW⟩)
    ·exact⟨.inl rfl,fun e=>by subst e;have:=h1 _ ja;omega⟩
    ·exact⟨.inr h,aW⟩
   ·rintro⟨h | h,aW⟩
    ·exact .inl h
    ·exact .inr ⟨h,aW⟩
theorem CT {l:List α} (h:nX k l) {q:Nat} {x x':α} (hq:l[q]? =some x) (he:k x'=k x):nX k (l.set q x'):=by
 unfold nX at h ⊢;rw [amG] at h ⊢;intro i j hi hj iZ;simp only [alV] at hi hj;have hqx:=(ak6.1 hq);have:=h i j hi hj iZ;rw [an2,an2];obtain⟨E4,MK⟩:=hqx
 split
 ·rename_i e;subst e
  rw [if_neg (by omega),he,<-MK];exact this
 ·split
  ·rename_i e;subst e
   rw [he,<-MK];exact this
  ·exact this
theorem mem_set {l:List α} (h:nX k l) {q:Nat} {x x':α} (hq:l[q]? =some x) (y:α):y∈l.set q x'↔y=x' \/ (y∈l /\ y≠x):=by
 obtain⟨E4,MK⟩:=ak6.1 hq;constructor
 ·intro hy;obtain⟨i,hi,rfl⟩:=amd.1 hy;simp only [alV] at hi;rw [an2]
  split
  ·exact .inl rfl
  ·rename_i aW
   refine .inr ⟨alz hi,fun e=>aW ?_⟩;unfold nX at h;rw [amG] at h
   rcases Nat.lt_trichotomy q i with av | heq | WO
   ·have:=h q i E4 hi av;rw [e,MK] at this;omega
   ·exact heq
   ·have:=h i q hi E4 WO;rw [e,MK] at this;omega
 ·rintro(rfl | ⟨hy,aW⟩)
  ·exact amd.2 ⟨q,by simpa using E4,by simp⟩
  ·obtain⟨i,hi,rfl⟩:=amd.1 hy;refine amd.2 ⟨i,by simpa using hi,?_⟩;rw [an2,if_neg];rintro rfl;exact aW MK
end
theorem vg (p:PL): ∀k,nX (·.1) (cF p k) /\ ∀y∈cF p k,y.1<=k
 | 0=>by simp [cF,nX]
 | k+1=>by
  obtain⟨h1,h2⟩:=vg p k;rw [cF]
  split
  ·refine⟨List.pairwise_append.2 ⟨h1,by simp,fun x hx y hy=>?_⟩,fun y hy=>?_⟩
   ·simp only [ali] at hy;subst hy;have:=h2 x hx;show x.1 < ((k+1:Nat):Int);omega
   ·rcases alg.1 hy with hy | hy
    ·have:=h2 y hy;omega
    ·simp only [ali] at hy;subst hy;exact al4 _
  ·rw [alh];exact⟨h1,fun y hy=>by have:=h2 y hy;omega⟩
theorem gm (p:PL):nX (·.1) (partsOf p):=(vg p _).1
theorem yl (p:PL): ∀(k i:Nat) (v:List Int),i < k->p[i]? =some (some v)->(((i+1:Nat):Int),v)∈cF p k
 | 0,i,v,h,_=>by omega
 | k+1,i,v,h,hp=>by
  rw [cF];by_cases Ig:i < k
  ·exact amN _ (yl p k i v Ig hp)
  ·obtain rfl:i=k:=by omega
   have:p.getD i none=some v:=by rw [alk,hp];rfl
   rw [this];exact anB _ (by simp)
theorem fy {p:PL} {y:Part}:y∈partsOf p↔ ∃i:Nat,y.1=((i+1:Nat):Int) /\ p[i]? =some (some y.2):=by
 constructor
 ·intro h;obtain⟨i,h1,_,h3⟩:=q6 p _ y h;exact⟨i,h1,h3⟩
 ·rintro⟨i,h1,h2⟩;have:=yl p p.length i y.2 (ak6.1 h2).1 h2;rw [<-h1] at this;exact this
theorem zV {p:PL} {i:Nat} (hi:i < p.length) (hn:p.getD i none=none) (v:List Int):partsOf (p.set i (some v))=kR (·.1) (partsOf p) (((i+1:Nat):Int),v):=by
 have hpi:p[i]? =some none:=by
  rw [alk,alf hi] at hn;rw [alf hi,<-hn];rfl
 refine nA (gm _) (zU (gm _) fun y hy e=>?_) fun y=>?_
 ·obtain⟨j,h1,h2⟩:=fy.1 hy;have:j=i:=by have:y.1=((i+1:Nat):Int):=e;omega
  subst this;rw [hpi] at h2;cases h2
 ·rw [yj,fy,fy];constructor
  ·rintro⟨j,h1,h2⟩;rw [alN] at h2
   split at h2
   ·rename_i e
    subst e;exact .inl (amz h1 (alm (alm h2)).symm)
   ·exact .inr ⟨j,h1,h2⟩
  ·rintro(rfl | ⟨j,h1,h2⟩)
   ·exact⟨i,rfl,by rw [alx hi]⟩
   ·refine⟨j,h1,?_⟩;rw [alC]
    ·exact h2
    ·rintro rfl;rw [hpi] at h2;cases h2
theorem Fa {p:PL} {i q:Nat} {v0:List Int} (hp:p[i]? =some (some v0)) (hq:(partsOf p)[q]? =some (((i+1:Nat):Int),v0)) (v:List Int):partsOf (p.set i (some v))=(partsOf p).set q (((i+1:Nat):Int),v):=by
 have hi:=(ak6.1 hp).1;refine nA (gm _) (CT (gm _) hq rfl) fun y=>?_;rw [mem_set (gm _) hq,fy,fy];constructor
 ·rintro⟨j,h1,h2⟩;rw [alN] at h2
  split at h2
  ·rename_i e
   subst e;exact .inl (amz h1 (alm (alm h2)).symm)
  ·rename_i aW
   exact .inr ⟨⟨j,h1,h2⟩,fun e=>aW (by rw [e] at h1;have h1:((i+1:Nat):Int)=((j+1:Nat):Int):=h1;omega)⟩
 ·rintro(rfl | ⟨⟨j,h1,h2⟩,aW⟩)
  ·exact⟨i,rfl,by rw [alx hi]⟩
  ·refine⟨j,h1,?_⟩;rw [alC]
   ·exact h2
   ·rintro rfl;rw [hp] at h2;exact aW (amz h1 (alm (alm h2)).symm)
theorem CU {p:PL} {i q:Nat} {v0:List Int} (hp:p[i]? =some (some v0)) (hq:(partsOf p)[q]? =some (((i+1:Nat):Int),v0)):partsOf (p.set i none)=(partsOf p).eraseIdx q:=by
 have hi:=(ak6.1 hp).1;refine nA (gm _) (yk (gm _) q) fun y=>?_;rw [mem_erase (gm _) hq,fy,fy];constructor
 ·rintro⟨j,h1,h2⟩;rw [alN] at h2
  split at h2
  ·rename_i e
   subst e
   cases h2
  ·rename_i aW
   exact⟨⟨j,h1,h2⟩,fun e=>aW (by rw [e] at h1;have h1:((i+1:Nat):Int)=((j+1:Nat):Int):=h1;omega)⟩
 ·rintro⟨⟨j,h1,h2⟩,aW⟩;refine⟨j,h1,?_⟩;rw [alC]
  ·exact h2
  ·rintro rfl;rw [hp] at h2;exact aW (amz h1 (alm (alm h2)).symm)
theorem hM (a:WA):nX (fun r:gF=>r.1.1) a.rows:=by
 unfold WA.rows nX;rw [anw];exact(FI.mh a.ar _).2
theorem fv {a:WA} (aT:a.Ok) {r:gF}:r∈a.rows↔ ∃p,a.row r.1=some p /\ r.2=partsOf p:=by
 constructor
 ·intro h;obtain⟨e,he,rfl⟩:=alu.1 h;obtain⟨p,hp⟩:=gw aT he;exact⟨p,hp,by unfold WA.ns;rw [hp];rfl⟩
 ·rintro⟨p,h1,h2⟩;refine alu.2 ⟨r.1,(AP aT).2 (by rw [h1];rfl),?_⟩;unfold WA.ns;rw [h1];exact amz rfl h2.symm
theorem find_spec {s:Sl} {l:List Part} {w:World} (hr:ri w s l) (hl:l.length<=1000000000) {kind:Int} {K:Int->World->Prop}
  (tK: ∀(q:Nat) (x:Part),l[q]? =some x->x.1=kind->K q w) (dz:(∀x∈l,x.1≠kind)->K (-1) w):I1 s kind w K:=by
 refine Oe ?_;unfold f131;have fB:=hr.len;obtain⟨xs,rfl,⟨o,hR⟩,_⟩:=hr;rw [alr] at hl fB;refine⟨fun t mm w'=> ∃k:Nat,t=k /\ k<=xs.length /\ mm=xs.length - k /\ w'=w /\ ∀(j:Nat) (x:PV),xs[j]? =some x->j < k->x.1≠kind,⟨xs.length,0,rfl,by omega,rfl,rfl,fun j x _ h=>by omega⟩,?_⟩;rintro t mm w2 ⟨k,rfl,hk,rfl,rfl,bz⟩;by_cases av:k < xs.length
 ·refine aL (by simp;omega) ?_;have hx:xs[k]? =some xs[k]:=by simp [av]
  generalize xs[k]=x at hx;refine bO.ix aR hR (by omega) (x:=x) (by rw [ak7];exact hx) fun ad hc=>?_;refine dG (k:=.i .i64) (x:=x.1) (hc 0 (by omega)) rfl ?_;by_cases he:x.1=kind
  ·exact aL (by simpa using he) (tK k (bq x) (by rw [alc,hx];rfl) he)
  ·refine aJ (by simpa using he) ⟨xs.length - (k+1),by omega,k+1,by rw [aI (by omega) (by omega)];omega,by omega,rfl,rfl,fun j y hy hj=>?_⟩;by_cases mQ:j < k
   ·exact bz j y hy mQ
   ·obtain rfl:j=k:=by omega
    obtain rfl:y=x:=alm (hy.symm.trans hx);exact he
 ·refine aJ (by simp;omega) (dz fun y hy=>?_);obtain⟨x,hx,rfl⟩:=alu.1 hy;obtain⟨j,hj⟩:=aly hx;exact bz j x hj (by have:=(ak6.1 hj).1;omega)
end Go.Proofs.YtcccjgmekakabaaGreat.FW
end

section
namespace Go.Den
open Go
namespace Hp
section
variable {S:List Nat} {w0 w:World} {ae:List aa}
variable {X α:Type} {e:TypeId} {n:Nat} {cells:X->List Value} {sub:X->aa} {vis:X->α} {s:Sl} {l:List α}
theorem v8 (h:Hp S w0 w ae) {i k:Nat} {y:α} (hi:ae[i]? =some (iA e n cells sub vis s l)) (hk:l[k]? =some y) (ho: ∀x,(sub x).own=true):
  ∃(xs:List X) (x:X),xs.map vis=l /\ xs[k]? =some x /\ vis x=y /\ Hp S w0 w (ae.set i (aj s e n cells xs)++ [ak ((xs.map sub).set k ao),sub x]):=by
 obtain⟨xs,hx,h⟩:=h.du hi;subst hx;rw [alc,alH] at hk;obtain⟨x,hx,rfl⟩:=hk;refine⟨xs,x,rfl,hx,rfl,?_⟩;have hl:(ae.set i (aj s e n cells xs)).length=ae.length:=alV;have h:=h.pick (i:=ae.length) (k:=k) (ts:=xs.map sub) (t:=sub x) (by rw [<-hl];exact alw) (by rw [alc,hx];rfl) (ho x);rw [<-hl,alj _ _ (alA _),alK,alq,ale] at h;exact h
theorem pX (h:Hp S w0 w ae) {i j m k:Nat} (iZ:i≠j) (hjm:j≠m) (him:i≠m) {xs:List X} {x':X} (hk:k < xs.length)
  (hi:ae[i]? =some (aj s e n cells (xs.set k x'))) (hj:ae[j]? =some (ak ((xs.map sub).set k ao))) (hm:ae[m]? =some (sub x')) (ho:(sub x').own=true):
  Hp S w0 w (((ae.set j ao).set m ao).set i (iA e n cells sub vis s ((xs.map vis).set k (vis x')))):=by
 have jD:=(ak6.1 hi).1;have gQ:=(ak6.1 hj).1;have KM:=(ak6.1 hm).1;have h:=h.iT (i:=j) (j:=m) (k:=k) hjm hj hm (by rw [alx (by simpa using hk)]) ho;rw [al2] at h;have e1:(xs.map sub).set k (sub x')=(xs.set k x').map sub:=by rw [amm]
 rw [e1] at h;have h:=h.dv (i:=i) (j:=j) (xs:=xs.set k x') (sub:=sub) (vis:=vis) (l:=(xs.map vis).set k (vis x')) iZ
  (by rw [alC (fun q=>him q.symm),alC (fun q=>iZ q.symm)];exact hi)
  (by rw [alC (fun q=>hjm q.symm),alx gQ]) (by rw [amm])
 have e2:((((ae.set j (ak ((xs.set k x').map sub))).set m ao).set i (iA e n cells sub vis s ((xs.map vis).set k (vis x')))).set j ao)=(((ae.set j ao).set m ao).set i (iA e n cells sub vis s ((xs.map vis).set k (vis x')))):=by
  rw [anL _ _ iZ,anL _ _ (fun q=>hjm q.symm),al2]
 rw [e2] at h;exact h
theorem aeI {A:List aa} {t:aa} (h:Hp S w0 w (ae++A++ [t])) {i:Nat} (hi:i < ae.length):Hp S w0 w (ae.set i t):=by
 refine h.JS ((List.range ae.length).map fun j=>if j=i then ae.length+A.length else j) ?_ (by simp) fun n j hn=>?_
 ·rw [amq,anw];refine List.Pairwise.imp_of_mem (fun{a b} ha hb aW he=>aW ?_) (amq.1 anZ);have ha:=al5.1 ha;have hb:=al5.1 hb
  split at he <;> split at he <;> omega
 ·rw [alc] at hn;obtain⟨m,hm,rfl⟩:=alH.1 hn;have KM:=(ak6.1 hm).1;rw [amC (by simpa using KM)] at hm;obtain rfl:=alm hm;simp only [am9] at KM;by_cases hni:n=i
  ·subst hni;rw [if_pos rfl,alx hi,ak8 (by simp)];simp
  ·rw [if_neg hni,alC (fun e=>hni e.symm),ale,ak9 KM]
end
end Hp
theorem vh: ∀(k:Nat) {ts:List aa} {t:aa} {w:World} {O1 O2:List Nat},(ak ts).holds w O1->t.holds w O2->(∀x∈O1,x ∉ O2)->(ak (ts.take k++t :: ts.drop k)).holds w (O1++O2)
 | 0,ts,t,w,O1,O2,h1,h2,hd=>⟨O2,O1,h2,h1,fun x hx hy=>hd x hy hx,fun x=>by simp [or_comm]⟩
 | k+1,[],t,w,O1,O2,h1,h2,hd=>⟨O2,O1,h2,h1,fun x hx hy=>hd x hy hx,fun x=>by simp [or_comm]⟩
 | k+1,u :: ts,t,w,O1,O2,⟨P1,P2,g1,g2,g3,g4⟩,h2,hd=>by
  have ih:=vh k (ts:=ts) g2 h2 (fun x hx=>hd x ((g4 x).2 (.inr hx)));refine⟨P1,P2++O2,g1,ih,fun x hx hy=>?_,fun x=>?_⟩
  ·rcases alg.1 hy with hy | hy
   ·exact g3 x hx hy
   ·exact hd x ((g4 x).2 (.inl hx)) hy
  ·rw [alg,alg,g4 x,or_assoc]
theorem kE: ∀(k:Nat) {ts:List aa} {w:World} {O:List Nat},(ak ts).holds w O-> ∃O',(ak (ts.eraseIdx k)).holds w O' /\ ∀x∈O',x∈O
 | _,[],w,O,h=>⟨O,by simpa using h,fun x hx=>hx⟩
 | 0,u :: ts,w,O,⟨P1,P2,g1,g2,g3,g4⟩=>⟨P2,g2,fun x hx=>(g4 x).2 (.inr hx)⟩
 | k+1,u :: ts,w,O,⟨P1,P2,g1,g2,g3,g4⟩=>by
  obtain⟨O',h1,h2⟩:=kE k g2;refine⟨P1++O',⟨P1,O',g1,h1,fun x hx hy=>g3 x hx (h2 x hy),fun x=>alg⟩,fun x hx=>?_⟩
  rcases alg.1 hx with hx | hx
  ·exact(g4 x).2 (.inl hx)
  ·exact(g4 x).2 (.inr (h2 x hx))
namespace Hp
section
variable {S:List Nat} {w0 w:World} {ae:List aa}
theorem LP (h:Hp S w0 w ae) {i j:Nat} (aW:i≠j) {ts:List aa} {t:aa} (k:Nat) (hi:ae[i]? =some (ak ts)) (hj:ae[j]? =some t) (ho:t.own=true):Hp S w0 w ((ae.set i (ak (ts.take k++t :: ts.drop k))).set j ao):=
 h.join aW hi hj (aM _) ho (aM _) (fun w O1 O2 h1 h2 hd=>vh k h1 h2 hd)
theorem LQ (h:Hp S w0 w ae) {i:Nat} {ts:List aa} (k:Nat) (hi:ae[i]? =some (ak ts)):Hp S w0 w (ae.set i (ak (ts.eraseIdx k))):=
 h.less hi (aM _) (fun w O hO=>kE k hO) (aM _)
end
end Hp
end Go.Den
end

section
namespace Go.Proofs.YtcccjgmekakabaaGreat.FW
open F
open Go Go.Den Go.Proofs
open FI (ai aD)
open FT (bw fo cu iv aB)
theorem zW {α:Type} (k:α->Int) {l:List α} {x:α} {i:Nat} (hi:i<=l.length) (h1: ∀y∈l.take i,k y < k x) (h2: ∀y,l[i]? =some y-> ¬k y < k x):kR k l x=l.take i++x :: l.drop i:=by
 have hp: ∀a∈l.take i,(fun y=>decide (k y < k x)) a=true:=fun a ha=>by simpa using h1 a ha
 have ht:l.takeWhile (fun y=>decide (k y < k x))=l.take i /\ l.dropWhile (fun y=>decide (k y < k x))=l.drop i:=by
  have e:l=l.take i++l.drop i:=(amg i l).symm;have hd: ∀m:List α,(∀y,m[0]? =some y-> ¬k y < k x)->m.takeWhile (fun y=>decide (k y < k x))= [] /\ m.dropWhile (fun y=>decide (k y < k x))=m:=fun m hm=>by
   cases m with
   | nil=>exact⟨rfl,rfl⟩
   | cons y m=>
    have:=hm y rfl;exact⟨List.takeWhile_cons_of_neg (by simpa using this),List.dropWhile_cons_of_neg (by simpa using this)⟩
  obtain⟨d1,d2⟩:=hd (l.drop i) (fun y hy=>h2 y (by rw [alZ] at hy;exact hy));constructor
  ·rw [show l.takeWhile (fun y=>decide (k y < k x))=(l.take i++l.drop i).takeWhile (fun y=>decide (k y < k x)) by rw [<-e],List.takeWhile_append_of_pos hp,d1,alh]
  ·rw [show l.dropWhile (fun y=>decide (k y < k x))=(l.take i++l.drop i).dropWhile (fun y=>decide (k y < k x)) by rw [<-e],List.dropWhile_append_of_pos hp,d2]
 unfold kR;rw [ht.1,ht.2]
theorem CV {α:Type} {t:aa} {s:Sl} {n:Nat} {f:α->List Value} {l:List α} (h:Hp.Reads t s n f l):Hp.Reads t.ro s n f l:=⟨fun hO=>h.rd hO⟩
section
variable {S:List Nat} {w0 w:World} {ae:List aa}
set_option maxHeartbeats 4000000 in
theorem zX (h:Hp S w0 w ae) (i:Nat) {s:Sl} {l:List Part} (hi:ae[i]? =some (aN s l)) {kind:Int} {v:Sl} {vals:List Int} (hv: ∃o,bO w v 1 iv vals o) (hl:l.length<=1000000) (gJ:vals.length<=1000000000) {K:Sl->World->Prop}
  (hK: ∀r w',Hp S w0 w' (ae.set i (aN r (kR (·.1) l (kind,vals))))->K r w'):Nf s kind v w K:=by
 refine Of ?_;unfold f132;obtain⟨inf,i1,i2,i3,i4⟩:=xT;have jD:=(ak6.1 hi).1;obtain⟨xs,rfl,h1⟩:=h.du hi;clear h;rw [alr] at hl;have g1:=h1.My (j:=i) (u:=aj s 36 2 ck xs) (by rw [ak9 (by simpa using jD),alx jD];rfl);obtain⟨o,hvo⟩:=hv;have g1:=g1.dC (t:=sM v 1 iv vals) hvo (by simp);have g1:Hp [] w w [(aj s 36 2 ck xs).ro,(sM v 1 iv vals).ro]:=g1;have rs:Hp.Reads (aj s 36 2 ck xs).ro s 2 ck xs:=CV Hp.bZ;have fB:=g1.dR 0 (u:=(aj s 36 2 ck xs).ro) rfl rs;have Mz:=g1.cap (s:=s) (l:=xs) (e:=36) (n:=2) (f:=ck) 0 rfl;refine g1.nw (c:= [_,_]) fun pb w1 h=>?_;have h:=h.nil 36 2 ck;have h:Hp [] w w1 [(aj s 36 2 ck xs).ro,(sM v 1 iv vals).ro,af pb 36 [.int .i64 kind,.slice v.a v.len v.cap],aj ⟨none,0,0⟩ 36 2 ck []]:=h;refine⟨fun out t w'=> ∃k:Nat,t=k /\ k<=xs.length /\ (∀y∈xs.take k,y.1 < kind) /\ (∀y,xs[k]? =some y-> ¬y.1 < kind) /\ Hp [] w w' [(aj s 36 2 ck xs).ro,(sM v 1 iv vals).ro,af pb 36 [.int .i64 kind,.slice v.a v.len v.cap],aj out 36 2 ck (xs.take k)],?_,?_⟩
 ·refine⟨fun out t mm w'=> ∃k:Nat,t=k /\ k<=xs.length /\ mm=xs.length - k /\ (∀y∈xs.take k,y.1 < kind) /\ Hp [] w w' [(aj s 36 2 ck xs).ro,(sM v 1 iv vals).ro,af pb 36 [.int .i64 kind,.slice v.a v.len v.cap],aj out 36 2 ck (xs.take k)],⟨xs.length,0,rfl,by omega,rfl,by simp,h⟩,?_⟩;clear h;rintro out t mm w2 ⟨k,rfl,hk,rfl,bz,h⟩;have lq:=h.len (s:=out) (l:=xs.take k) (e:=36) (n:=2) (f:=ck) 3 rfl;rw [alv] at lq;refine⟨fun w'=>k < xs.length /\ (∀y,xs[k]? =some y->y.1 < kind) /\ Hp [] w w' [(aj s 36 2 ck xs).ro,(sM v 1 iv vals).ro,af pb 36 [.int .i64 kind,.slice v.a v.len v.cap],aj out 36 2 ck (xs.take k)],?_,?_⟩
  ·refine h.dr fun w3 h=>?_;by_cases av:k < xs.length
   ·refine aL (by simp;omega) ?_;have hx:xs[k]? =some xs[k]:=by simp [av]
    generalize xs[k]=x at hx;refine h.rf (s:=s) (l:=xs) (f:=ck) (n:=2) (e:=36) 0 rfl (by omega) (by rw [ak7];exact hx) aR fun ad hc=>?_;refine dG (k:=.i .i64) (x:=x.1) (hc 0 (by omega)) rfl ?_;refine h.bE (k:=.i .i64) (x:=kind) 2 rfl rfl ?_;by_cases CW:x.1 < kind
    ·exact aL (by simpa using CW) ⟨av,fun y hy=>by rw [hx] at hy;obtain rfl:=alm hy;exact CW,h⟩
    ·exact aJ (by simpa using CW) ⟨k,rfl,hk,bz,fun y hy=>by rw [hx] at hy;obtain rfl:=alm hy;exact CW,h⟩
   ·exact aJ (by simp;omega) ⟨k,rfl,hk,bz,fun y hy=>by have:=(ak6.1 hy).1;omega,h⟩
  clear h;rintro w3 ⟨av,CW,h⟩;have hx:xs[k]? =some xs[k]:=by simp [av]
  have dU:xs.take (k+1)=xs.take k++ [xs[k]]:=alp av;generalize xs[k]=x at hx dU;have CW:=CW x hx;refine h.rf (s:=s) (l:=xs) (f:=ck) (n:=2) (e:=36) 0 rfl (by omega) (by rw [ak7];exact hx) aR fun ad hc=>?_;refine dG (k:=.i .i64) (x:=x.1) (hc 0 (by omega)) rfl ?_;refine jB (k:=.sl) (x:=x.2.1) (hc 1 (by omega)) rfl ?_;refine h.cj 3 x (c:= [_,_]) rfl aR nL i1 i3 i2 rfl rfl (by simp [ck,Value.oneCell']) (by rw [i4];omega) (by omega) fun bR w4 h _ _=>?_;refine⟨xs.length - (k+1),by omega,k+1,by rw [aI (by omega) (by omega)];omega,by omega,rfl,fun y hy=>?_,?_⟩
  ·rw [dU] at hy
   rcases alg.1 hy with hy | hy
   ·exact bz y hy
   ·simp only [ali] at hy;subst hy;exact CW
  ·rw [dU];exact h
 clear h;rintro out t w2 ⟨k,rfl,hk,bz,LR,h⟩;have lq:=h.len (s:=out) (l:=xs.take k) (e:=36) (n:=2) (f:=ck) 3 rfl;rw [alv] at lq;refine h.dr fun w3 h=>?_;refine h.bE (k:=.i .i64) (x:=kind) 2 rfl rfl ?_;refine h.ld (n:=1) (k:=.sl) (x:=v) 2 rfl rfl ?_;have qv: ∃o,bO w3 v 1 iv vals o:=by
  obtain⟨O,hO⟩:=h.kY (i:=1) rfl;exact⟨O,hO⟩
 refine qZ h qv gJ fun r w4 h=>?_;have h:Hp [] w w4 [(aj s 36 2 ck xs).ro,(sM v 1 iv vals).ro,af pb 36 [.int .i64 kind,.slice v.a v.len v.cap],aj out 36 2 ck (xs.take k),aj r 2 1 iv vals]:=h;refine⟨h.vw 2 rfl rfl,?_⟩;refine h.cj 3 ((kind,r,vals):PV) (c:= [_,_]) rfl aR nL i1 i3 i2 rfl rfl (by simp [ck,Value.oneCell']) (by rw [i4];omega) (by omega) fun qI w5 h ho4 _=>?_;have h:Hp [] w w5 [(aj s 36 2 ck xs).ro,(sM v 1 iv vals).ro,af pb 36 [.int .i64 kind,.slice v.a v.len v.cap],aj qI 36 2 ck (xs.take k++ [(kind,r,vals)]),aj r 2 1 iv vals]:=h;refine Hp.nU (s:=s) rs fB aR (by omega) (by omega) (by omega) (al4 _) (by omega) fun s5 F5 E8 Y8=>?_;have e1:(xs.take ((s.len:Nat):Int).toNat).drop ((k:Nat):Int).toNat=xs.drop k:=by rw [ak7,ak7,aln (by omega)]
 rw [e1] at F5;rw [ak7,ak7] at E8;refine h.gq 3 0 (s:=qI) (s2:=s5) (u:=(aj s 36 2 ck xs).ro) rfl rfl F5 aR nL i1 i3 i2 rfl (by simp [ck,Value.oneCell']) (by rw [i4];omega) (by omega) fun s6 w6 h _ _=>?_;have h:Hp [] w w6 [(aj s 36 2 ck xs).ro,(sM v 1 iv vals).ro,af pb 36 [.int .i64 kind,.slice v.a v.len v.cap],aj s6 36 2 ck (xs.take k++ [(kind,r,vals)]++xs.drop k),aj r 2 1 iv vals]:=h;have g:=h.Uz 3 4 (by decide) rfl rfl;have h:=h1.r0 rfl g;clear g;have Bw:(ae.set i (aj s 36 2 ck xs)).length=ae.length:=alV;generalize Yn:ae.set i (aj s 36 2 ck xs)=HT at h Bw;have h:Hp S w0 w6 (HT++ [ak (xs.map tV),aj s6 36 2 ck (xs.take k++(kind,r,vals) :: xs.drop k),aj r 2 1 iv vals]):=by
  have h:Hp S w0 w6 (HT++ [ak (xs.map tV)]++ [aj s6 36 2 ck (xs.take k++ [(kind,r,vals)]++xs.drop k),aj r 2 1 iv vals]):=h
  simpa using h
 have g0: ∀{l:List aa} (k:Nat),(HT++l)[HT.length+k]? =l[k]? :=fun{l} k=>by rw [ak8 (by omega)];simp
 have s0: ∀{l:List aa} (k:Nat) (t:aa),(HT++l).set (HT.length+k) t=HT++l.set k t:=fun{l} k t=>by rw [alj _ _ (by omega)];simp
 have h:=h.LP (i:=HT.length+0) (j:=HT.length+2) (by omega) (t:=tV (kind,r,vals)) k (by rw [g0];rfl) (by rw [g0];rfl) rfl;rw [s0,s0] at h;have e2:(xs.map tV).take k++tV (kind,r,vals) :: (xs.map tV).drop k=(xs.take k++(kind,r,vals) :: xs.drop k).map tV:=by
  rw [alW,alR,anM,List.map_drop]
 have e3:kR (·.1) (xs.map bq) (kind,vals)=(xs.take k++(kind,r,vals) :: xs.drop k).map bq:=by
  rw [zW (fun y:Part=>y.1) (i:=k) (by rw [alr];omega) (fun y hy=>by
   rw [<-anM] at hy;obtain⟨x,hx,rfl⟩:=alu.1 hy;exact bz x hx) (fun y hy=>by
   rw [alc] at hy;obtain⟨x,hx,rfl⟩:=alH.1 hy;exact LR x hx),alW,alR,anM,List.map_drop]
  rfl
 rw [e2] at h;have h:=h.dv (i:=HT.length+1) (j:=HT.length+0) (cells:=ck) (sub:=tV) (vis:=bq) (l:=kR (·.1) (xs.map bq) (kind,vals)) (by omega) (by rw [g0];rfl) (by rw [g0];rfl) e3.symm;rw [s0,s0] at h;have h:Hp S w0 w6 (HT++ [ao,aN s6 (kR (·.1) (xs.map bq) (kind,vals)),ao]):=h;have h:Hp S w0 w6 (HT++ [ao]++ [aN s6 (kR (·.1) (xs.map bq) (kind,vals))]++ [ao]):=by simpa using h
 have h:=h.front.aeI (i:=i) (by omega);rw [<-Yn,al2] at h;exact hK s6 w6 h
theorem Fb (h:Hp S w0 w ae) (i:Nat) {s:Sl} {l:KD} (hi:(ae[i]?).map aa.holds=some (aK s l).holds):l.length=s.len:=(h.mo (s:=s) (l:=l) (e:=107) (n:=2) (cells:=df) (sub:=tF) (vis:=mw) i hi).1
theorem sD (h:Hp S w0 w ae) (i j:Nat) {b:Nat} {q:RH} {ks:KD} (hi:(ae[i]?).map aa.holds=some (af b 73 q.cells).holds) (hj:(ae[j]?).map aa.holds=some (aK q.K ks).holds) (hl:ks.length<=1000000) {kind:Int} (k1: -9223372036854775808<=kind) (k2:kind<=9223372036854775807) {K:Int->World->Prop}
  (hK:match fl ks kind with | some n=>K (n:Nat) w | none=>K (-1) w):Bz (some ⟨b,0,none⟩) kind w K:=by
 refine Od ?_;unfold f130;have cO:=Fb h j hj;refine⟨fun w'=>w'=w /\ 1<=kind /\ kind<=ks.length,?_,?_⟩
 ·by_cases h1:kind < 1
  ·refine aL (by simpa using h1) ?_;have:fl ks kind=none:=by unfold fl;rw [if_neg (by omega)]
   rw [this] at hK;exact hK
  ·refine aJ (by simpa using h1) ?_;refine aS ?_;refine h.bE (k:=.sl) (x:=q.K) i hi rfl ?_;by_cases h2:kind > q.K.len
   ·refine aL (by simpa using h2) ?_;have:fl ks kind=none:=by unfold fl;rw [if_pos (by omega),alE (by omega)];rfl
    rw [this] at hK;exact hK
   ·exact aJ (by simpa using h2) ⟨rfl,by omega,by omega⟩
 ·rintro w' ⟨rfl,h1,h2⟩;refine aS ?_;refine h.bE (k:=.sl) (x:=q.K) i hi rfl ?_;obtain⟨O,hO⟩:=h.de hj;obtain⟨xs,fx,⟨o,hR⟩,hx⟩:=(CN hO).open;have ja:xs.length=ks.length:=by rw [<-fx];simp [kinds]
  have hg:xs[(kind - 1).toNat]? =some (xs[(kind - 1).toNat]'(by omega)):=alf _;generalize xs[(kind - 1).toNat]'(by omega)=x at hg;have hw:i64.wrap (kind - 1)=kind - 1:=aI (by omega) (by omega);rw [hw];refine bO.ix bn hR (by omega) hg fun ad hc=>?_;refine jB (k:=.sl) (x:=x.2.1) (hc 1 (by omega)) rfl ?_;obtain⟨_,o2,Y4⟩:=hx x (ala hg);have:fl ks kind=some x.2.2.length:=by
   unfold fl;rw [if_pos (by omega),<-fx];unfold kinds;rw [alc,hg];rfl
  rw [this] at hK;dsimp only at hK;rw [Y4.len] at hK;exact hK
end
theorem HU {a:WA} (aT:a.Ok) {x y:bw} (hx:(a.row x).isSome=true) (hy:(a.row y).isSome=true) (h1:x.1=y.1):x=y:=by
 rw [aT.Dl x] at hx;rw [aT.Dl y] at hy;obtain⟨_,h2⟩:=ai.kC.1 hx;obtain⟨_,h3⟩:=ai.kC.1 hy;exact amz h1 (by rw [<-h2,<-h3,h1])
theorem LS {a a':WA} (aT:a.Ok) (iB:a'.Ok) {e:bw} (hn:a.row e=none) {p:PL} (hr:a'.row=aG a.row e (some p)):a'.rows=kR (fun r:gF=>r.1.1) a.rows (e,partsOf p):=by
 have Vq: ∀x,a'.row x=if x=e then some p else a.row x:=fun x=>by rw [hr];rfl
 refine nA (k:=fun r:gF=>r.1.1) (hM a') (zU (hM a) fun y hy he=>?_) fun x=>?_
 ·obtain⟨py,ZV,_⟩:=(fv aT).1 hy;have aW:y.1≠e:=fun he=>by rw [he,hn] at ZV;cases ZV
  refine aW (HU iB (x:=y.1) (y:=e) (by rw [Vq,if_neg aW,ZV];rfl) (by rw [Vq,if_pos rfl];rfl) he)
 ·rw [yj,fv iB,fv aT,Vq];by_cases hx:x.1=e
  ·rw [if_pos hx];constructor
   ·rintro⟨q,hq,h2⟩;obtain rfl:=alm hq;exact .inl (amz hx h2)
   ·rintro(h | ⟨q,hq,_⟩)
    ·exact⟨p,rfl,by rw [h]⟩
    ·rw [hx,hn] at hq;cases hq
  ·rw [if_neg hx];constructor
   ·exact fun h=>.inr h
   ·rintro(h | h)
    ·exact absurd (by rw [h]) hx
    ·exact h
theorem LU {a a':WA} (aT:a.Ok) (iB:a'.Ok) {e:bw} {q:Nat} {r:gF} (hq:a.rows[q]? =some r) (yy:r.1=e) (hr:a'.row=aG a.row e none):a'.rows=a.rows.eraseIdx q:=by
 have Vq: ∀x,a'.row x=if x=e then none else a.row x:=fun x=>by rw [hr];rfl
 refine nA (k:=fun r:gF=>r.1.1) (hM a') (yk (hM a) q) fun x=>?_;rw [mem_erase (hM a) hq,fv iB,fv aT,Vq];obtain⟨pr,kU,zG⟩:=(fv aT).1 (ala hq);by_cases hx:x.1=e
 ·rw [if_pos hx];constructor
  ·rintro⟨_,h,_⟩;cases h
  ·rintro⟨⟨p,hp,h2⟩,aW⟩;refine absurd (amz (hx.trans yy.symm) ?_) aW;rw [hx,<-yy,kU] at hp;rw [h2,zG,alm hp]
 ·rw [if_neg hx];constructor
  ·exact fun h=>⟨h,fun he=>hx (by rw [he];exact yy)⟩
  ·exact fun h=>h.1
theorem ym {a a':WA} (aT:a.Ok) (iB:a'.Ok) {e:bw} {q:Nat} {r:gF} (hq:a.rows[q]? =some r) (yy:r.1=e) {p:PL} (hr:a'.row=aG a.row e (some p)):a'.rows=a.rows.set q (e,partsOf p):=by
 have Vq: ∀x,a'.row x=if x=e then some p else a.row x:=fun x=>by rw [hr];rfl
 refine nA (k:=fun r:gF=>r.1.1) (hM a') (CT (hM a) hq (by rw [yy])) fun x=>?_;rw [mem_set (hM a) hq,fv iB,fv aT,Vq];obtain⟨pr,kU,zG⟩:=(fv aT).1 (ala hq);by_cases hx:x.1=e
 ·rw [if_pos hx];constructor
  ·rintro⟨p',h,h2⟩;obtain rfl:=alm h;exact .inl (amz hx h2)
  ·rintro(h | ⟨⟨p',uv,h2⟩,aW⟩)
   ·exact⟨p,rfl,by rw [h]⟩
   ·refine absurd (amz (hx.trans yy.symm) ?_) aW;rw [hx,<-yy,kU] at uv;rw [h2,zG,alm uv]
 ·rw [if_neg hx];constructor
  ·exact fun h=>.inr ⟨h,fun he=>hx (by rw [he];exact yy)⟩
  ·rintro(h | h)
   ·exact absurd (by rw [h]) hx
   ·exact h.1
theorem sE {a:WA} (aT:a.Ok) {e:bw} (h: ∀r∈a.rows,r.1≠e):a.row e=none:=by
 cases hr:a.row e with
 | none=>rfl
 | some p=>exact absurd rfl (h (e,partsOf p) ((fv aT).2 ⟨p,hr,rfl⟩))
section
variable {S:List Nat} {w0 w:World} {ae:List aa}
theorem CX (h:Hp S w0 w ae) (i:Nat) {b:Nat} {a:WA} (hi:(ae[i]?).map aa.holds=some (fE b a).holds) {e:bw} {K:Int->World->Prop}
  (tK: ∀(q:Nat) (r:gF) (w':World),a.rows[q]? =some r->r.1=e->Hp S w0 w' ae->K q w') (dz: ∀w',(∀r∈a.rows,r.1≠e)->Hp S w0 w' ae->K (-1) w'):R7 (some ⟨b,0,none⟩) e.1 e.2 w K:=by
 refine T4 ?_;unfold f72;obtain⟨q,xs,hf,fx,h1⟩:=A0 h i hi;have ig:=jT hf.1;have eT:xs.length=a.all.length:=by
  have:=congrArg List.length fx;rw [alr] at this;unfold WA.rows at this;rw [alr] at this;exact this
 have hLl:=h1.dR (u:=j5 q.L xs) (s:=q.L) (l:=xs) (f:=Dp) (n:=3) 2 rfl (dP rfl);refine h1.nw (c:= [_,_]) fun eb w1 h1=>?_;have h1:Hp [] w w1 [(af b 73 q.cells).ro,(aD 177 q.p a.ar).ro,(j5 q.L xs).ro,af eb 33 [.int .i64 e.1,.int .i64 e.2]]:=h1;refine⟨fun t mm w'=> ∃k:Nat,t=k /\ k<=xs.length /\ mm=xs.length - k /\ (∀r∈a.rows.take k,r.1≠e) /\ Hp [] w w' [(af b 73 q.cells).ro,(aD 177 q.p a.ar).ro,(j5 q.L xs).ro,af eb 33 [.int .i64 e.1,.int .i64 e.2]],⟨xs.length,0,rfl,by omega,rfl,by simp,h1⟩,?_⟩;clear h1;rintro t mm w2 ⟨k,rfl,hk,rfl,bz,h1⟩;refine aS ?_;refine h1.ld (n:=2) (k:=.sl) (x:=q.L) 0 rfl rfl ?_;by_cases av:k < xs.length
 ·refine aL (by simp;omega) ?_;have hx:xs[k]? =some xs[k]:=by simp [av]
  have HQ:a.rows[k]? =some (Dq xs[k]):=by rw [<-fx,alc,hx];rfl
  have hrt:a.rows.take (k+1)=a.rows.take k++ [Dq xs[k]]:=by rw [amH,HQ];rfl
  generalize xs[k]=x at hx HQ hrt;refine h1.dr fun w3 h1=>?_;refine aS ?_;refine h1.ld (n:=2) (k:=.sl) (x:=q.L) 0 rfl rfl ?_;refine h1.uP 2 (u:=j5 q.L xs) rfl (dP rfl) (by omega) (by simpa using av) fun y hy=>?_;rw [ak7];refine h1.qL (k:=.i .i64) (v:=x.1.1) 2 (u:=j5 q.L xs) rfl (dP rfl) hy (fun _=>rfl) hx rfl ?_;refine h1.uQ (m:=1) (k:=.i .i64) (v:=x.1.2) 2 (u:=j5 q.L xs) rfl (dP rfl) hy (fun _=>rfl) hx rfl ?_;refine h1.bE (k:=.i .i64) (x:=e.1) 3 rfl rfl ?_;refine h1.ld (n:=1) (k:=.i .i64) (x:=e.2) 3 rfl rfl ?_;refine FT.zo ?_;by_cases he:x.1=e
  ·refine aL (by rw [<-he];simp) (tK k (Dq x) w3 HQ he (h.cn h1.fr))
  ·refine aJ (fun hh=>he ?_) ⟨xs.length - (k+1),by omega,k+1,by rw [aI (by omega) (by omega)];omega,by omega,rfl,fun r hr=>?_,h1⟩
   ·simp only [alD,beq_iff_eq] at hh;exact amz hh.1 hh.2
   ·rw [hrt] at hr
    rcases alg.1 hr with hr | hr
    ·exact bz r hr
    ·simp only [ali] at hr;subst hr;exact he
 ·refine aJ (by simp;omega) (dz w2 ?_ (h.cn h1.fr));have EK:a.rows.length=xs.length:=by rw [<-fx,alr]
  rw [aln (by omega)] at bz;exact bz
set_option maxHeartbeats 4000000 in
theorem CY (h:Hp S w0 w ae) (i j k:Nat) (aW: [i,j,k].Nodup) {b:Nat} {q:RH} {rows:List gF} {P:Sl} {parts:List Part} {e:bw} (hi:ae[i]? =some (af b 73 q.cells)) (hj:ae[j]? =some (bF q.L rows)) (hk:ae[k]? =some (aN P parts)) (hl:rows.length<=1000000) {K:World->Prop}
  (hK: ∀s w',Hp S w0 w' (((ae.set i (af b 73 ({ q with L:=s}:RH).cells)).set j (bF s (kR (fun r:gF=>r.1.1) rows (e,parts)))).set k ao)->K w'):Si (some ⟨b,0,none⟩) e.1 e.2 P w K:=by
 refine Oh ?_;unfold f134;obtain⟨inf,i1,i2,i3,i4⟩:=CB;obtain⟨O,h1,back⟩:=h.f3 aW hi hj hk rfl rfl rfl;clear h;obtain⟨xs,rfl,h⟩:=h1.du (i:=1) rfl;clear h1;rw [alr] at hl;have fB:=h.len (s:=q.L) (l:=xs) (e:=75) (n:=3) (f:=rdv) 1 rfl;have Mz:=h.cap (s:=q.L) (l:=xs) (e:=75) (n:=3) (f:=rdv) 1 rfl;refine h.nw (c:= [_,_,_]) fun rb w1 h=>?_;have h:=h.nil 75 3 rdv;have h:Hp O w w1 [af b 73 q.cells,aj q.L 75 3 rdv xs,aN P parts,ak (xs.map gA),af rb 75 [.int .i64 e.1,.int .i64 e.2,.slice P.a P.len P.cap],aj ⟨none,0,0⟩ 75 3 rdv []]:=h;refine⟨fun out t w'=> ∃k:Nat,t=k /\ k<=xs.length /\ (∀y∈xs.take k,y.1.1 < e.1) /\ (∀y,xs[k]? =some y-> ¬y.1.1 < e.1) /\ Hp O w w' [af b 73 q.cells,aj q.L 75 3 rdv xs,aN P parts,ak (xs.map gA),af rb 75 [.int .i64 e.1,.int .i64 e.2,.slice P.a P.len P.cap],aj out 75 3 rdv (xs.take k)],?_,?_⟩
 ·refine⟨fun out t mm w'=> ∃k:Nat,t=k /\ k<=xs.length /\ mm=xs.length - k /\ (∀y∈xs.take k,y.1.1 < e.1) /\ Hp O w w' [af b 73 q.cells,aj q.L 75 3 rdv xs,aN P parts,ak (xs.map gA),af rb 75 [.int .i64 e.1,.int .i64 e.2,.slice P.a P.len P.cap],aj out 75 3 rdv (xs.take k)],⟨xs.length,0,rfl,by omega,rfl,by simp,h⟩,?_⟩;clear h;rintro out t mm w2 ⟨k,rfl,hk,rfl,bz,h⟩;have lq:=h.len (s:=out) (l:=xs.take k) (e:=75) (n:=3) (f:=rdv) 5 rfl;rw [alv] at lq;refine⟨fun w'=>k < xs.length /\ (∀y,xs[k]? =some y->y.1.1 < e.1) /\ Hp O w w' [af b 73 q.cells,aj q.L 75 3 rdv xs,aN P parts,ak (xs.map gA),af rb 75 [.int .i64 e.1,.int .i64 e.2,.slice P.a P.len P.cap],aj out 75 3 rdv (xs.take k)],?_,?_⟩
  ·refine h.dr fun w3 h=>aS (h.ld (n:=2) (k:=.sl) (x:=q.L) 0 rfl rfl ?_);by_cases av:k < xs.length
   ·refine aL (by simp;omega) (aS (h.ld (n:=2) (k:=.sl) (x:=q.L) 0 rfl rfl ?_));have hx:xs[k]? =some xs[k]:=by simp [av]
    generalize xs[k]=x at hx;refine h.rf (s:=q.L) (l:=xs) (f:=rdv) (n:=3) (e:=75) 1 rfl (by omega) (by rw [ak7];exact hx) cc fun ad hc=>?_;refine dG (k:=.i .i64) (x:=x.1.1) (hc 0 (by omega)) rfl ?_;refine h.bE (k:=.i .i64) (x:=e.1) 4 rfl rfl ?_;by_cases CW:x.1.1 < e.1
    ·exact aL (by simpa using CW) ⟨av,fun y hy=>by rw [hx] at hy;obtain rfl:=alm hy;exact CW,h⟩
    ·exact aJ (by simpa using CW) ⟨k,rfl,hk,bz,fun y hy=>by rw [hx] at hy;obtain rfl:=alm hy;exact CW,h⟩
   ·exact aJ (by simp;omega) ⟨k,rfl,hk,bz,fun y hy=>by have:=(ak6.1 hy).1;omega,h⟩
  clear h;rintro w3 ⟨av,CW,h⟩;have hx:xs[k]? =some xs[k]:=by simp [av]
  have dU:xs.take (k+1)=xs.take k++ [xs[k]]:=alp av;generalize xs[k]=x at hx dU;have CW:=CW x hx;refine aS (h.ld (n:=2) (k:=.sl) (x:=q.L) 0 rfl rfl ?_);refine h.rf (s:=q.L) (l:=xs) (f:=rdv) (n:=3) (e:=75) 1 rfl (by omega) (by rw [ak7];exact hx) cc fun ad hc=>?_;refine dG (k:=.i .i64) (x:=x.1.1) (hc 0 (by omega)) rfl ?_;refine jB (k:=.i .i64) (x:=x.1.2) (hc 1 (by omega)) rfl ?_;refine jB (k:=.sl) (x:=x.2.1) (hc 2 (by omega)) rfl ?_;refine h.cj 5 x (c:= [_,_,_]) rfl cc vc i1 i3 i2 rfl rfl (by simp [rdv,Value.oneCell']) (by rw [i4];omega) (by omega) fun bR w4 h _ _=>?_;refine⟨xs.length - (k+1),by omega,k+1,by rw [aI (by omega) (by omega)];omega,by omega,rfl,fun y hy=>?_,?_⟩
  ·rw [dU] at hy
   rcases alg.1 hy with hy | hy
   ·exact bz y hy
   ·simp only [ali] at hy;subst hy;exact CW
  ·rw [dU];exact h
 clear h;rintro out t w2 ⟨k,rfl,hk,bz,LR,h⟩;have lq:=h.len (s:=out) (l:=xs.take k) (e:=75) (n:=3) (f:=rdv) 5 rfl;rw [alv] at lq;refine h.bE (k:=.i .i64) (x:=e.1) 4 rfl rfl ?_;refine h.ld (n:=1) (k:=.i .i64) (x:=e.2) 4 rfl rfl ?_;refine h.ld (n:=2) (k:=.sl) (x:=P) 4 rfl rfl ?_;refine h.cj 5 ((e,P,parts):RV) (c:= [_,_,_]) rfl cc vc i1 i3 i2 rfl rfl (by simp [rdv,Value.oneCell']) (by rw [i4];omega) (by omega) fun qI w5 h ho4 _=>?_;have h:Hp O w w5 [af b 73 q.cells,aj q.L 75 3 rdv xs,aN P parts,ak (xs.map gA),af rb 75 [.int .i64 e.1,.int .i64 e.2,.slice P.a P.len P.cap],aj qI 75 3 rdv (xs.take k++ [(e,P,parts)])]:=h;refine aS (h.ld (n:=2) (k:=.sl) (x:=q.L) 0 rfl rfl ?_);refine Hp.nU (s:=q.L) (u:=aj q.L 75 3 rdv xs) Hp.bZ fB cc (by omega) (by omega) (by omega) (al4 _) (by omega) fun s5 F5 E8 Y8=>?_;have e1:(xs.take ((q.L.len:Nat):Int).toNat).drop ((k:Nat):Int).toNat=xs.drop k:=by rw [ak7,ak7,aln (by omega)]
 rw [e1] at F5;rw [ak7,ak7] at E8;refine h.gq 5 1 (s:=qI) (s2:=s5) (u:=aj q.L 75 3 rdv xs) rfl rfl F5 cc vc i1 i3 i2 rfl (by simp [rdv,Value.oneCell']) (by rw [i4];omega) (by omega) fun s6 w6 h _ _=>?_;refine aS (h.st (n:=2) 0 rfl (by simp) rfl fun w7 h=>?_);have h:Hp O w w7 [af b 73 ({ q with L:=s6}:RH).cells,aj q.L 75 3 rdv xs,aN P parts,ak (xs.map gA),af rb 75 [.int .i64 e.1,.int .i64 e.2,.slice P.a P.len P.cap],aj s6 75 3 rdv (xs.take k++ [(e,P,parts)]++xs.drop k)]:=h;rw [ale] at h;have h:=h.LP (i:=3) (j:=2) (by decide) (t:=gA (e,P,parts)) k rfl rfl rfl;have e2:(xs.map gA).take k++gA (e,P,parts) :: (xs.map gA).drop k=(xs.take k++(e,P,parts) :: xs.drop k).map gA:=by
  rw [alW,alR,anM,List.map_drop]
 have e3:kR (fun r:gF=>r.1.1) (xs.map dX) (e,parts)=(xs.take k++(e,P,parts) :: xs.drop k).map dX:=by
  rw [zW (fun r:gF=>r.1.1) (i:=k) (by rw [alr];omega) (fun y hy=>by
   rw [<-anM] at hy;obtain⟨x,hx,rfl⟩:=alu.1 hy;exact bz x hx) (fun y hy=>by
   rw [alc] at hy;obtain⟨x,hx,rfl⟩:=alH.1 hy;exact LR x hx),alW,alR,anM,List.map_drop]
  rfl
 rw [e2] at h;have h:=h.dv (i:=5) (j:=3) (s:=s6) (cells:=rdv) (sub:=gA) (vis:=dX) (l:=kR (fun r:gF=>r.1.1) (xs.map dX) (e,parts)) (by omega) rfl rfl e3.symm;have h:Hp O w w7 [af b 73 ({ q with L:=s6}:RH).cells,aj q.L 75 3 rdv xs,ao,ao,af rb 75 [.int .i64 e.1,.int .i64 e.2,.slice P.a P.len P.cap],bF s6 (kR (fun r:gF=>r.1.1) (xs.map dX) (e,parts))]:=h;have h:=h.XG 0 5 2 (by decide) rfl rfl rfl;have:=back (rest:= []) rfl rfl rfl rfl h;rw [alh] at this;exact hK s6 w7 this
end
theorem mE {α β:Type} (f:α->β): ∀(l:List α) (q:Nat),(l.map f).eraseIdx q=(l.eraseIdx q).map f
 | [],_=>rfl
 | a :: l,0=>rfl
 | a :: l,q+1=>by rw [alR,anq,anq,alR,mE f l q]
theorem kS {p:PL} {i:Nat}:(∃(q:Nat) (x:Part),(partsOf p)[q]? =some x /\ x.1=((i+1:Nat):Int))↔(p.getD i none).isSome=true:=by
 constructor
 ·rintro⟨q,x,hx,he⟩;obtain⟨j,h1,h2⟩:=fy.1 (ala hx);obtain rfl:j=i:=by omega
  rw [alk,h2];rfl
 ·intro h;obtain⟨v,hv⟩:=amv.1 h;have hv:=getD_some hv;obtain⟨q,hq⟩:=aly (fy.2 ⟨i,rfl,hv⟩:(((i+1:Nat):Int),v)∈partsOf p);exact⟨q,_,hq,rfl⟩
theorem Fc {a:WA} (hf:a.fits) (ps:List Part) (ER: ∀x∈ps,FP.eW x.2):(a.spawn ps).1.fits:=by
 refine⟨WA.xU hf.1 ps ER,?_⟩;unfold WA.spawn
 split
 ·exact hf.2
 ·split
  ·exact hf.2
  ·intro x p hx;have hx:aG a.row a.ar.bG.2.1 (some (aY a.ks ps a.emp).1) x=some p:=hx;unfold aG at hx
   split at hx
   ·obtain rfl:=alm hx;exact su ps (vZ _)
   ·exact hf.2 x p hx
theorem A1 {a:WA} (hf:a.fits) (e:bw):(a.da e).1.fits:=by
 refine⟨WA.xQ hf.1 e,?_⟩;unfold WA.da
 split
 ·intro x p hx;have hx:aG a.row e none x=some p:=hx;unfold aG at hx
  split at hx
  ·cases hx
  ·exact hf.2 x p hx
 ·exact hf.2
section
variable {S:List Nat} {w0 w:World} {ae:List aa}
set_option maxHeartbeats 4000000 in
theorem LV (h:Hp S w0 w ae) (i:Nat) {b:Nat} {a:WA} (hi:ae[i]? =some (fE b a)) {s:Sl} {ps:List Part} (hr:ri w s ps) (ER: ∀x∈ps,-9223372036854775808<=x.1 /\ x.1<=9223372036854775807) (kU: ∀x∈ps,FP.eW x.2) (si:ps.length<=10000000) {K:Int->Int->Int->World->Prop}
  (hK: ∀w',Hp S w0 w' (ae.set i (fE b (a.spawn ps).1))->K (a.spawn ps).2.1.1 (a.spawn ps).2.1.2 (a.spawn ps).2.2 w'):c74 (some ⟨b,0,none⟩) s w K:=by
 refine T6 ?_;unfold f74;obtain⟨O,h1,back⟩:=h.f1 hi rfl;obtain⟨q,hf,h1⟩:=pU h1;have aed:=hf.1.len;have mJ:=hf.1.four;have eJ:=Fc hf ps kU;obtain⟨xs,OP,fx,hOP⟩:=hr.Gp;have g1:=(h1.ro2 (i:=0) (j:=1) (t:=af b 73 q.cells) (u:=aK q.K a.ks) rfl rfl).dC hOP (by simp);have g1:Hp [] w w [(af b 73 q.cells).ro,(aK q.K a.ks).ro,(fJ s xs).ro]:=g1;have hu:(fJ s xs).ro.holds=(fJ s xs).holds:=rfl;have fB:=g1.dR 2 (u:=(fJ s xs).ro) rfl (cl hu);have ja:xs.length=ps.length:=by rw [<-fx,alr]
 -- a refusal
 have same: ∀{w':World} {ts:List aa} {err:Int},Hp [] w w' ts->a.spawn ps=(a,(0,0),err)->K 0 0 err w':=fun{w' ts err} g hs=>by
  rw [hs] at hK;have:=hK w' (by rw [Hp.bN hi];exact h.cn g.fr);exact this
 refine g1.nw (c:= [_,_]) fun ab w1 g=>?_;have g:=g.gN 36 2 ck tV bq;have g:Hp [] w w1 [(af b 73 q.cells).ro,(aK q.K a.ks).ro,(fJ s xs).ro,af ab 33 [.int .i64 0,.int .i64 0],aN ⟨none,0,0⟩ (partsOf a.emp)]:=by
  have:partsOf a.emp= []:=by unfold WA.emp partsOf;rw [yi]
  rw [this];exact g
 clear g1;refine⟨fun all t mm w'=> ∃(k:Nat) (p:PL),t=k /\ k<=xs.length /\ mm=xs.length - k /\ p.fit a.ks /\ aY a.ks (ps.drop k) p=aY a.ks ps a.emp /\
   Hp [] w w' [(af b 73 q.cells).ro,(aK q.K a.ks).ro,(fJ s xs).ro,af ab 33 [.int .i64 0,.int .i64 0],aN all (partsOf p)],⟨xs.length,0,a.emp,rfl,by omega,rfl,vZ _,rfl,g⟩,?_⟩
 clear g;rintro all t mm w2 ⟨k,p,rfl,hk,rfl,aZ,dM,g⟩;by_cases av:k < xs.length
 ·refine aL (by simp;omega) ?_;have hx:xs[k]? =some xs[k]:=by simp [av]
  have wE:ps[k]? =some (bq xs[k]):=by rw [<-fx,alc,hx];rfl
  have fI:xs[k]∈xs:=alz av;generalize xs[k]=x at hx wE fI;obtain⟨kd,sv,v⟩:=x;have wE:ps[k]? =some (kd,v):=wE;have vD:=ER _ (ala wE);dsimp only at vD;have Cf:ps.drop k=(kd,v) :: ps.drop (k+1):=by
   have hl:=(ak6.1 wE).1;have he:=(ak6.1 wE).2;rw [<-he];exact al0 hl
  rw [Cf] at dM;have bad: ∀{w6:World} {err:Int} {ts:List aa},err≠0->(aY a.ks ps a.emp).2=err->Hp [] w w6 ts->ts[3]? =some (af ab 33 [.int .i64 0,.int .i64 0])->
    (St ⟨ab,0,none⟩ (.int .i64 0) w6 fun w=>St ((⟨ab,0,none⟩:Addr).add 1) (.int .i64 0) w fun w=>Ld (.i .i64) w ⟨ab,0,none⟩ fun(cT:Int)=>Ld (.i .i64) w ((⟨ab,0,none⟩:Addr).add 1) fun(fG:Int)=>K cT fG err w):=by
   intro w6 err ts aW Q8 g h3;have Yi:=(ak6.1 h3).1;refine g.gz 3 h3 (by simp) rfl fun w7 g=>?_;refine g.st (n:=1) 3 (by rw [alx Yi]) (by simp) rfl fun w8 g=>?_;refine g.bE (k:=.i .i64) (x:=(0:Int)) 3 (by rw [alx (by simpa using Yi)];rfl) rfl ?_;refine g.ld (n:=1) (k:=.i .i64) (x:=(0:Int)) 3 (by rw [alx (by simpa using Yi)];rfl) rfl ?_;exact same g (by unfold WA.spawn;rw [if_pos (by rw [Q8];exact aW),Q8])
  have qL: ∀{w':World} {ts:List aa} {K':Int->Prop},Hp [] w w' ts->ts[2]? =some (fJ s xs).ro->K' kd->Ix s.a s.len (k:Int) 2 fun a=>Ld (.i .i64) w' a K':=fun{w' ts K'} g h2 hk=>by
   refine g.uP 2 (u:=(fJ s xs).ro) (by rw [h2];rfl) (cl hu) (by omega) (by simpa using av) fun y hy=>?_;rw [ak7];exact g.qL (k:=.i .i64) (v:=kd) 2 (u:=(fJ s xs).ro) (by rw [h2];rfl) (cl hu) hy aR hx rfl hk
  refine qL g rfl ?_;refine sD g 0 1 (q:=q) (ks:=a.ks) rfl rfl (by omega) vD.1 vD.2 ?_
  cases dh:fl a.ks kd with
  | none=>
   dsimp only;refine aL (by simp) (bad (by decide) ?_ g rfl);rw [<-dM];unfold aY;dsimp only;rw [dh]
  | some n=>
   dsimp only;refine aJ (by simp) ?_;obtain⟨r,kk,rfl,nt,zr⟩:=xS dh;have eT:r < p.length:=by rw [aZ.1];exact(ak6.1 nt).1
   have er:((((r+1:Nat):Int)) - 1).toNat=r:=by omega
   refine qL g rfl ?_;have Be:ri w2 all (partsOf p):=by
    obtain⟨O',gD⟩:=g.kY (i:=4) rfl;exact ue gD
   have P9:=kI p p.length;have ajh:(partsOf p).length<=12:=by unfold partsOf;rw [aZ.1] at P9 ⊢;omega
   refine find_spec Be (by omega) (fun z x' hz he=>?_) (fun dz=>?_)
   ·refine aL (by simp) (bad (by decide) ?_ g rfl);have hh:=kS.1 ⟨z,x',hz,he⟩;rw [<-dM];unfold aY;dsimp only;rw [dh];dsimp only;rw [er,if_pos hh]
   ·refine aJ (by simp) ?_;have hh: ¬(p.getD r none).isSome=true:=fun hh=>by
     obtain⟨z,x',hz,he⟩:=kS.2 hh;exact dz x' (ala hz) he
    have gJ:=g.dR 2 (u:=(fJ s xs).ro) rfl (mC hu fI);dsimp only at gJ;refine g.uP 2 (u:=(fJ s xs).ro) rfl (cl hu) (by omega) (by simpa using av) fun y hy=>?_;rw [ak7];refine g.uQ (m:=1) (k:=.sl) (v:=sv) 2 (u:=(fJ s xs).ro) rfl (cl hu) hy aR hx rfl ?_;by_cases hn:v.length=n
    ·refine aJ (by simp;omega) ?_;have Gg:=mJ _ (ala nt);refine g.uP 2 (u:=(fJ s xs).ro) rfl (cl hu) (by omega) (by simpa using av) fun y hy=>?_;rw [ak7];refine g.qL (k:=.i .i64) (v:=((r+1:Nat):Int)) 2 (u:=(fJ s xs).ro) rfl (cl hu) hy aR hx rfl ?_;refine g.uQ (m:=1) (k:=.sl) (v:=sv) 2 (u:=(fJ s xs).ro) rfl (cl hu) hy aR hx rfl ?_;have qv: ∃o,bO w2 sv 1 iv v o:=by
      obtain⟨O',gD⟩:=g.kY (i:=2) rfl;exact(mC hu fI).rd gD
     refine zX g 4 (l:=partsOf p) rfl qv (by omega) (by omega) fun Xz w3 g=>?_;have Vr:p.getD r none=none:=by simpa using hh
     rw [<-zV eT Vr v] at g;refine⟨xs.length - (k+1),by omega,k+1,p.set r (some v),by rw [aI (by omega) (by omega)];omega,by omega,rfl,aZ.set nt (by rw [zr];exact hn),?_,g⟩;rw [<-dM]
     conv=>rhs;unfold aY
     dsimp only;rw [dh];dsimp only;rw [er,if_neg hh,if_neg (by simpa using hn)]
    ·refine aL (by simp;omega) (bad (by decide) ?_ g rfl);rw [<-dM];unfold aY;dsimp only;rw [dh];dsimp only;rw [er,if_neg hh,if_pos hn]
 ·refine aJ (by simp;omega) ?_;have dM:(p,(0:Int))=aY a.ks ps a.emp:=by
   rw [amb (by omega)] at dM;exact dM
  have g2:=g.Uz 3 4 (by decide) rfl rfl;have hh:=h1.r0 rfl g2;clear g g2;have hh:Hp O w w2 [af b 73 q.cells,aK q.K a.ks,aD 177 q.p a.ar,bF q.L a.rows,af ab 33 [.int .i64 0,.int .i64 0],aN all (partsOf p)]:=hh;refine aS ?_;refine hh.ld (n:=1) (k:=.p) (x:=some ⟨q.p,0,none⟩) 0 rfl rfl ?_;refine FI.P4 hh 2 (m:=a.ar) hf.1.qa rfl fun w3 hh=>?_;have Lh:(aY a.ks ps a.emp).2=0:=by rw [<-dM]
  have Li:(aY a.ks ps a.emp).1=p:=by rw [<-dM]
  refine hh.nw (c:= [_,_]) fun eb w4 hh=>?_;refine hh.gz 6 rfl (by simp) rfl fun w5 hh=>?_;refine hh.st (n:=1) 6 rfl (by simp) rfl fun w6 hh=>?_;have AN:a.spawn ps=if a.ar.bG.2.2≠0 then (a,(0,0),a.ar.bG.2.2) else (⟨a.ks,a.ar.bG.1,aG a.row a.ar.bG.2.1 (some p)⟩,a.ar.bG.2.1,0):=by
   unfold WA.spawn;rw [if_neg (by rw [Lh];simp),Li]
  by_cases hb:a.ar.bG.2.2=0
  ·rw [if_neg (by simpa using hb)] at AN;rw [AN] at hK eJ;dsimp only at hK eJ;obtain⟨Lj,_⟩:=ub hf.1 hb;have bg:=LS hf.1 eJ.1 Lj (p:=p) rfl;generalize a.ar.bG.2.1=e at hK Lj eJ hh bg ⊢;generalize a.ar.bG.1=nM at hK eJ hh bg ⊢;have hh:Hp O w w6 [af b 73 q.cells,aK q.K a.ks,aD 177 q.p nM,bF q.L a.rows,af ab 33 [.int .i64 0,.int .i64 0],aN all (partsOf p),af eb 33 [.int .i64 e.1,.int .i64 e.2]]:=hh;refine aJ (by rw [hb];simp) ?_;refine hh.bE (k:=.i .i64) (x:=e.1) 6 rfl rfl ?_;refine hh.ld (n:=1) (k:=.i .i64) (x:=e.2) 6 rfl rfl ?_;have ig:a.rows.length<=200:=by unfold WA.rows;rw [alr];exact jT hf.1
   refine CY hh 0 3 5 (by decide) (q:=q) rfl rfl rfl (by omega) fun L2 w7 hh=>?_;rw [<-bg] at hh;have hh:Hp O w w7 [af b 73 ({ q with L:=L2}:RH).cells,aK q.K a.ks,aD 177 q.p nM,bF L2 (⟨a.ks,nM,aG a.row e (some p)⟩:WA).rows,af ab 33 [.int .i64 0,.int .i64 0],ao,af eb 33 [.int .i64 e.1,.int .i64 e.2]]:=hh;refine hh.bE (k:=.i .i64) (x:=e.1) 6 rfl rfl ?_;refine hh.ld (n:=1) (k:=.i .i64) (x:=e.2) 6 rfl rfl ?_;refine hh.gz 4 rfl (by simp) rfl fun w8 hh=>?_;refine hh.st (n:=1) 4 rfl (by simp) rfl fun w9 hh=>?_;refine hh.bE (k:=.i .i64) (x:=e.1) 4 rfl rfl ?_;refine hh.ld (n:=1) (k:=.i .i64) (x:=e.2) 4 rfl rfl ?_;have hs:=jS (b:=b) (a:=⟨a.ks,nM,aG a.row e (some p)⟩) { q with L:=L2} (rest:= []) eJ (hh.trim 4);have:=back (rest:= []) rfl rfl hs;rw [alh] at this;exact hK w9 this
  ·rw [if_pos hb] at AN;rw [AN] at hK;dsimp only at hK;refine aL (by simpa using hb) ?_;refine hh.gz 4 rfl (by simp) rfl fun w7 hh=>?_;refine hh.st (n:=1) 4 rfl (by simp) rfl fun w8 hh=>?_;refine hh.bE (k:=.i .i64) (x:=(0:Int)) 4 rfl rfl ?_;refine hh.ld (n:=1) (k:=.i .i64) (x:=(0:Int)) 4 rfl rfl ?_;have dU:=(oV hf.1.qa).1 hb;rw [dU] at hh;have hs:=jS (b:=b) (a:=a) q (rest:= []) hf (hh.trim 4);have:=back (rest:= []) rfl rfl hs;rw [alh] at this;exact hK w8 this
set_option maxHeartbeats 4000000 in
theorem Fe (h:Hp S w0 w ae) (i:Nat) {b:Nat} {a:WA} (hi:ae[i]? =some (fE b a)) {e:bw} {K:Int->World->Prop}
  (hK: ∀w',Hp S w0 w' (ae.set i (fE b (a.da e).1))->K (a.da e).2 w'):c22 (some ⟨b,0,none⟩) e.1 e.2 w K:=by
 refine S1 ?_;unfold f22;obtain⟨inf,i1,i2,i3,i4⟩:=CB;have jD:=(ak6.1 hi).1;refine h.nw (c:= [_,_]) fun eb w1 h=>?_;refine h.bE (k:=.i .i64) (x:=e.1) ae.length (by rw [alw];rfl) rfl ?_;refine h.ld (n:=1) (k:=.i .i64) (x:=e.2) ae.length (by rw [alw];rfl) rfl ?_;have sN:(ae++ [af eb 33 [.int .i64 e.1,.int .i64 e.2]])[i]? =some (fE b a):=by rw [ak9 jD];exact hi
 have aZ:a.fits:=by
  obtain⟨O,hO⟩:=h.kY sN;obtain⟨q,hq,_⟩:=hO;exact hq
 refine CX h i (b:=b) (a:=a) (by rw [sN];rfl) (fun q r w2 hq yy h=>?_) (fun w2 bz h=>?_)
 case refine_2=>
  have hn:=sE aZ.1 bz;have hd:a.da e=(a,41):=by
   unfold WA.da;rw [if_neg];rw [<-aZ.1.Dl e,hn];simp
  rw [hd] at hK;exact aL (by simp) (hK w2 (by rw [Hp.bN hi];exact h.front))
 have e9:(a.row e).isSome=true:=by
  obtain⟨p,hp,_⟩:=(fv aZ.1).1 (ala hq);rw [<-yy,hp];rfl
 have sW:a.ar.is e.1 e.2=true:=by rw [<-aZ.1.Dl e];exact e9
 have hd:a.da e=(⟨a.ks,a.ar.dN e.1 e.2,aG a.row e none⟩,0):=by unfold WA.da;rw [if_pos sW]
 have eJ:=A1 aZ e;rw [hd] at hK eJ;dsimp only at hK eJ;have bg:=LU aZ.1 eJ.1 hq yy rfl;refine aJ (by simp) ?_;have YR:(ae++ [af eb 33 [.int .i64 e.1,.int .i64 e.2]])[ae.length]? =some (af eb 33 [.int .i64 e.1,.int .i64 e.2]):=alw;obtain⟨O,h1,back⟩:=h.f2 (i:=i) (i':=ae.length) (by omega) sN YR rfl rfl;clear h;obtain⟨qh,_,h⟩:=pU h1;clear h1;have ig:a.rows.length<=200:=by unfold WA.rows;rw [alr];exact jT aZ.1
 have E4:=(ak6.1 hq).1;refine h.dr fun w3 h=>aS (h.ld (n:=1) (k:=.p) (x:=some ⟨qh.p,0,none⟩) 0 rfl rfl ?_);refine h.bE (k:=.i .i64) (x:=e.1) 4 rfl rfl ?_;refine h.ld (n:=1) (k:=.i .i64) (x:=e.2) 4 rfl rfl ?_;refine FI.P5 h 2 (m:=a.ar) aZ.1.qa rfl fun w4 h=>?_;have hg:a.ar.mi e.1 e.2=(a.ar.dN e.1 e.2,0):=by unfold ai.mi;rw [if_pos sW]
 rw [hg] at h;obtain⟨xs,fx,h⟩:=h.du (i:=3) (e:=75) (n:=3) (cells:=rdv) (sub:=gA) (vis:=dX) (s:=qh.L) (l:=a.rows) rfl;have h:=h.nil 75 3 rdv;have h:Hp O w2 w4 [af b 73 qh.cells,aK qh.K a.ks,aD 177 qh.p (a.ar.dN e.1 e.2),aj qh.L 75 3 rdv xs,af eb 33 [.int .i64 e.1,.int .i64 e.2],ak (xs.map gA),aj ⟨none,0,0⟩ 75 3 rdv []]:=h;have fB:=h.len (s:=qh.L) (l:=xs) (e:=75) (n:=3) (f:=rdv) 3 rfl;have Mz:=h.cap (s:=qh.L) (l:=xs) (e:=75) (n:=3) (f:=rdv) 3 rfl;have ja:xs.length=a.rows.length:=by rw [<-fx,alr]
 refine aS (h.ld (n:=2) (k:=.sl) (x:=qh.L) 0 rfl rfl ?_);refine Hp.nU (s:=qh.L) (u:=aj qh.L 75 3 rdv xs) Hp.bZ fB cc (by omega) (by omega) (by omega) (al4 _) (by omega) fun s5 F5 E8 Y8=>?_;have e1:(xs.take ((q:Nat):Int).toNat).drop (0:Int).toNat=xs.take q:=by rw [ak7];rfl
 rw [e1] at F5;rw [ak7] at E8;refine h.gq 6 3 (s:=⟨none,0,0⟩) (s2:=s5) (u:=aj qh.L 75 3 rdv xs) rfl rfl F5 cc vc i1 i3 i2 rfl (by simp [rdv,Value.oneCell']) (by rw [i4,E8];simp;omega) (by rw [E8];simp;omega) fun s6 w5 h hl6 _=>?_;have h:Hp O w2 w5 [af b 73 qh.cells,aK qh.K a.ks,aD 177 qh.p (a.ar.dN e.1 e.2),aj qh.L 75 3 rdv xs,af eb 33 [.int .i64 e.1,.int .i64 e.2],ak (xs.map gA),aj s6 75 3 rdv (xs.take q)]:=h;have aeK:=h.len (s:=s6) (l:=xs.take q) (e:=75) (n:=3) (f:=rdv) 6 rfl;rw [alv] at aeK;refine aS (h.ld (n:=2) (k:=.sl) (x:=qh.L) 0 rfl rfl ?_);have IY:i64.wrap ((q:Int)+1)=((q+1:Nat):Int):=by rw [aI (by omega) (by omega)];omega
 rw [IY];refine Hp.nU (s:=qh.L) (u:=aj qh.L 75 3 rdv xs) Hp.bZ fB cc (by omega) (by omega) (by omega) (al4 _) (by omega) fun s7 Ps Zc hc7=>?_;have e2:(xs.take ((qh.L.len:Nat):Int).toNat).drop ((q+1:Nat):Int).toNat=xs.drop (q+1):=by rw [ak7,ak7,aln (by omega)]
 rw [e2] at Ps;rw [ak7,ak7] at Zc;refine h.gq 6 3 (s:=s6) (s2:=s7) (u:=aj qh.L 75 3 rdv xs) rfl rfl Ps cc vc i1 i3 i2 rfl (by simp [rdv,Value.oneCell']) (by rw [i4];omega) (by omega) fun s8 w6 h _ _=>?_;refine aS (h.st (n:=2) 0 rfl (by simp) rfl fun w7 h=>?_);have e3:xs.take q++xs.drop (q+1)=xs.eraseIdx q:=(List.eraseIdx_eq_take_drop_succ xs q).symm;have h:Hp O w2 w7 [af b 73 ({ qh with L:=s8}:RH).cells,aK qh.K a.ks,aD 177 qh.p (a.ar.dN e.1 e.2),aj qh.L 75 3 rdv xs,af eb 33 [.int .i64 e.1,.int .i64 e.2],ak (xs.map gA),aj s8 75 3 rdv (xs.take q++xs.drop (q+1))]:=h;rw [e3] at h;have h:=h.LQ q (i:=5) rfl;have e4:(xs.map gA).eraseIdx q=(xs.eraseIdx q).map gA:=mE _ _ _;rw [e4] at h;have e5:(xs.eraseIdx q).map dX=(⟨a.ks,a.ar.dN e.1 e.2,aG a.row e none⟩:WA).rows:=by
  rw [bg,<-fx,mE]
 have h:=h.dv (i:=6) (j:=5) (s:=s8) (cells:=rdv) (sub:=gA) (vis:=dX) (by omega) rfl rfl e5;have h:Hp O w2 w7 [af b 73 ({ qh with L:=s8}:RH).cells,aK qh.K a.ks,aD 177 qh.p (a.ar.dN e.1 e.2),aj qh.L 75 3 rdv xs,af eb 33 [.int .i64 e.1,.int .i64 e.2],ao,bF s8 (⟨a.ks,a.ar.dN e.1 e.2,aG a.row e none⟩:WA).rows]:=h;have h:=h.Ap 0 1 2 6 4 (by decide) rfl rfl rfl rfl rfl;have hs:=jS (b:=b) (a:=⟨a.ks,a.ar.dN e.1 e.2,aG a.row e none⟩) { qh with L:=s8} (rest:= [af eb 33 [.int .i64 e.1,.int .i64 e.2]]) eJ h;have:=back (rest:= []) rfl rfl rfl hs;rw [alh] at this;have e6:((ae++ [af eb 33 [.int .i64 e.1,.int .i64 e.2]]).set i (fE b ⟨a.ks,a.ar.dN e.1 e.2,aG a.row e none⟩)).set ae.length (af eb 33 [.int .i64 e.1,.int .i64 e.2])=ae.set i (fE b ⟨a.ks,a.ar.dN e.1 e.2,aG a.row e none⟩)++ [af eb 33 [.int .i64 e.1,.int .i64 e.2]]:=by
  rw [amc _ _ jD];have hl:(ae.set i (fE b ⟨a.ks,a.ar.dN e.1 e.2,aG a.row e none⟩)).length=ae.length:=alV;rw [<-hl,alj _ _ (alA _),alK,alq]
 rw [e6] at this;exact hK w7 this.front
end
end Go.Proofs.YtcccjgmekakabaaGreat.FW
end

section
namespace Go.Proofs.YtcccjgmekakabaaGreat.FW
open F
open Go Go.Den Go.Proofs
open FI (ai aD)
open FT
section
variable {S:List Nat} {w0 w:World} {ae:List aa}
set_option maxHeartbeats 4000000 in
theorem A2 {O:List Nat} {s v:Sl} {l xs:List Int} {u:aa} (ho:u.own=true) (hu: ∀{w:World} {O:List Nat},u.holds w O->cq w v 2 1 iv xs O) (h1:Hp O w w [aj s 2 1 iv l,u]) {p:Nat} (hp:p<=l.length) (hl:l.length+xs.length<=1000000) {K:Sl->World->Prop}
  (hK: ∀s' w',Hp O w w' [aj s' 2 1 iv (l.take p++xs++l.drop p),u]->K s' w'):f56 s (p:Int) v w K:=by
 unfold f56;obtain⟨inf,q1,q2,q3,q4⟩:=ku;have fB:=h1.len (s:=s) 0 rfl;have hR:Hp.Reads u v 1 iv xs:=⟨fun h=>⟨_,cq.toR (hu h)⟩⟩;have gJ:=h1.dR (u:=u) 1 rfl hR;have Mz:=h1.cap (s:=s) 0 rfl;have hww:i64.wrap ((s.len:Int)+(v.len:Int))=((s.len+v.len:Nat):Int):=by rw [aI (by omega) (by omega)];omega
 refine⟨by omega,by omega,by omega,al4 _,?_⟩;by_cases hm:v.len=0
 ·refine aL (by simp [hm]) ?_;have:xs= []:=alL (by omega);subst this;exact hK s w (by rw [alh,amg];exact h1)
 refine aJ (by simpa using hm) ?_;by_cases hpn:p=s.len
 ·refine aL (by simp [hpn]) ?_;refine h1.gq 0 1 rfl rfl hR aB eS q1 q3 q2 rfl (by simp [iv,Value.oneCell']) (by rw [q4];omega) (by omega) fun s' w' h1 _ _=>?_;refine hK s' w' ?_;rw [aln (by omega),amb (by omega),alh];exact h1
 refine aJ (by simp;omega) ?_;rw [hww]
 -- what lies where
 obtain⟨fk,F,g1,g2⟩:=id h1;obtain⟨hS,-,-⟩:=g1 0 _ rfl;obtain⟨hV,-,-⟩:=g1 1 _ rfl;have hV:=hu hV;have JT:=g2 0 1 _ _ rfl rfl (by decide) rfl ho;obtain⟨bv,ov,cv,Ke,hov,Pa,hcv,Kf,Kg⟩: ∃b off c,v.a=some ⟨b,off,none⟩ /\ F 1= [b] /\ fF w b 2 c /\ v.len<=v.cap /\ off+v.cap*1<=c.length /\ (c.drop off).take (v.len*1)=xs.flatMap iv:=by
  rcases hV.2 with ⟨_,h0,_⟩ | h
  ·omega
  ·exact h
 obtain⟨b,off,c,Ay,hos,ke,_,fm,dU⟩: ∃b off c,s.a=some ⟨b,off,none⟩ /\ F 0= [b] /\ fF w b 2 c /\ s.len<=s.cap /\ off+s.cap*1<=c.length /\ (c.drop off).take (s.len*1)=l.flatMap iv:=by
  rcases hS.2 with ⟨_,h0,_⟩ | h
  ·omega
  ·exact h
 have Kh:b≠bv:=fun e=>JT b (by rw [hos];simp) (by rw [hov];simp [e]);rw [amf] at fm Kf dU Kg;have Az:(xs.flatMap iv).length=v.len:=by rw [qO];omega
 have B2: ∀{w':World},fF w' bv 2 cv-> ∀j u,(xs.flatMap iv)[j]? =some u->w'.cell? ((⟨bv,ov,none⟩:Addr).add j)=some u:=fun{w'} hb j u hj=>by
  rw [Addr.aU,hb.cell];rw [<-Kg,alU] at hj
  split at hj
  ·rw [alZ] at hj;exact hj
  ·cases hj
 have yL:((l.take p).flatMap iv).length=p:=by rw [qO,alv];omega
 have B3:((l.drop p).flatMap iv).length=s.len - p:=by rw [qO,alT];omega
 have XY:l.flatMap iv=(l.take p).flatMap iv++(l.drop p).flatMap iv:=by rw [<-alJ,amg]
 by_cases hg:s.cap < s.len+v.len
 ·refine aL (by simp;omega) ?_;refine cq.cut aB hS (by omega) (by omega) (by omega) (al4 _) (by omega) fun s4 Hd hl4 XZ _=>?_;have ew:i64.wrap (((s.len+v.len:Nat):Int) - (p:Int))=((s.len+v.len - p:Nat):Int):=by rw [aI (by omega) (by omega)];omega
  rw [ew];have e4:((l.take ((p:Nat):Int).toNat).drop (0:Int).toNat)=l.take p:=by rw [ak7];rfl
  rw [e4] at Hd;have adj:s4.len=p:=by rw [hl4];simp
  have adk:s4.cap=s.cap:=by rw [XZ];simp
  refine cq.QJ (x0:=(0:Int)) (v:=.int .i64 0) (k:=s.len+v.len - p) aB Hd eS UL q1 q3 q2 rfl rfl (by omega) (by omega) (by rw [q4];omega) (by omega) fun b' p8 w1 zu lK yH=>?_;have A7:s4.len+(s.len+v.len - p)=s.len+v.len:=by omega
  rw [A7] at zu ⊢;obtain⟨c',j7,zf,X0,UM⟩: ∃c',fF w1 b' 2 c' /\ s.len+v.len<=p8 /\ p8<=c'.length /\ c'.take (s.len+v.len)=(l.take p++List.replicate (s.len+v.len - p) 0).flatMap iv:=by
   rcases zu.2 with ⟨h0,_⟩ | ⟨b'',Pb,c',h0,ho,g1,g2,g3,g4⟩
   ·cases h0
   ·injection h0 with h0;injection h0 with h0 MA;subst h0 MA;exact⟨c',g1,g2,by simpa using g3,by simpa using g4⟩
  have IH:b < w.heap.size:=ke.lt;have adl:bv < w.heap.size:=Pa.lt;have Er:=Pa.fr yH (by simp);have tJ:=ke.fr yH (by simp);have xw: ∀{w':World},fF w' b 2 c-> ∀j u,((l.drop p).flatMap iv)[j]? =some u->w'.cell? ((⟨b,off+p,none⟩:Addr).add j)=some u:=fun{w'} hb j u hj=>by
   rw [Addr.aU,hb.cell];have gQ:=(ak6.1 hj).1;have lF:c[off+p+j]? =(l.flatMap iv)[p+j]? :=by
    rw [<-dU,alU,if_pos (by omega),alZ];congr 1;omega
   rw [lF,XY,ak8 (by omega),yL,amn];exact hj
  refine fC (b:=b') (off:=0) rfl (by omega) (by simp;omega) (by simp;omega) (by simp) (by simp;omega) ?_;rw [Ke];refine jt (s2:=⟨some ⟨bv,ov,none⟩,v.len,v.cap⟩) (k:=v.len) (vs:=xs.flatMap iv) j7 eS q1 q3 (by simp;omega) Az (.inr ⟨_,rfl,B2 Er⟩) (by dsimp only;omega) oH fun w2 gO pL=>?_;have p9:=tJ.fr pL (by simp;omega);refine Go.Den.dr fun w3 Ba _ rA=>?_;have UN:=rA _ _ _ gO;have B4:=rA _ _ _ p9;have UO:i64.wrap ((p:Int)+(v.len:Int))=((p+v.len:Nat):Int):=by rw [aI (by omega) (by omega)];omega
  rw [UO];refine fC (b:=b') (off:=0) rfl (by omega) (by simp;omega) (by simp;omega) (by simp) (by simp;omega) ?_;refine fC Ay (by omega) (by omega) (by omega) (al4 _) (by simp;omega) ?_;refine jt (s2:=⟨some ⟨b,off+((p:Nat):Int).toNat,none⟩,_,_⟩) (k:=s.len - p) (vs:=(l.drop p).flatMap iv) UN eS q1 q3 (by simp;omega) B3 (.inr ⟨_,rfl,xw B4⟩) (by rw [alb,alb,alv,alT,Az];dsimp only;omega) oH fun w4 Di FX=>?_;have t1:((p+v.len:Nat):Int).toNat=p+v.len:=ak7 _;have t2:((p:Nat):Int).toNat=p:=ak7 _;simp only [t1,t2,aml] at Di gO;have Bw:(c'.take p++xs.flatMap iv).length=p+v.len:=by rw [alb,Az,alv];omega
  have e5:(c'.take p++xs.flatMap iv++c'.drop (p+v.len)).take (p+v.len)=c'.take p++xs.flatMap iv:=amE Bw;have e6:c'.take p=(l.take p).flatMap iv:=by
   have:=congrArg (List.take p) UM;rw [anE,am1 (by omega),alJ,amE yL] at this;exact this
  rw [e5,e6] at Di;obtain⟨O0,q9,back⟩:=h1.step (i:=0) rfl rfl;have Pc:Fr [] w w4:=((yH.trans pL (fun k hk=>.inr (by simp only [ali] at hk;omega))).trans Ba (by simp)).trans FX (fun k hk=>.inr (by simp only [ali] at hk;omega));refine hK _ _ (back (Pc.mono (by simp)) (t':=aj ⟨some ⟨b',0,none⟩,s.len+v.len,p8⟩ 2 1 iv (l.take p++xs++l.drop p)) (O':= [b']) ?_ (fun k hk=>.inr (by simp only [ali] at hk;omega)) rfl);refine⟨by simp;omega,.inr ⟨b',0,_,rfl,rfl,Di,zf,?_,?_⟩⟩
  ·show 0+p8*1<=_;rw [alb,alb,alb,yL,Az,B3,alT,alb,alb,yL,Az,alT];omega
  ·show List.take ((s.len+v.len)*1) _=_;rw [amP,amf,alJ,alJ,amE (by rw [alb,alb,yL,B3,Az];omega)]
 ·refine aJ (by simp;omega) ?_
  -- in place
  obtain⟨O0,q9,back⟩:=h1.step (i:=0) rfl rfl;have hO0:O0= [b]:=by
   rcases q9.2 with ⟨h0,_⟩ | ⟨b',Pb,c',h0,ho,_⟩
   ·rw [Ay] at h0;cases h0
   ·rw [Ay] at h0;injection h0 with h0;injection h0 with h0;rw [ho,h0]
  subst hO0;have UO:i64.wrap ((p:Int)+(v.len:Int))=((p+v.len:Nat):Int):=by rw [aI (by omega) (by omega)];omega
  have X1:c=c.take off++((l.take p).flatMap iv++((l.drop p).flatMap iv++c.drop (off+s.len))):=by
   rw [<-ale ((l.take p).flatMap iv),<-XY,<-dU,<-al3,amg,amg]
  have vy:s.len+off<=c.length:=by omega
  have L2:((l.drop p).flatMap iv).length=s.len - p:=B3;have xw: ∀{w':World},fF w' b 2 c-> ∀j u,((l.drop p).flatMap iv)[j]? =some u->w'.cell? ((⟨b,off+p,none⟩:Addr).add j)=some u:=fun{w'} hb j u hj=>by
   rw [Addr.aU,hb.cell];have gQ:=(ak6.1 hj).1;rw [X1,ak8 (by simp;omega),ak8 (by rw [yL,alv];omega),ak9 (by rw [yL,alv];omega),yL,alv];rw [<-hj];congr 1;omega
  refine fC Ay (by omega) (by omega) (by omega) (al4 _) (by omega) ?_;rw [UO];refine fC (b:=b) (off:=off+(0:Int).toNat) rfl (by omega) (by simp;omega) (by simp;omega) (by simp) (by simp;omega) ?_;rw [Ke];refine uS (cb:=c) Pa ke (fun e=>Kh e.symm) (fun e=>by rw [e] at vy;simp at vy;omega) ?_;refine aL rfl ?_;refine Go.Den.dr fun w1 yH _ n9=>?_;have tJ:=n9 _ _ _ ke;have Er:=n9 _ _ _ Pa;refine fC (b:=b) (off:=off+(0:Int).toNat) rfl (by omega) (by simp;omega) (by simp;omega) (by simp) (by simp;omega) ?_;refine fC (b:=b) (off:=off+(0:Int).toNat) rfl (by omega) (by simp;omega) (by simp;omega) (by simp) (by simp;omega) ?_;refine jt (s2:=⟨some ⟨b,off+(0:Int).toNat+((p:Nat):Int).toNat,none⟩,_,_⟩) (k:=s.len - p) (vs:=(l.drop p).flatMap iv) tJ eS q1 q3 (by simp;omega) B3 (.inr ⟨_,rfl,xw tJ⟩) (by simp;omega) oH fun w2 gO pL=>?_;have UP:=Er.fr pL (by simp;exact fun e=>Kh e.symm);refine fC (b:=b) (off:=off+(0:Int).toNat) rfl (by omega) (by simp;omega) (by simp;omega) (by simp) (by simp;omega) ?_;refine jt (s2:=⟨some ⟨bv,ov,none⟩,v.len,v.cap⟩) (k:=v.len) (vs:=xs.flatMap iv) gO eS q1 q3 (by simp;omega) Az (.inr ⟨_,rfl,B2 UP⟩) (by rw [alb,alb,alv,alT,B3];dsimp only;omega) oH fun w3 rA Ba=>?_;have t1:((p+v.len:Nat):Int).toNat=p+v.len:=ak7 _;have t2:((p:Nat):Int).toNat=p:=ak7 _;have t3:((s.len+v.len:Nat):Int).toNat=s.len+v.len:=ak7 _;have t0:(0:Int).toNat=0:=rfl;simp only [t1,t2,t3,t0,amW,Nat.sub_zero] at rA Ba gO pL ⊢;obtain⟨er,el⟩:=FV (A:=c.take off) (La:=(l.take p).flatMap iv) (Lb:=(l.drop p).flatMap iv) (V:=xs.flatMap iv) (D:=c.drop (off+s.len)) (off:=off) (m:=v.len) (by simp;omega) Az (by simp;omega) X1 rfl rfl;rw [yL,B3] at er el;rw [<-ani off p v.len,er] at rA;rw [<-ani off p v.len] at gO;rw [ak7];have Pc:Fr [b] w w3:=((yH.mono (S':= [b]) (by simp)).trans pL (fun k hk=>.inl hk)).trans Ba (fun k hk=>.inl hk);refine hK _ _ (back Pc (t':=aj ⟨some ⟨b,off,none⟩,s.len+v.len,s.cap⟩ 2 1 iv (l.take p++xs++l.drop p)) (O':= [b]) ?_ (fun k hk=>.inl hk) rfl);refine⟨by simp;omega,.inr ⟨b,off,_,rfl,rfl,rA,by show s.len+v.len<=s.cap;omega,?_,?_⟩⟩
  ·rw [er] at el;rw [el];show off+s.cap*1<=_;omega
  ·show List.take ((s.len+v.len)*1) _=_;rw [an7 (by simp;omega),amf,alJ,alJ,<-ale,<-ale,amE (by rw [alb,alb,yL,B3,Az];omega)]
theorem CZ (h:Hp S w0 w ae) (i j:Nat) (iZ:i≠j) {s v:Sl} {l xs:List Int} {p:Nat} {u:aa} (ho:u.own=true) (hu: ∀{w:World} {O:List Nat},u.holds w O->cq w v 2 1 iv xs O) (hi:ae[i]? =some (aj s 2 1 iv l)) (hj:ae[j]? =some u) (hp:p<=l.length) (hl:l.length+xs.length<=1000000) {K:Sl->World->Prop}
  (hK: ∀s' w',Hp S w0 w' (ae.set i (aj s' 2 1 iv (l.take p++xs++l.drop p)))->K s' w'):R4 s (p:Int) v w K:=by
 refine JJ ?_;obtain⟨O,h1,back⟩:=h.f2 iZ hi hj rfl ho;refine A2 ho hu h1 hp hl fun s' w' h1=>hK s' w' ?_;have:=back (rest:= []) rfl ho rfl h1;rw [alh] at this;have e:(ae.set i (aj s' 2 1 iv (l.take p++xs++l.drop p))).set j u=ae.set i (aj s' 2 1 iv (l.take p++xs++l.drop p)):=Hp.bN (by rw [alC iZ];exact hj);rw [e] at this;exact this
theorem Ff {b:Nat} {a:WA} {m:WM} {q:WH} {u:aa} {B:List aa} {tS:aa} {ts:List aa} (hoS:tS.own=true) (aT:a.Ok) (ht:dS a.ks a.row a.m.aE q.bS) (hk:kinds q.xs=a.ks) (hp:m.ar=a.ar) (hs:m.aE=a.m.aE)
  (h:Hp S w0 w (q.all b m u++B++ [tS,ak ts])):Hp S w0 w [tW b a,bo tS (ak ts)]:=by
 have h:=dT (rest:= [_,_]) aT ht hk hp hs h.cZ;have h:=h.aV (i:=1) (j:=2) (by decide) rfl rfl hoS (aM _);have h:Hp S w0 w ([tW b a,bo tS (ak ts)]++ [ao]):=h;exact h.front
set_option maxHeartbeats 4000000 in
theorem Qa (h:Hp S w0 w ae) (i j:Nat) (iZ:i≠j) {b:Nat} {a:WA} {s:Sl} {ps:List Part} {xs:List PV} {tS:aa} {tE:PV->aa} (hi:ae[i]? =some (tW b a)) (hj:ae[j]? =some (bo tS (ak (xs.map tE)))) (fx:xs.map bq=ps) (hoS:tS.own=true) (hoE: ∀x,(tE x).own=true) (hS:Hp.Reads tS s 2 ck xs) (hE: ∀x∈xs,∀{w:World} {O:List Nat},(tE x).holds w O->cq w x.2.1 2 1 iv x.2.2 O) (ER: ∀x∈ps,-9223372036854775808<=x.1 /\ x.1<=9223372036854775807) (kU: ∀x∈ps,FP.eW x.2) (si:ps.length<=10000000) {K:Int->Int->Int->World->Prop}
  (hK: ∀w',Hp S w0 w' (ae.set i (tW b (a.spawn ps).1))->K (a.spawn ps).2.1.1 (a.spawn ps).2.1.2 (a.spawn ps).2.2 w'):VU (some ⟨b,0,none⟩) s w K:=by
 refine Jo ?_;unfold f15;obtain⟨O,h1,back⟩:=h.f2 iZ hi hj rfl rfl;clear h;obtain⟨q,aT,ht,hk,h⟩:=gf h1;have h:=h.split (i:=8) rfl hoS (aM _);have iB:=WA.xU aT ps kU;have h:Hp O w w (q.all b a.m ao++ [tS,ak (xs.map tE)]):=h;have cO:(kinds q.xs).length=q.xs.length:=by simp [kinds]
 have ig:=aT.len;have uV:q.xs.length<=12:=by rw [hk] at cO;omega
 have mJ:=aT.four;have h4: ∀x∈q.xs,x.2.2.length<=4:=fun x hx=>mJ (x.1,x.2.2) (by rw [<-hk];exact alu.2 ⟨x,hx,rfl⟩);have ja:xs.length=ps.length:=by rw [<-fx,alr]
 have fin: ∀{w':World} {a':WA},Hp O w w' [tW b a',bo tS (ak (xs.map tE))]->Hp S w0 w' (ae.set i (tW b a')):=fun{w' a'} h=>by
  have:=back (rest:= []) rfl rfl rfl h;rw [alh] at this;have e:(ae.set i (tW b a')).set j (bo tS (ak (xs.map tE)))=ae.set i (tW b a'):=Hp.bN (by rw [alC iZ];exact hj)
  rwa [e] at this
 have fB:=h.dR (u:=tS) 8 rfl hS;refine h.nw (c:= [_,_]) fun ab w1 h=>?_;have h:=h.up;have h:=(h.nil 2 1 iv).up;refine⟨fun sset values t16 mm w'=> ∃(k:Nat) (p:PL),sset=aA p /\ t16=k /\ k<=xs.length /\ mm=xs.length - k /\ p.fit a.ks /\ aY a.ks (ps.drop k) p=aY a.ks ps a.emp /\ Hp O w w' (q.all b a.m ao++ [aj values 2 1 iv (flat p),af ab 33 [.int .i64 0,.int .i64 0]]++ [tS,ak (xs.map tE)]),⟨xs.length,0,a.emp,by unfold WA.emp;rw [Cj],rfl,by omega,rfl,vZ _,rfl,by unfold WA.emp;rw [xF];exact h⟩,?_⟩;clear h;rintro sset values t16 mm w2 ⟨k,p,rfl,rfl,uX,rfl,aZ,dM,h⟩;have zu:=fg (show p.length<=12 by rw [aZ.1];omega);have q9:=ff p;by_cases av:k < xs.length
 ·refine aL (by simp;omega) ?_;have hx:xs[k]? =some xs[k]:=by simp [av]
  have wE:ps[k]? =some (bq xs[k]):=by rw [<-fx,alc,hx];rfl
  generalize xs[k]=x at hx wE;obtain⟨kd,sv,v⟩:=x;have wE:ps[k]? =some (kd,v):=wE;have vD:=ER _ (ala wE);dsimp only at vD;have Cf:ps.drop k=(kd,v) :: ps.drop (k+1):=by
   have hl:=(ak6.1 wE).1;have he:=(ak6.1 wE).2;rw [<-he];exact al0 hl
  rw [Cf] at dM;refine h.uP 10 (u:=tS) rfl hS (by omega) (by simpa using av) fun y hy=>?_;rw [ak7];refine h.qL (k:=.i .i64) (v:=kd) 10 (u:=tS) rfl hS hy aR hx rfl ?_;refine h.uQ (m:=1) (k:=.sl) (v:=sv) 10 (u:=tS) rfl hS hy aR hx rfl ?_;refine h.nw (c:= [_,_]) fun pb w3 h=>?_;have h:Hp O w w3 (q.all b a.m ao++ [aj values 2 1 iv (flat p),af ab 33 [.int .i64 0,.int .i64 0],tS,ak (xs.map tE)]++ [af pb 36 [.int .i64 0,.slice none 0 0]]):=h;have h:=h.up;refine h.gz 8 rfl (by simp) rfl fun w4 h=>?_;refine h.st (n:=1) 8 rfl (by simp) rfl fun w5 h=>?_;have h:Hp O w w5 (q.all b a.m ao++ [af pb 36 [.int .i64 kd,.slice sv.a sv.len sv.cap],aj values 2 1 iv (flat p),af ab 33 [.int .i64 0,.int .i64 0]]++ [tS,ak (xs.map tE)]):=h
  -- a refusal
  have bad: ∀{w6:World} {err:Int},err≠0->(aY a.ks ps a.emp).2=err->Hp O w w6 (q.all b a.m ao++ [af pb 36 [.int .i64 kd,.slice sv.a sv.len sv.cap],aj values 2 1 iv (flat p),af ab 33 [.int .i64 0,.int .i64 0]]++ [tS,ak (xs.map tE)])->
    (St ⟨ab,0,none⟩ (.int .i64 0) w6 fun w=>St ((⟨ab,0,none⟩:Addr).add 1) (.int .i64 0) w fun w=>Ld (.i .i64) w ⟨ab,0,none⟩ fun(cT:Int)=>Ld (.i .i64) w ((⟨ab,0,none⟩:Addr).add 1) fun(fG:Int)=>K cT fG err w):=by
   intro w6 err aW Q8 h;refine h.gz 10 rfl (by simp) rfl fun w7 h=>?_;refine h.st (n:=1) 10 rfl (by simp) rfl fun w8 h=>?_;refine h.bE (k:=.i .i64) (x:=(0:Int)) 10 rfl rfl ?_;refine h.ld (n:=1) (k:=.i .i64) (x:=(0:Int)) 10 rfl rfl ?_;have AN:a.spawn ps=(a,(0,0),err):=by unfold WA.spawn;rw [if_pos (by rw [Q8];exact aW),Q8]
   rw [AN] at hK;have h:Hp O w w8 (q.all b a.m ao++ [af pb 36 [.int .i64 kd,.slice sv.a sv.len sv.cap],aj values 2 1 iv (flat p),af ab 33 [.int .i64 0,.int .i64 0]]++ [tS,ak (xs.map tE)]):=h;exact hK w8 (fin (Ff hoS aT ht hk rfl rfl h))
  refine h.bE (k:=.i .i64) (x:=kd) 8 rfl rfl ?_;refine lv h 0 2 3 (cells:= [_,_,_]) rfl rfl rfl (by omega) vD.1 vD.2 ?_;rw [hk]
  cases hf:fl a.ks kd with
  | none=>
   dsimp only;refine aL rfl (bad (by decide) ?_ h);rw [<-dM];unfold aY;dsimp only;rw [hf]
  | some n=>
   dsimp only;refine aJ (by simp) ?_;refine h.bE (k:=.i .i64) (x:=kd) 8 rfl rfl ?_;obtain⟨r,kk,rfl,nt,zr⟩:=xS hf;have eT:r < p.length:=by rw [aZ.1];exact(ak6.1 nt).1
   have qb:p.length<=12:=by rw [aZ.1];omega
   have er:((((r+1:Nat):Int)) - 1).toNat=r:=by omega
   have rE:=(xB (set:=aA p) (k:=r+1) q9 (by omega) (by omega)).trans (oO p r);refine⟨by omega,?_⟩;by_cases hh:(p.getD r none).isSome=true
   ·refine aL (by rw [rE,hh];rfl) (bad (by decide) ?_ h);rw [<-dM];unfold aY;dsimp only;rw [hf];dsimp only;rw [er,if_pos hh]
   ·refine aJ (by rw [rE,if_neg hh];decide) ?_;refine h.ld (n:=1) (k:=.sl) (x:=sv) 8 rfl rfl ?_;have gJ:v.length=sv.len:=by
     have:=h.kY (i:=12) rfl;obtain⟨O',gD⟩:=this;obtain⟨O1,O2,g1,_⟩:=dk (k:=k) (t:=tE (((r+1:Nat):Int),sv,v)) (by rw [alc,hx];rfl) gD;exact(hE _ (ala hx) g1).1
    by_cases hn:v.length=n
    ·refine aJ (by simp;omega) ?_;refine h.dr fun w6 h=>?_;refine h.bE (k:=.i .i64) (x:=((r+1:Nat):Int)) 8 rfl rfl ?_;refine h.ld (n:=1) (k:=.sl) (x:=sv) 8 rfl rfl ?_;refine jQ h 0 2 3 (cells:= [_,_,_]) rfl rfl rfl uV h4 q9 (by omega) (q:=r) (by rw [aZ.1,<-hk,cO] at eT;omega) ?_;refine⟨h.xl (n:=1) 8 rfl rfl,?_⟩;rw [hk];have dz:p.getD r none=none:=by simpa using hh
     have uR:=aZ.at (q:=r) (by omega);have YC:=fD mJ (aA p) r;have bz:=aZ.all;have Gi:=fD mJ (aA p) a.ks.length;have Gg:=mJ _ (ala nt);have hle:gd a.ks (aA p) r<=(flat p).length:=by
      have kU:p[r]? =some none:=by
       have:p[r]? =some p[r]:=by simp [eT]
       rw [this];rw [alk,this] at dz;simpa using dz
      rw [uR,dI kU];simp
     have h:=h.pick (i:=12) (k:=k) (t:=tE (((r+1:Nat):Int),sv,v)) rfl (by rw [alc,hx];rfl) (hoE _);refine CZ h 9 13 (by decide) (hoE _) (hE _ (ala hx)) (s:=values) (v:=sv) (l:=flat p) (xs:=v) rfl rfl hle (by omega) fun s' w7 h=>?_;rw [<-aZ.ins eT dz v] at h;have HC:k < (xs.map tE).length:=by simpa using av
     have h:=h.iT (i:=12) (j:=13) (k:=k) (ts:=(xs.map tE).set k ao) (t:=tE (((r+1:Nat):Int),sv,v)) (by decide) rfl rfl (by rw [alx HC]) (hoE _);rw [al2] at h;have eb:(xs.map tE).set k (tE (((r+1:Nat):Int),sv,v))=xs.map tE:=Hp.bN (by rw [alc,hx];rfl);rw [eb] at h;have h:Hp O w w7 (q.all b a.m ao++ [af pb 36 [.int .i64 ((r+1:Nat):Int),.slice sv.a sv.len sv.cap],aj s' 2 1 iv (flat (p.set r (some v))),af ab 33 [.int .i64 0,.int .i64 0],tS,ak (xs.map tE)]++ [ao]):=h;have h:=h.front;refine h.bE (k:=.i .i64) (x:=((r+1:Nat):Int)) 8 rfl rfl ?_;refine⟨by omega,xs.length - (k+1),by omega,k+1,p.set r (some v),sb qb eT v,by rw [aI (by omega) (by omega)];omega,by omega,rfl,aZ.set nt (by rw [zr];exact hn),?_,?_⟩
     ·rw [<-dM]
      conv=>rhs;unfold aY
      dsimp only;rw [hf];dsimp only;rw [er,if_neg hh,if_neg (by simpa using hn)]
     ·have h:Hp O w w7 (q.all b a.m ao++ [af pb 36 [.int .i64 ((r+1:Nat):Int),.slice sv.a sv.len sv.cap]]++ [aj s' 2 1 iv (flat (p.set r (some v))),af ab 33 [.int .i64 0,.int .i64 0],tS,ak (xs.map tE)]):=h;exact h.cZ
    ·refine aL (by simp;omega) (bad (by decide) ?_ h);rw [<-dM];unfold aY;dsimp only;rw [hf];dsimp only;rw [er,if_neg hh,if_pos hn]
 ·refine aJ (by simp;omega) ?_;have dM:(p,(0:Int))=aY a.ks ps a.emp:=by
   rw [amb (by omega)] at dM;exact dM
  refine aS ?_;refine h.ld (n:=1) (k:=.p) (x:=some ⟨q.pb,0,none⟩) 0 rfl rfl ?_;refine FI.KF h 4 (m:=a.ar) aT.qa rfl fun w3 h=>?_;have h:Hp O w w3 (q.all b { a.m with ar:=a.ar.bG.1} ao++ [aj values 2 1 iv (flat p),af ab 33 [.int .i64 0,.int .i64 0],tS,ak (xs.map tE)]):=h;have Lh:(aY a.ks ps a.emp).2=0:=by rw [<-dM]
  have Li:(aY a.ks ps a.emp).1=p:=by rw [<-dM]
  refine h.nw (c:= [_,_]) fun eb w4 h=>?_;have h:=h.up;refine h.gz 8 rfl (by simp) rfl fun w5 h=>?_;refine h.st (n:=1) 8 rfl (by simp) rfl fun w6 h=>?_;have AN:a.spawn ps=if a.ar.bG.2.2≠0 then (a,(0,0),a.ar.bG.2.2) else (⟨a.ks,a.ar.bG.1,aG a.row a.ar.bG.2.1 (some p)⟩,a.ar.bG.2.1,0):=by
   unfold WA.spawn;rw [if_neg (by rw [Lh];simp),Li]
  by_cases hb:a.ar.bG.2.2=0
  ·rw [if_neg (by simpa using hb)] at AN;rw [AN] at hK iB;dsimp only at hK iB;obtain⟨Lj,Lk⟩:=ub aT hb;generalize a.ar.bG.2.1=e at hK Lj iB h ⊢;generalize a.ar.bG.1=nM at hK iB h ⊢;refine aJ (by rw [hb];simp) ?_;have h:Hp O w w6 (q.all b { a.m with ar:=nM} ao++ [af eb 33 [.int .i64 e.1,.int .i64 e.2]]++ [aj values 2 1 iv (flat p)]++ [af ab 33 [.int .i64 0,.int .i64 0],tS,ak (xs.map tE)]):=h;have h:=h.ME;refine h.bE (k:=.i .i64) (x:=e.1) 9 rfl rfl ?_;refine h.ld (n:=1) (k:=.i .i64) (x:=e.2) 9 rfl rfl ?_;have h:Hp O w w6 (q.all b { a.m with ar:=nM} ao++(aj values 2 1 iv (flat p) :: [af eb 33 [.int .i64 e.1,.int .i64 e.2],af ab 33 [.int .i64 0,.int .i64 0],tS,ak (xs.map tE)])):=h;have h:=kJ h;refine pS h (row:=a.row) (e:=e) (p:=p) (by rw [hk];exact ht) (by rw [hk];exact aT.may) Lj (by rw [hk];exact aZ) Lk Hp.bZ fun T' w7 BM h=>?_;refine h.bE (k:=.i .i64) (x:=e.1) 9 rfl rfl ?_;refine h.ld (n:=1) (k:=.i .i64) (x:=e.2) 9 rfl rfl ?_;refine h.gz 10 rfl (by simp) rfl fun w8 h=>?_;refine h.st (n:=1) 10 rfl (by simp) rfl fun w9 h=>?_;refine h.bE (k:=.i .i64) (x:=e.1) 10 rfl rfl ?_;refine h.ld (n:=1) (k:=.i .i64) (x:=e.2) 10 rfl rfl ?_;refine hK w9 (fin ?_);refine Ff (hoS:=hoS) (B:= [ao,af eb 33 [.int .i64 e.1,.int .i64 e.2],af ab 33 [.int .i64 e.1,.int .i64 e.2]]) (m:={ a.m with ar:=nM,aE:=aG a.m.aE e (some (aA p))}) (q:={ q with T:=T'}) (u:=aj values 2 1 iv (flat p)) iB ?_ hk rfl ?_ h
   ·show dS a.ks (aG a.row e (some p)) (fun x=>(aG a.row e (some p) x).map aA) _;rw [eX,<-hk];exact BM
   ·exact(eX a.row e (some p)).symm
  ·rw [if_pos hb] at AN;have dU:=(oV aT.qa).1 hb;rw [AN] at hK;rw [dU] at hK h ⊢;refine aL (by simp) ?_;refine h.gz 10 rfl (by simp) rfl fun w8 h=>?_;refine h.st (n:=1) 10 rfl (by simp) rfl fun w9 h=>?_;refine h.bE (k:=.i .i64) (x:=(0:Int)) 10 rfl rfl ?_;refine h.ld (n:=1) (k:=.i .i64) (x:=(0:Int)) 10 rfl rfl ?_;have h:Hp O w w9 (q.all b a.m ao++ [af eb 33 [.int .i64 0,.int .i64 0],aj values 2 1 iv (flat p),af ab 33 [.int .i64 0,.int .i64 0]]++ [tS,ak (xs.map tE)]):=h;exact hK w9 (fin (Ff hoS aT ht hk rfl rfl h))
end
end Go.Proofs.YtcccjgmekakabaaGreat.FW
end

section
namespace Go.Proofs.YtcccjgmekakabaaGreat.FW
open F
open Go Go.Den Go.Proofs
open FI (ai aD)
open FT (bw fo cu iv aB)
def v9:PV:=(77,⟨none,0,0⟩,[])
def hU (v:List Int):List Int:=v++List.replicate 8 77
def dD (s:Sl):Sl:=⟨s.a,s.len+8,s.cap⟩
def n6 (x:PV):aa:=aj (dD x.2.1) 2 1 iv (hU x.2.2)
def qz (s:Sl) (xs:List PV):aa:=bo (aj (dD s) 36 2 ck (xs++List.replicate 8 v9)) (ak (xs.map n6))
theorem j6 (v:List Int):(hU v).length=v.length+8:=by simp [hU]
theorem LW {s s':Sl} {l h m:Int} {n:Nat} {K:Sl->Prop} (ha:s'.a=s.a) (hc:s'.cap=s.cap) (hh:Cut s' l h m n K):Cut s l h m n K:=by
 unfold Cut at hh ⊢;rw [ha,hc] at hh;exact hh
theorem cq.Vs {α:Type} {f:α->List Value} {e:TypeId} {n:Nat} (hf: ∀x,(f x).length=n) {w:World} {s:Sl} {l l':List α} {o:List Nat} {m:Nat} (h:cq w ⟨s.a,s.len+m,s.cap⟩ e n f (l++l') o) (hl:l.length=s.len):cq w s e n f l o:=by
 refine⟨hl,?_⟩
 rcases h.2 with ⟨h1,h2,h3,h4⟩ | ⟨b,off,c,h1,h2,h3,h4,h5,h6⟩
 ·exact .inl ⟨h1,by dsimp only at h2;omega,h3,h4⟩
 ·refine .inr ⟨b,off,c,h1,h2,h3,by dsimp only at h4;omega,h5,?_⟩;have:=congrArg (List.take (s.len*n)) h6;rw [anE,am1 (ami _ (by dsimp only;omega)),alJ,amE (by rw [jA hf,hl])] at this;exact this
theorem A3 {x:PV} (hx:x.2.2.length=x.2.1.len) {w:World} {O:List Nat} (h:(n6 x).holds w O):cq w x.2.1 2 1 iv x.2.2 O:=cq.Vs (m:=8) (l':=List.replicate 8 77) aB h hx
theorem LX {s:Sl} {xs:List PV}:Hp.Reads (qz s xs) (dD s) 2 ck (xs++List.replicate 8 v9):=⟨fun{w O} ⟨O1,O2,h1,h2,h3,h4⟩=>⟨O1,cq.toR h1⟩⟩
theorem HV {s:Sl} {xs:List PV} {x:PV} (hx:x∈xs):Hp.Reads (qz s xs) (dD x.2.1) 1 iv (hU x.2.2):=⟨fun{w O} ⟨O1,O2,h1,h2,h3,h4⟩=>by
 obtain⟨k,hk⟩:=aly hx;obtain⟨O3,O4,g1,_⟩:=dk (k:=k) (t:=n6 x) (by rw [alc,hk];rfl) h2;exact⟨O3,cq.toR g1⟩⟩
theorem Zi {w:World} {O:List Nat} {s:Sl} {xs:List PV} (h:(qz s xs).holds w O) (hl:xs.length=s.len) (hx: ∀x∈xs,x.2.2.length=x.2.1.len):ri w s (xs.map bq):=by
 obtain⟨O1,O2,h1,h2,h3,h4⟩:=h;refine⟨xs,rfl,⟨O1,cq.toR (cq.Vs (m:=8) (l':=List.replicate 8 v9) aR h1 hl)⟩,fun x fI=>?_⟩;obtain⟨k,hk⟩:=aly fI;obtain⟨O3,O4,g1,_⟩:=dk (k:=k) (t:=n6 x) (by rw [alc,hk];rfl) h2;exact⟨O3,cq.toR (A3 (hx x fI) g1)⟩
section
variable {S:List Nat} {w0 w:World} {ae:List aa}
theorem nQ (h:Hp S w0 w ae) {s:Sl} {l:List Int} (hr: ∃o,bO w s 1 iv l o) (hl:l.length<=10000000) {K:Sl->World->Prop}
  (hK: ∀r w',r.len=l.length->r.len+8<=r.cap->Hp S w0 w' (ae++ [aj (dD r) 2 1 iv (hU l)])->K r w'):c76 s w K:=by
 refine T8 ?_;unfold f76;obtain⟨inf,q1,q2,q3,q4⟩:=FT.ku;obtain⟨o,Ac⟩:=hr;have fB:=Ac.len;have g:=((Hp.oE w).dC (t:=sM s 1 iv l) Ac (by simp)).nil 2 1 iv;have g:Hp [] w w [(sM s 1 iv l).ro,aj ⟨none,0,0⟩ 2 1 iv []]:=g;refine g.gq 1 0 (s:=⟨none,0,0⟩) (s2:=s) (u:=(sM s 1 iv l).ro) rfl rfl (CV Hp.XO) aB FT.eS q1 q3 q2 rfl (by simp [iv,Value.oneCell']) (by rw [q4];show (0+s.len)*8<=_;omega) (by show 0+s.len<=_;omega) fun out w1 g lq _=>?_;have g:Hp [] w w1 [(sM s 1 iv l).ro,aj out 2 1 iv l]:=g;refine⟨fun out t mm w'=> ∃k:Nat,t=k /\ k<=8 /\ mm=8 - k /\ Hp [] w w' [(sM s 1 iv l).ro,aj out 2 1 iv (l++List.replicate k 77)],⟨8,0,rfl,by omega,rfl,by simpa using g⟩,?_⟩;clear g;rintro out t mm w2 ⟨k,rfl,hk,rfl,g⟩;have lq:=g.len (s:=out) (e:=2) (n:=1) (f:=iv) (l:=l++List.replicate k 77) 1 rfl;rw [alb,amr] at lq;by_cases av:k < 8
 ·refine aL (by simp;omega) ?_;refine g.cj 1 (77:Int) (c:= [_]) rfl aB FT.eS q1 q3 q2 rfl rfl (by simp [iv,Value.oneCell']) (by rw [q4];omega) (by omega) fun bR w3 g _ _=>?_;refine⟨8 - (k+1),by omega,k+1,by rw [aI (by omega) (by omega)];omega,by omega,rfl,?_⟩;rw [anH,<-ale];exact g
 ·refine aJ (by simp;omega) ?_;obtain rfl:k=8:=by omega
  have eN:=g.cap (s:=out) (e:=2) (n:=1) (f:=iv) (l:=l++List.replicate 8 77) 1 rfl;refine HM g 1 (s0:=out) rfl rfl (by omega) (by omega) (by simp) ?_;rw [ak7,ak7];refine hK ⟨out.a,s.len,out.cap⟩ w2 (by dsimp only;omega) (by dsimp only;omega) ?_;have e:dD ⟨out.a,s.len,out.cap⟩=out:=by
   unfold dD;dsimp only;rw [show s.len+8=out.len by omega]
  rw [e];exact h.r0 (rest:= [aj out 2 1 iv (hU l)]) rfl (g.rQ 1 rfl)
set_option maxHeartbeats 4000000 in
theorem HW (h:Hp S w0 w ae) {s:Sl} {l:List Part} (hr:ri w s l) (hl:l.length<=10000000) (hv: ∀x∈l,x.2.length<=10000000) {K:Sl->World->Prop}
  (hK: ∀r xs w',xs.map bq=l->xs.length=r.len->(∀x∈xs,x.2.2.length=x.2.1.len /\ x.2.1.len+8<=x.2.1.cap)->r.len+8<=r.cap->Hp S w0 w' (ae++ [qz r xs])->K r w'):c24 s w K:=by
 refine S4 ?_;unfold f24;obtain⟨inf,i1,i2,i3,i4⟩:=xT;obtain⟨ys,O,rfl,hO⟩:=hr.Gp;rw [alr] at hl;have hu:(fJ s ys).ro.holds=(fJ s ys).holds:=rfl;have g:=((Hp.oE w).dC hO (by simp)).nil 36 2 ck;have fB:=g.dR (u:=(fJ s ys).ro) 0 rfl (cl hu);have g:=g.grow (Fr.refl _ _) (t:=ak (([]:List PV).map n6)) (O:= []) rfl (by simp) rfl;refine⟨fun out t mm w'=> ∃(k:Nat) (xs:List PV),t=k /\ k<=ys.length /\ mm=ys.length - k /\ xs.length=k /\ xs.map bq=(ys.take k).map bq /\ (∀x∈xs,x.2.2.length=x.2.1.len /\ x.2.1.len+8<=x.2.1.cap) /\ Hp [] w w' [(fJ s ys).ro,aj out 36 2 ck xs,ak (xs.map n6)],⟨ys.length,0,[],rfl,by omega,rfl,rfl,rfl,by simp,g⟩,?_⟩;clear g;rintro out t mm w1 ⟨k,xs,rfl,hk,rfl,ja,yx,nY,g⟩;have lq:=g.len (s:=out) (e:=36) (n:=2) (f:=ck) (l:=xs) 1 rfl;by_cases av:k < ys.length
 ·refine aL (by simp;omega) ?_;have hy:ys[k]? =some ys[k]:=by simp [av]
  have HS:ys[k]∈ys:=alz av;have hyv:ys[k].2.2.length<=10000000:=hv (bq ys[k]) (alu.2 ⟨_,HS,rfl⟩);have dU:ys.take (k+1)=ys.take k++ [ys[k]]:=alp av;generalize ys[k]=y at hy HS hyv dU;refine g.dr fun w2 g=>?_;refine g.uP 0 (u:=(fJ s ys).ro) rfl (cl hu) (by omega) (by simpa using av) fun a ha=>?_;rw [ak7];refine g.qL (k:=.i .i64) (v:=y.1) 0 (u:=(fJ s ys).ro) rfl (cl hu) ha aR hy rfl ?_;refine g.uP 0 (u:=(fJ s ys).ro) rfl (cl hu) (by omega) (by simpa using av) fun a2 Gk=>?_;rw [ak7];refine g.uQ (m:=1) (k:=.sl) (v:=y.2.1) 0 (u:=(fJ s ys).ro) rfl (cl hu) Gk aR hy rfl ?_;have qv: ∃o,bO w2 y.2.1 1 iv y.2.2 o:=by
   obtain⟨O',gD⟩:=g.kY (i:=0) rfl;exact(mC hu HS).rd gD
  refine nQ g qv (by omega) fun r w3 eT hrc g=>?_;have g:Hp [] w w3 [(fJ s ys).ro,aj out 36 2 ck xs,ak (xs.map n6),n6 (y.1,r,y.2.2)]:=g;refine⟨g.BO 0 (u:=(fJ s ys).ro) rfl (cl hu) ha aR hy rfl,?_⟩;refine g.cj 1 ((y.1,r,y.2.2):PV) (c:= [_,_]) rfl aR nL i1 i3 i2 rfl rfl (by simp [ck,Value.oneCell']) (by rw [i4];omega) (by omega) fun bR w4 g _ _=>?_;have g:=mA g (i:=2) (j:=3) (sub:=n6) (ys:=xs) (y:=((y.1,r,y.2.2):PV)) (by decide) rfl rfl rfl;have g:Hp [] w w4 ([(fJ s ys).ro,aj bR 36 2 ck (xs++ [((y.1,r,y.2.2):PV)]),ak ((xs++ [((y.1,r,y.2.2):PV)]).map n6)]++ [ao]):=g;refine⟨ys.length - (k+1),by omega,k+1,xs++ [(y.1,r,y.2.2)],by rw [aI (by omega) (by omega)];omega,by omega,rfl,by simp [ja],by rw [dU,alW,alW,yx];rfl,fun x hx=>?_,g.front⟩
  rcases alg.1 hx with hx | hx
  ·exact nY x hx
  ·simp only [ali] at hx;subst hx;exact⟨eT.symm,hrc⟩
 ·refine aJ (by simp;omega) ?_;obtain rfl:k=ys.length:=by omega
  rw [amB] at yx;refine⟨fun out t mm w'=> ∃k:Nat,t=k /\ k<=8 /\ mm=8 - k /\ Hp [] w w' [(fJ s ys).ro,aj out 36 2 ck (xs++List.replicate k v9),ak (xs.map n6)],⟨8,0,rfl,by omega,rfl,by simpa using g⟩,?_⟩;clear g;rintro out t mm w2 ⟨k,rfl,hk,rfl,g⟩;have lq:=g.len (s:=out) (e:=36) (n:=2) (f:=ck) (l:=xs++List.replicate k v9) 1 rfl;rw [alb,amr] at lq;by_cases av:k < 8
  ·refine aL (by simp;omega) ?_;refine g.cj 1 v9 (c:= [_,_]) rfl aR nL i1 i3 i2 rfl rfl (by simp [ck,Value.oneCell']) (by rw [i4];omega) (by omega) fun bR w3 g _ _=>?_;refine⟨8 - (k+1),by omega,k+1,by rw [aI (by omega) (by omega)];omega,by omega,rfl,?_⟩;rw [anH,<-ale];exact g
  ·refine aJ (by simp;omega) ?_;obtain rfl:k=8:=by omega
   have eN:=g.cap (s:=out) (e:=36) (n:=2) (f:=ck) (l:=xs++List.replicate 8 v9) 1 rfl;refine HM g 1 (s0:=out) rfl rfl (by omega) (by omega) (by simp) ?_;rw [ak7,ak7];have e:out=dD ⟨out.a,s.len,out.cap⟩:=by
    unfold dD;dsimp only;rw [show s.len+8=out.len by omega]
   have g:Hp [] w w2 [(fJ s ys).ro,aj (dD ⟨out.a,s.len,out.cap⟩) 36 2 ck (xs++List.replicate 8 v9),ak (xs.map n6)]:=by rw [<-e];exact g
   have g:=g.aV (i:=1) (j:=2) (by omega) rfl rfl rfl (aM _);have g:Hp [] w w2 [(fJ s ys).ro,qz ⟨out.a,s.len,out.cap⟩ xs,ao]:=g;exact hK ⟨out.a,s.len,out.cap⟩ xs w2 yx (by dsimp only;omega) nY (by dsimp only;omega) (h.r0 (rest:= [qz ⟨out.a,s.len,out.cap⟩ xs]) rfl (g.rQ 1 rfl))
theorem mF {l was:Sl} {v:List Int} (ha: ∃o,bO w (dD l) 1 iv (hU v) o) (hb: ∃o,bO w was 1 iv v o) (XU:l.len+8<=l.cap) (gJ:v.length<=10000000) {K:Bool->World->Prop} (hK:K true w):c83 l was w K:=by
 refine Uf ?_;unfold f83;obtain⟨oa,hA⟩:=ha;obtain⟨ob,hB⟩:=hb;have ig:=hA.len;have yM:=hB.len;rw [j6] at ig;have ig:v.length+8=l.len+8:=ig;refine⟨fun w'=>w=w',?_,?_⟩
 ·refine aJ (by simp;omega) (aJ (by rw [aI (by omega) (by omega)];simp;omega) rfl)
 rintro w' rfl;have e0:i64.wrap ((was.len:Int)+8)=((l.len+8:Nat):Int):=by rw [aI (by omega) (by omega)];omega
 rw [e0];have hu:Hp.Reads (sM (dD l) 1 iv (hU v)) (dD l) 1 iv (hU v):=Hp.XO;refine LW (s':=dD l) rfl rfl ?_;refine Hp.nU hu (by rw [j6];exact ig) aB (by omega) (by omega) (by omega) (al4 _) (by show _<=((l.len+8:Nat):Int);omega) fun s2 pM F8 lF=>?_;have e1:((hU v).take ((l.len+8:Nat):Int).toNat).drop (0:Int).toNat=hU v:=by
  rw [ak7,aln (by rw [j6];omega)];rfl
 rw [e1] at pM;rw [ak7] at F8;have F8:s2.len=l.len+8:=by rw [F8];simp
 obtain⟨o2,Y4⟩:=pM.rd hA;refine⟨fun t mm w'=> ∃k:Nat,t=k /\ k<=l.len+8 /\ mm=l.len+8 - k /\ w=w',⟨l.len+8,0,rfl,by omega,rfl,rfl⟩,?_⟩;rintro t mm w' ⟨k,rfl,hk,rfl,rfl⟩;by_cases av:k < l.len+8
 ·refine aL (by simp;omega) ?_;have hx:(hU v)[k]? =some ((hU v)[k]'(by rw [j6];omega)):=alf _;generalize nY:(hU v)[k]'(by rw [j6];omega)=x at hx;refine⟨fun want w'=>want=x /\ w=w',?_,?_⟩
  ·by_cases Wp:k < v.length
   ·refine aL (by simp;omega) ?_;have CM:v[k]? =some x:=by rw [<-hx];unfold hU;rw [ak9 Wp]
    refine bO.ix aB hB (by omega) (x:=x) (by rw [ak7];exact CM) fun ad hc=>?_;exact dG (k:=.i .i64) (x:=x) (hc 0 (by omega)) rfl ⟨rfl,rfl⟩
   ·refine aJ (by simp;omega) ⟨?_,rfl⟩;unfold hU at hx;rw [ak8 (by omega),ams] at hx
    split at hx
    ·exact alm hx
    ·cases hx
  ·rintro want w' ⟨rfl,rfl⟩;refine bO.ix aB Y4 (by omega) (x:=want) (by rw [ak7];exact hx) fun ad hc=>?_;refine dG (k:=.i .i64) (x:=want) (hc 0 (by omega)) rfl ?_;exact aJ (by simp) ⟨l.len+8 - (k+1),by omega,k+1,by rw [aI (by omega) (by omega)];omega,by omega,rfl,rfl⟩
 ·exact aJ (by simp;omega) hK
set_option maxHeartbeats 4000000 in
theorem Fg (h:Hp S w0 w ae) (i:Nat) {s was:Sl} {xs:List PV} {l:List Part} (hi:(ae[i]?).map aa.holds=some (qz s xs).holds) (hr:ri w was l) (ja:xs.map bq=l) (fx:xs.length=s.len) (nY: ∀x∈xs,x.2.2.length=x.2.1.len /\ x.2.1.len+8<=x.2.1.cap) (eN:s.len+8<=s.cap) (hl:l.length<=10000000) (hv: ∀x∈l,x.2.length<=10000000) {K:Bool->World->Prop}
  (hK: ∀w',Hp S w0 w' ae->K true w'):c75 s was w K:=by
 refine T7 ?_;unfold f75;obtain⟨ys,O,sJ,hO⟩:=hr.Gp;have E6:(fJ was ys).ro.holds=(fJ was ys).holds:=rfl;have g:=(h.My hi).dC hO (by simp);have g:Hp [] w w [(qz s xs).ro,(fJ was ys).ro]:=g;have Y0:=g.dR (u:=(fJ was ys).ro) 1 rfl (cl E6);have vA:ys.length=xs.length:=by
  have:=congrArg List.length (sJ.trans ja.symm)
  simpa using this
 have Bw:xs.length=l.length:=by rw [<-ja,alr]
 have e0:i64.wrap ((was.len:Int)+8)=((s.len+8:Nat):Int):=by rw [aI (by omega) (by omega)];omega
 rw [e0];have rl:Hp.Reads (qz s xs).ro (dD s) 2 ck (xs++List.replicate 8 v9):=CV LX;refine LW (s':=dD s) rfl rfl ?_;refine Hp.nU rl (by simp [dD];omega) aR (by omega) (by omega) (by omega) (al4 _) (by show _<=((s.len+8:Nat):Int);omega) fun s2 pM F8 lF=>?_;have e1:((xs++List.replicate 8 v9).take ((s.len+8:Nat):Int).toNat).drop (0:Int).toNat=xs++List.replicate 8 v9:=by
  rw [ak7,aln (by simp;omega)];rfl
 rw [e1] at pM;rw [ak7] at F8;have F8:s2.len=s.len+8:=by rw [F8];simp
 refine⟨fun t mm w'=> ∃k:Nat,t=k /\ k<=s.len+8 /\ mm=s.len+8 - k /\ Hp [] w w' [(qz s xs).ro,(fJ was ys).ro],⟨s.len+8,0,rfl,by omega,rfl,g⟩,?_⟩;clear g;rintro t mm w1 ⟨k,rfl,hk,rfl,g⟩;by_cases av:k < s.len+8
 ·refine aL (by simp;omega) ?_;by_cases Wp:s.len<=k
  ·refine aL (by simp;omega) ?_;have hx:(xs++List.replicate 8 v9)[k]? =some v9:=by
    rw [ak8 (by omega),ams,if_pos (by omega)]
   refine g.uP 0 (u:=(qz s xs).ro) rfl pM (by omega) (by simp;omega) fun a ha=>?_;rw [ak7];refine g.qL (k:=.i .i64) (v:=(77:Int)) 0 (u:=(qz s xs).ro) rfl pM ha aR hx rfl ?_;refine aJ (by simp) ?_;refine g.uP 0 (u:=(qz s xs).ro) rfl pM (by omega) (by simp;omega) fun a ha=>?_;rw [ak7];refine g.uQ (m:=1) (k:=.sl) (v:=⟨none,0,0⟩) 0 (u:=(qz s xs).ro) rfl pM ha aR hx rfl ?_;exact aJ (by simp) ⟨s.len+8 - (k+1),by omega,k+1,by rw [aI (by omega) (by omega)];omega,by omega,rfl,g⟩
  ·refine aJ (by simp;omega) ?_;have yx:xs[k]? =some (xs[k]'(by omega)):=alf _;have yO:ys[k]? =some (ys[k]'(by omega)):=alf _;have MB:bq (xs[k]'(by omega))=bq (ys[k]'(by omega)):=by
    have e:=congrArg (fun L=>L[k]?) (ja.trans sJ.symm);simp only [alc,yx,yO,al8] at e;exact alm e
   generalize xs[k]'(by omega)=x at yx MB;generalize ys[k]'(by omega)=y at yO MB;have hx:(xs++List.replicate 8 v9)[k]? =some x:=by rw [ak9 (by omega)];exact yx
   have fI:=ala yx;have HS:=ala yO;have aeM:x.1=y.1:=(amx MB).1;have aeN:x.2.2=y.2.2:=(amx MB).2;have CM:=hv (bq x) (by rw [<-ja];exact alu.2 ⟨x,fI,rfl⟩);refine g.dr fun w2 g=>?_;refine g.uP 0 (u:=(qz s xs).ro) rfl pM (by omega) (by simp;omega) fun a ha=>?_;rw [ak7];refine g.uQ (m:=1) (k:=.sl) (v:=x.2.1) 0 (u:=(qz s xs).ro) rfl pM ha aR hx rfl ?_;refine g.uP 1 (u:=(fJ was ys).ro) rfl (cl E6) (by omega) (by rw [ak7];omega) fun a4 ha4=>?_;rw [ak7];refine g.uQ (m:=1) (k:=.sl) (v:=y.2.1) 1 (u:=(fJ was ys).ro) rfl (cl E6) ha4 aR yO rfl ?_;refine mF (v:=x.2.2) ?_ ?_ (nY x fI).2 CM ?_
   ·obtain⟨O',gD⟩:=g.kY (i:=0) rfl;exact(HV fI).rd gD
   ·obtain⟨O',gD⟩:=g.kY (i:=1) rfl;rw [aeN];exact(mC E6 HS).rd gD
   refine g.dr fun w3 g=>aJ (by simp) ?_;refine g.uP 0 (u:=(qz s xs).ro) rfl pM (by omega) (by simp;omega) fun a5 ha5=>?_;rw [ak7];refine g.qL (k:=.i .i64) (v:=x.1) 0 (u:=(qz s xs).ro) rfl pM ha5 aR hx rfl ?_;refine g.uP 1 (u:=(fJ was ys).ro) rfl (cl E6) (by omega) (by rw [ak7];omega) fun a6 ha6=>?_;rw [ak7];refine g.qL (k:=.i .i64) (v:=y.1) 1 (u:=(fJ was ys).ro) rfl (cl E6) ha6 aR yO rfl ?_;exact aJ (by rw [aeM];simp) ⟨s.len+8 - (k+1),by omega,k+1,by rw [aI (by omega) (by omega)];omega,by omega,rfl,g⟩
 ·exact aJ (by simp;omega) (hK w1 (h.cn g.fr))
end
section
variable {S:List Nat} {w0 w:World} {ae:List aa}
theorem yn {n:Nat} {g:Int->List Value} {D:List LM} {l c:Sl} {m:Int} {p r:Nat} (h:Hp S w0 w ae) {i j:Nat} (aW:i≠j) (hi:ae[i]? =some (eO n g D)) (hj:ae[j]? =some (Kb (sM l n g (List.replicate p m)) (sM c n g (List.replicate r m)))) (hp:l.len=p) (hr:c.len=r):
  Hp S w0 w ((ae.set i (eO n g (D++ [(l,m),(c,m)]))).set j ao):=
 h.join (c:=eO n g (D++ [(l,m),(c,m)])) aW hi hj rfl rfl rfl (fun w O1 O2 q1 q2 q3=>by
  obtain⟨O3,O4,r1,r2,r3⟩:=q2;refine⟨fun k hk=>?_,fun x hx=>?_⟩
  ·rcases alg.1 hk with hk | hk
   ·exact q1.1 k hk
   ·rcases(r3 k).1 hk with hk | hk
    ·exact(sM l n g (List.replicate p m)).lt r1 k hk
    ·exact(sM c n g (List.replicate r m)).lt r2 k hk
  ·rcases alg.1 hx with hx | hx
   ·exact(q1.2 x hx).mono fun k hk=>amN _ hk
   ·simp only [alF,amp,or_false] at hx
    rcases hx with rfl | rfl
    ·exact⟨O3,by rw [hp];exact r1,fun k hk=>anB _ ((r3 k).2 (.inl hk))⟩
    ·exact⟨O4,by rw [hr];exact r2,fun k hk=>anB _ ((r3 k).2 (.inr hk))⟩)
theorem yo {n:Nat} {g:Int->List Value} {D D':List LM} (h:Hp S w0 w ae) {i:Nat} (hi:ae[i]? =some (eO n g D)) (hd: ∀x∈D',x∈D):Hp S w0 w (ae.set i (eO n g D')):=
 h.rP hi rfl (fun w O hO=>⟨hO.1,fun x hx=>hO.2 x (hd x hx)⟩) rfl
structure GS (n:Nat) (cR new G D:List LM) (ts us:List aa) (k:Nat):Prop where
 hk:k<=new.length
 g:G.length=k
 d: ∀x∈cR++new.take k++G,x∈D
 t:ts.drop k=us.drop k
 l: ∀x∈G,x.1.len<=20000
set_option maxHeartbeats 16000000 in
theorem nB (h:Hp S w0 w ae) (i:Nat) {bp:Nat} {p:PC} {N M:Nat} (hi:ae[i]? =some (bj bp p N M)) (hN:N+2*M<=1000000000)
  {K:World->Prop} (hK: ∀w',Hp S w0 w' (ae.set i (bj bp p (N+2*M) 0))->K w'):V0 (some ⟨bp,6,none⟩) w K:=by
 refine TO ?_;unfold f51;obtain⟨ajk,a1,a2,a3,a4⟩:=CK;obtain⟨agx,b1,b2,b3,b4⟩:=Rj;obtain⟨ajl,d1,d2,d3,d4⟩:=Rk;obtain⟨ajm,i1,i2,i3,i4⟩:=FT.nW;obtain⟨ajn,j1,j2,j3,j4⟩:=ku;obtain⟨agy,e1,e2,e3,e4⟩:=xT;obtain⟨agz,u1,u2,u3,u4⟩:=CB;obtain⟨O,h1,back⟩:=h.f1 hi rfl;clear h;have h:=h1;clear h1;obtain⟨⟨⟨vV,xV,bI,dg⟩,⟨vP,xP,bt,cp⟩,⟨vR,xR,bM,bC⟩⟩,⟨⟨fV1,fV2,fV3,fV4⟩,⟨fP1,fP2,fP3,fP4⟩,⟨fR1,fR2,fR3,fR4⟩⟩,h⟩:=jZ h (i:=0) rfl;dsimp only at fV1 fV2 fV3 fV4 fP1 fP2 fP3 fP4 fR1 fR2 fR3 fR4
 -- phase V
 have h:=gi h (i:=1) rfl;have h:Hp O w w [af bp 53 (BK.cells ⟨⟨vV,xV,bI,dg⟩,⟨vP,xP,bt,cp⟩,⟨vR,xR,bM,bC⟩⟩ p),aj vV 34 1 mz (bI++dg),fM ⟨vP,xP,bt,cp⟩,fN ⟨vR,xR,bM,bC⟩,aj xV 2 1 nx (bI++dg),eO 1 iv bI,ak (dg.map (pend 2 1 iv))]:=h;have gJ:=h.len (s:=vV) 1 rfl;have ja:=h.len (s:=xV) 4 rfl;rw [alb] at gJ ja;refine aS ?_;refine h.JY (k:=.sl) (x:=vV) 0 rfl rfl ?_;refine aS ?_;refine h.pI (n:=6) (m:=6) (k:=.i .i64) (x:=(bI.length:Nat)) 0 rfl rfl ?_;refine⟨fun t mm w'=> ∃(k:Nat) (v x:Sl) (G D:List LM) (ts:List aa),t=((bI.length+k:Nat):Int) /\ GS 1 bI dg G D ts (dg.map (pend 2 1 iv)) k /\ mm=dg.length - k /\ Hp O w w' [af bp 53 (BK.cells ⟨⟨v,x,bI,dg⟩,⟨vP,xP,bt,cp⟩,⟨vR,xR,bM,bC⟩⟩ p),aj v 34 1 mz (bI++dg++G),fM ⟨vP,xP,bt,cp⟩,fN ⟨vR,xR,bM,bC⟩,aj x 2 1 nx (bI++dg++G),eO 1 iv D,ak ts],
  ⟨dg.length,0,vV,xV,[],bI,dg.map (pend 2 1 iv),rfl,⟨by omega,rfl,by simp,rfl,by simp⟩,rfl,by rw [alh];exact h⟩,?_⟩
 clear h;rintro t mm w2 ⟨k,v,x,G,D,ts,rfl,hg,rfl,h⟩;by_cases av:k < dg.length
 ·refine aL (by simp;omega) ?_;have zy:=hg.g;have C0:=h.len (s:=v) 1 rfl;have HX:=h.len (s:=x) 4 rfl;rw [alb,alb] at C0 HX;have hx:(bI++dg++G)[bI.length+k]? =some dg[k]:=by
   rw [ak9 (by rw [alb];omega),ak8 (by omega),amn];simp [av]
  have ht:ts[k]? =some (pend 2 1 iv dg[k]):=by
   have e:=congrArg (fun L=>L[0]?) hg.t
   simpa [av] using e
  have lL:=fV4 _ (alz av);have dU:dg.take (k+1)=dg.take k++ [dg[k]]:=by rw [amH];simp [av]
  generalize dg[k]=y at hx ht lL dU;obtain⟨l,m⟩:=y;dsimp only at lL;refine aS ?_;refine h.JY (k:=.sl) (x:=v) 0 rfl rfl ?_;refine h.fz (k:=.sl) (y:=((l,m):LM)) (x:=l) 1 rfl (by omega) (by rw [ak7];exact hx) gS rfl ?_;have h:=h.pick (i:=6) (k:=k) rfl ht rfl;have h:=h.xv (j:=7) (l:=l) (e:=2) (n:=1) (f:=iv) (y:=m) (p:=l.len) rfl;have h:Hp O w w2 [af bp 53 (BK.cells ⟨⟨v,x,bI,dg⟩,⟨vP,xP,bt,cp⟩,⟨vR,xR,bM,bC⟩⟩ p),aj v 34 1 mz (bI++dg++G),fM ⟨vP,xP,bt,cp⟩,fN ⟨vR,xR,bM,bC⟩,aj x 2 1 nx (bI++dg++G),eO 1 iv D,ak (ts.set k ao),Hc 2 1 iv l l m l.len l.len]:=h;refine⟨fun l2 t mm w'=> ∃q:Nat,t=q /\ q<=70 /\ mm+q=70 /\ Hp O w w' [af bp 53 (BK.cells ⟨⟨v,x,bI,dg⟩,⟨vP,xP,bt,cp⟩,⟨vR,xR,bM,bC⟩⟩ p),aj v 34 1 mz (bI++dg++G),fM ⟨vP,xP,bt,cp⟩,fN ⟨vR,xR,bM,bC⟩,aj x 2 1 nx (bI++dg++G),eO 1 iv D,ak (ts.set k ao),Hc 2 1 iv l l2 m l.len (l.len+q)],⟨70,0,rfl,by omega,by omega,h⟩,?_⟩;clear h;rintro l2 t mm w3 ⟨q,rfl,hq,WV,h⟩;have fin:NN (some ⟨bp,6,none⟩) fun(Nv:Addr)=>
 Ld .sl w3 Nv fun(v3:Sl)=>
 Nw (.cells #[.slice l2.a l2.len l2.cap] 34) w3 fun(b3:Addr) wz=>
 cA .sl Tryz.prog (Builtin.append_ #[46,46] 46 #[.slice v3.a v3.len v3.cap,.slice (some b3) 1 1]) wz fun(s:Sl) wz=>
 NN (some ⟨bp,6,none⟩) fun(Xo:Addr)=>
 St Xo (.slice s.a s.len s.cap) wz fun wz=>
 Dr wz fun wz=>
 NN (some ⟨bp,6,none⟩) fun(Xp:Addr)=>
 Ld .sl wz (Xp.add 3) fun(x3:Sl)=>
 NN (some ⟨bp,6,none⟩) fun(Xq:Addr)=>
 Ld .sl wz (Xq.add 3) fun(x4:Sl)=>
 Ix x4.a x4.len ((bI.length+k:Nat):Int) 1 fun(a3:Addr)=>
 Ld (.i .i64) wz a3 fun(x5:Int)=>
 Nw (.cells #[.int .i64 x5] 2) wz fun(b4:Addr) wz=>
 cA .sl Tryz.prog (Builtin.append_ #[34,34] 34 #[.slice x3.a x3.len x3.cap,.slice (some b4) 1 1]) wz fun(s2:Sl) wz=>
 NN (some ⟨bp,6,none⟩) fun(Jk:Addr)=>
 St (Jk.add 3) (.slice s2.a s2.len s2.cap) wz fun wz=>
 ∃m2:Nat,m2 < dg.length - k /\ ∃(k':Nat) (v x:Sl) (G D:List LM) (ts:List aa),i64.wrap (((bI.length+k:Nat):Int)+1)=((bI.length+k':Nat):Int) /\ GS 1 bI dg G D ts (dg.map (pend 2 1 iv)) k' /\ m2=dg.length - k' /\ Hp O w wz [af bp 53 (BK.cells ⟨⟨v,x,bI,dg⟩,⟨vP,xP,bt,cp⟩,⟨vR,xR,bM,bC⟩⟩ p),aj v 34 1 mz (bI++dg++G),fM ⟨vP,xP,bt,cp⟩,fN ⟨vR,xR,bM,bC⟩,aj x 2 1 nx (bI++dg++G),eO 1 iv D,ak ts]:=by
   have vy:=(h.Ax (e:=2) (n:=1) (f:=iv) (l:=l) (c:=l2) (y:=m) (p:=l.len) (m:=l.len+q) 7 rfl).1;have h:=h.Aw (j:=7) (e:=2) (n:=1) (f:=iv) (l:=l) (c:=l2) (y:=m) (p:=l.len) (m:=l.len+q) rfl;have h:=yn h (i:=5) (j:=7) (by decide) rfl rfl rfl vy;refine aS ?_;refine h.JY (k:=.sl) (x:=v) 0 rfl rfl ?_;refine h.cj 1 ((l2,m):LM) (c:= [_]) rfl gS Rg a1 a3 a2 rfl rfl (by simp [Value.oneCell']) (by rw [a4];omega) (by omega) fun s wa h hs _=>?_;refine aS ?_;refine h.UD 0 rfl (by simp) rfl fun wb h=>?_;refine h.dr fun wc h=>?_;refine aS ?_;refine h.pI (n:=6) (m:=3) (k:=.sl) (x:=x) 0 rfl rfl ?_;refine aS ?_;refine h.pI (n:=6) (m:=3) (k:=.sl) (x:=x) 0 rfl rfl ?_;refine h.fz (k:=.i .i64) (y:=((l,m):LM)) (x:=m) 4 rfl (by omega) (by rw [ak7];exact hx) fj rfl ?_;refine h.cj 4 ((l2,m):LM) (c:= [_]) rfl fj LA j1 j3 j2 rfl rfl (by simp [Value.oneCell']) (by rw [j4];omega) (by omega) fun s2 wd h pM _=>?_;refine aS ?_;refine h.Dg (m:=3) 0 rfl (by simp) rfl fun we h=>?_;rw [ale (bI++dg) G] at h;have h:Hp O w we [af bp 53 (BK.cells ⟨⟨s,s2,bI,dg⟩,⟨vP,xP,bt,cp⟩,⟨vR,xR,bM,bC⟩⟩ p),aj s 34 1 mz (bI++dg++(G++ [(l2,m)])),fM ⟨vP,xP,bt,cp⟩,fN ⟨vR,xR,bM,bC⟩,aj s2 2 1 nx (bI++dg++(G++ [(l2,m)])),eO 1 iv (D++ [(l,m),(l2,m)]),ak (ts.set k ao)]:=h.trim 7;refine⟨dg.length - (k+1),by omega,k+1,s,s2,G++ [(l2,m)],D++ [(l,m),(l2,m)],ts.set k ao,by rw [aI (by omega) (by omega)];omega,⟨by omega,by simp [zy],fun y hy=>?_,by
    rw [amo (by omega),<-al3,hg.t,al3],fun y hy=>?_⟩,rfl,h⟩
   ·rw [dU] at hy;simp only [alg,alF,amp,or_false] at hy ⊢;have:=hg.d y;simp only [alg] at this
    rcases hy with (hy | hy | hy) | hy | hy
    ·exact .inl (this (.inl (.inl hy)))
    ·exact .inl (this (.inl (.inr hy)))
    ·exact .inr (.inl hy)
    ·exact .inl (this (.inr hy))
    ·exact .inr (.inr hy)
   ·rcases alg.1 hy with hy | hy
    ·exact hg.l y hy
    ·simp only [ali] at hy;subst hy;show l2.len<=20000;omega
  refine aS ?_;refine h.pI (n:=6) (m:=6) (k:=.i .i64) (x:=(bI.length:Nat)) 0 rfl rfl ?_;refine CL fun r hr=>?_;by_cases hqr:q < r
  ·refine aL (by simp;omega) ?_;refine aS ?_;refine h.pI (n:=6) (m:=3) (k:=.sl) (x:=x) 0 rfl rfl ?_;refine h.fz (k:=.i .i64) (y:=((l,m):LM)) (x:=m) 4 rfl (by omega) (by rw [ak7];exact hx) fj rfl ?_;refine h.Ep 7 m (e':=2) (c':=1) (l:=l) (c:=l2) (p:=l.len) (m:=l.len+q) (cs:=iv m) rfl aB LA j1 j3 j2 rfl rfl (by simp [iv,Value.oneCell']) (by rw [j4];omega) (by omega) fun l3 wb h=>?_;exact⟨69 - q,by omega,q+1,by rw [aI (by omega) (by omega)];omega,by omega,by omega,h⟩
  ·exact aJ (by simp;omega) fin
 ·refine aJ (by simp;omega) ?_;have zy:=hg.g;obtain rfl:k=dg.length:=by have:=hg.hk;omega
  have C0:=h.len (s:=v) 1 rfl;refine aS ?_;refine h.JY (k:=.sl) (x:=v) 0 rfl rfl ?_;refine aS ?_;refine h.Dg (m:=6) 0 rfl (by simp) rfl fun w4 h=>?_;have h:=h.OS (i:=6) rfl (aM _);have h:=yo h (i:=5) (n:=1) (g:=iv) (D:=D) (D':=bI++dg++G) rfl (fun y hy=>hg.d y (by rw [aln (alA _)];exact hy));have FQ:(bI++dg++G).length=v.len:=by have:=h.len (s:=v) 1 rfl;exact this
  have aZ:Sh.fits ⟨v,x,bI++dg++G,[]⟩ (N+2*M) 0:=⟨by simp only [alb];omega,by simp,fun y hy=>by
   rcases alg.1 hy with hy | hy
   ·rcases alg.1 hy with hy | hy
    ·exact fV3 y hy
    ·have:=fV4 y hy;omega
   ·exact hg.l y hy,fun y hy=>by cases hy⟩
  have h:Hp O w w4 [af bp 53 (BK.cells ⟨⟨v,x,bI++dg++G,[]⟩,⟨vP,xP,bt,cp⟩,⟨vR,xR,bM,bC⟩⟩ p),aj v 34 1 mz (bI++dg++G),fM ⟨vP,xP,bt,cp⟩,fN ⟨vR,xR,bM,bC⟩,aj x 2 1 nx (bI++dg++G),eO 1 iv (bI++dg++G),ao]:=by
   have e:(BK.cells ⟨⟨v,x,bI++dg++G,[]⟩,⟨vP,xP,bt,cp⟩,⟨vR,xR,bM,bC⟩⟩ p)=((BK.cells ⟨⟨v,x,bI,dg⟩,⟨vP,xP,bt,cp⟩,⟨vR,xR,bM,bC⟩⟩ p).set 12 (.int .i64 (v.len:Int))):=by
    show [_,_,_,_,_,_,_,_,_,_,_,_,_,_,_]= [_,_,_,_,_,_,_,_,_,_,_,_,_,_,_];rw [FQ]
   rw [e];exact h
  have h:Hp O w w4 [aj v 34 1 mz (bI++dg++G++ []),aj x 2 1 nx (bI++dg++G++ []),eO 1 iv (bI++dg++G),ak (([]:List LM).map (pend 2 1 iv)),af bp 53 (BK.cells ⟨⟨v,x,bI++dg++G,[]⟩,⟨vP,xP,bt,cp⟩,⟨vR,xR,bM,bC⟩⟩ p),fM ⟨vP,xP,bt,cp⟩,fN ⟨vR,xR,bM,bC⟩]:=by
   rw [alh];exact h.ic [1,4,5,6,0,2,3] (by decide) rfl
  have h:=hJ ⟨v,x,bI++dg++G,[]⟩ h;have h:Hp O w w4 [af bp 53 (BK.cells ⟨⟨v,x,bI++dg++G,[]⟩,⟨vP,xP,bt,cp⟩,⟨vR,xR,bM,bC⟩⟩ p),fM ⟨vP,xP,bt,cp⟩,gh ⟨v,x,bI++dg++G,[]⟩,fN ⟨vR,xR,bM,bC⟩]:=h.ic [1,2,0,3] (by decide) rfl;clear FQ;generalize bI++dg++G=bI at aZ h;generalize v=vV at aZ h;generalize x=xV at aZ h;have hfV:=aZ;clear aZ
  -- phase P
  have h:=gi h (i:=1) rfl;have h:Hp O w w4 [af bp 53 (BK.cells ⟨⟨vV,xV,bI,[]⟩,⟨vP,xP,bt,cp⟩,⟨vR,xR,bM,bC⟩⟩ p),aj vP 37 1 mz (bt++cp),gh ⟨vV,xV,bI,[]⟩,fN ⟨vR,xR,bM,bC⟩,aj xP 3 1 nx (bt++cp),eO 2 g1 bt,ak (cp.map (pend 36 2 g1))]:=h;have gJ:=h.len (s:=vP) 1 rfl;have ja:=h.len (s:=xP) 4 rfl;rw [alb] at gJ ja;refine aS ?_;refine h.pI (n:=6) (m:=1) (k:=.sl) (x:=vP) 0 rfl rfl ?_;refine aS ?_;refine h.pI (n:=6) (m:=7) (k:=.i .i64) (x:=(bt.length:Nat)) 0 rfl rfl ?_;refine⟨fun t mm w'=> ∃(k:Nat) (v x:Sl) (G D:List LM) (ts:List aa),t=((bt.length+k:Nat):Int) /\ GS 2 bt cp G D ts (cp.map (pend 36 2 g1)) k /\ mm=cp.length - k /\ Hp O w w' [af bp 53 (BK.cells ⟨⟨vV,xV,bI,[]⟩,⟨v,x,bt,cp⟩,⟨vR,xR,bM,bC⟩⟩ p),aj v 37 1 mz (bt++cp++G),gh ⟨vV,xV,bI,[]⟩,fN ⟨vR,xR,bM,bC⟩,aj x 3 1 nx (bt++cp++G),eO 2 g1 D,ak ts],
   ⟨cp.length,0,vP,xP,[],bt,cp.map (pend 36 2 g1),rfl,⟨by omega,rfl,by simp,rfl,by simp⟩,rfl,by rw [alh];exact h⟩,?_⟩
  clear h;rintro t mm w5 ⟨k,v,x,G,D,ts,rfl,hg,rfl,h⟩;by_cases av:k < cp.length
  ·refine aL (by simp;omega) ?_;have zy:=hg.g;have C0:=h.len (s:=v) 1 rfl;have HX:=h.len (s:=x) 4 rfl;rw [alb,alb] at C0 HX;have hx:(bt++cp++G)[bt.length+k]? =some cp[k]:=by
    rw [ak9 (by rw [alb];omega),ak8 (by omega),amn];simp [av]
   have ht:ts[k]? =some (pend 36 2 g1 cp[k]):=by
    have e:=congrArg (fun L=>L[0]?) hg.t
    simpa [av] using e
   have lL:=fP4 _ (alz av);have dU:cp.take (k+1)=cp.take k++ [cp[k]]:=by rw [amH];simp [av]
   generalize cp[k]=y at hx ht lL dU;obtain⟨l,m⟩:=y;dsimp only at lL;refine aS ?_;refine h.pI (n:=6) (m:=1) (k:=.sl) (x:=v) 0 rfl rfl ?_;refine h.fz (k:=.sl) (y:=((l,m):LM)) (x:=l) 1 rfl (by omega) (by rw [ak7];exact hx) gS rfl ?_;have h:=h.pick (i:=6) (k:=k) rfl ht rfl;have h:=h.xv (j:=7) (l:=l) (e:=36) (n:=2) (f:=g1) (y:=m) (p:=l.len) rfl;have h:Hp O w w5 [af bp 53 (BK.cells ⟨⟨vV,xV,bI,[]⟩,⟨v,x,bt,cp⟩,⟨vR,xR,bM,bC⟩⟩ p),aj v 37 1 mz (bt++cp++G),gh ⟨vV,xV,bI,[]⟩,fN ⟨vR,xR,bM,bC⟩,aj x 3 1 nx (bt++cp++G),eO 2 g1 D,ak (ts.set k ao),Hc 36 2 g1 l l m l.len l.len]:=h;refine⟨fun l2 t mm w'=> ∃q:Nat,t=q /\ q<=70 /\ mm+q=70 /\ Hp O w w' [af bp 53 (BK.cells ⟨⟨vV,xV,bI,[]⟩,⟨v,x,bt,cp⟩,⟨vR,xR,bM,bC⟩⟩ p),aj v 37 1 mz (bt++cp++G),gh ⟨vV,xV,bI,[]⟩,fN ⟨vR,xR,bM,bC⟩,aj x 3 1 nx (bt++cp++G),eO 2 g1 D,ak (ts.set k ao),Hc 36 2 g1 l l2 m l.len (l.len+q)],⟨70,0,rfl,by omega,by omega,h⟩,?_⟩;clear h;rintro l2 t mm w6 ⟨q,rfl,hq,WV,h⟩;have fin:NN (some ⟨bp,6,none⟩) fun(Nv:Addr)=>
  Ld .sl w6 (Nv.add 1) fun(p3:Sl)=>
  Nw (.cells #[.slice l2.a l2.len l2.cap] 37) w6 fun(b6:Addr) wz=>
  cA .sl Tryz.prog (Builtin.append_ #[47,47] 47 #[.slice p3.a p3.len p3.cap,.slice (some b6) 1 1]) wz fun(s3:Sl) wz=>
  NN (some ⟨bp,6,none⟩) fun(TG:Addr)=>
  St (TG.add 1) (.slice s3.a s3.len s3.cap) wz fun wz=>
  Dr wz fun wz=>
  NN (some ⟨bp,6,none⟩) fun(TH:Addr)=>
  Ld .sl wz (TH.add 4) fun(y2:Sl)=>
  NN (some ⟨bp,6,none⟩) fun(TI:Addr)=>
  Ld .sl wz (TI.add 4) fun(y3:Sl)=>
  Ix y3.a y3.len ((bt.length+k:Nat):Int) 1 fun(a6:Addr)=>
  Ld (.i .i64) wz a6 fun(x7:Int)=>
  Nw (.cells #[.int .i64 x7] 3) wz fun(b7:Addr) wz=>
  cA .sl Tryz.prog (Builtin.append_ #[49,49] 49 #[.slice y2.a y2.len y2.cap,.slice (some b7) 1 1]) wz fun(s4:Sl) wz=>
  NN (some ⟨bp,6,none⟩) fun(TJ:Addr)=>
  St (TJ.add 4) (.slice s4.a s4.len s4.cap) wz fun wz=>
  ∃m2:Nat,m2 < cp.length - k /\ ∃(k':Nat) (v x:Sl) (G D:List LM) (ts:List aa),i64.wrap (((bt.length+k:Nat):Int)+1)=((bt.length+k':Nat):Int) /\ GS 2 bt cp G D ts (cp.map (pend 36 2 g1)) k' /\ m2=cp.length - k' /\ Hp O w wz [af bp 53 (BK.cells ⟨⟨vV,xV,bI,[]⟩,⟨v,x,bt,cp⟩,⟨vR,xR,bM,bC⟩⟩ p),aj v 37 1 mz (bt++cp++G),gh ⟨vV,xV,bI,[]⟩,fN ⟨vR,xR,bM,bC⟩,aj x 3 1 nx (bt++cp++G),eO 2 g1 D,ak ts]:=by
    have vy:=(h.Ax (e:=36) (n:=2) (f:=g1) (l:=l) (c:=l2) (y:=m) (p:=l.len) (m:=l.len+q) 7 rfl).1;have h:=h.Aw (j:=7) (e:=36) (n:=2) (f:=g1) (l:=l) (c:=l2) (y:=m) (p:=l.len) (m:=l.len+q) rfl;have h:=yn h (i:=5) (j:=7) (by decide) rfl rfl rfl vy;refine aS ?_;refine h.pI (n:=6) (m:=1) (k:=.sl) (x:=v) 0 rfl rfl ?_;refine h.cj 1 ((l2,m):LM) (c:= [_]) rfl gS Rh b1 b3 b2 rfl rfl (by simp [Value.oneCell']) (by rw [b4];omega) (by omega) fun s wa h hs _=>?_;refine aS ?_;refine h.Dg (m:=1) 0 rfl (by simp) rfl fun wb h=>?_;refine h.dr fun wc h=>?_;refine aS ?_;refine h.pI (n:=6) (m:=4) (k:=.sl) (x:=x) 0 rfl rfl ?_;refine aS ?_;refine h.pI (n:=6) (m:=4) (k:=.sl) (x:=x) 0 rfl rfl ?_;refine h.fz (k:=.i .i64) (y:=((l,m):LM)) (x:=m) 4 rfl (by omega) (by rw [ak7];exact hx) fj rfl ?_;refine h.cj 4 ((l2,m):LM) (c:= [_]) rfl fj Gl i1 i3 i2 rfl rfl (by simp [Value.oneCell']) (by rw [i4];omega) (by omega) fun s2 wd h pM _=>?_;refine aS ?_;refine h.Dg (m:=4) 0 rfl (by simp) rfl fun we h=>?_;rw [ale (bt++cp) G] at h;have h:Hp O w we [af bp 53 (BK.cells ⟨⟨vV,xV,bI,[]⟩,⟨s,s2,bt,cp⟩,⟨vR,xR,bM,bC⟩⟩ p),aj s 37 1 mz (bt++cp++(G++ [(l2,m)])),gh ⟨vV,xV,bI,[]⟩,fN ⟨vR,xR,bM,bC⟩,aj s2 3 1 nx (bt++cp++(G++ [(l2,m)])),eO 2 g1 (D++ [(l,m),(l2,m)]),ak (ts.set k ao)]:=h.trim 7;refine⟨cp.length - (k+1),by omega,k+1,s,s2,G++ [(l2,m)],D++ [(l,m),(l2,m)],ts.set k ao,by rw [aI (by omega) (by omega)];omega,⟨by omega,by simp [zy],fun y hy=>?_,by
     rw [amo (by omega),<-al3,hg.t,al3],fun y hy=>?_⟩,rfl,h⟩
    ·rw [dU] at hy;simp only [alg,alF,amp,or_false] at hy ⊢;have:=hg.d y;simp only [alg] at this
     rcases hy with (hy | hy | hy) | hy | hy
     ·exact .inl (this (.inl (.inl hy)))
     ·exact .inl (this (.inl (.inr hy)))
     ·exact .inr (.inl hy)
     ·exact .inl (this (.inr hy))
     ·exact .inr (.inr hy)
    ·rcases alg.1 hy with hy | hy
     ·exact hg.l y hy
     ·simp only [ali] at hy;subst hy;show l2.len<=20000;omega
   refine aS ?_;refine h.pI (n:=6) (m:=7) (k:=.i .i64) (x:=(bt.length:Nat)) 0 rfl rfl ?_;refine CL fun r hr=>?_;by_cases hqr:q < r
   ·refine aL (by simp;omega) ?_;refine aS ?_;refine h.pI (n:=6) (m:=4) (k:=.sl) (x:=x) 0 rfl rfl ?_;refine h.fz (k:=.i .i64) (y:=((l,m):LM)) (x:=m) 4 rfl (by omega) (by rw [ak7];exact hx) fj rfl ?_;refine h.Ep 7 m (e':=36) (c':=1) (l:=l) (c:=l2) (p:=l.len) (m:=l.len+q) (cs:=g1 m) rfl E1 nL e1 e3 e2 rfl rfl (by simp [Value.oneCell']) (by rw [e4];omega) (by omega) fun l3 wb h=>?_;exact⟨69 - q,by omega,q+1,by rw [aI (by omega) (by omega)];omega,by omega,by omega,h⟩
   ·exact aJ (by simp;omega) fin
  ·refine aJ (by simp;omega) ?_;have zy:=hg.g;obtain rfl:k=cp.length:=by have:=hg.hk;omega
   have C0:=h.len (s:=v) 1 rfl;refine aS ?_;refine h.pI (n:=6) (m:=1) (k:=.sl) (x:=v) 0 rfl rfl ?_;refine aS ?_;refine h.Dg (m:=7) 0 rfl (by simp) rfl fun w7 h=>?_;have h:=h.OS (i:=6) rfl (aM _);have h:=yo h (i:=5) (n:=2) (g:=g1) (D:=D) (D':=bt++cp++G) rfl (fun y hy=>hg.d y (by rw [aln (alA _)];exact hy));have FQ:(bt++cp++G).length=v.len:=by have:=h.len (s:=v) 1 rfl;exact this
   have aZ:Sh.fits ⟨v,x,bt++cp++G,[]⟩ (N+2*M) 0:=⟨by simp only [alb];omega,by simp,fun y hy=>by
    rcases alg.1 hy with hy | hy
    ·rcases alg.1 hy with hy | hy
     ·exact fP3 y hy
     ·have:=fP4 y hy;omega
    ·exact hg.l y hy,fun y hy=>by cases hy⟩
   have h:Hp O w w7 [af bp 53 (BK.cells ⟨⟨vV,xV,bI,[]⟩,⟨v,x,bt++cp++G,[]⟩,⟨vR,xR,bM,bC⟩⟩ p),aj v 37 1 mz (bt++cp++G),gh ⟨vV,xV,bI,[]⟩,fN ⟨vR,xR,bM,bC⟩,aj x 3 1 nx (bt++cp++G),eO 2 g1 (bt++cp++G),ao]:=by
    have e:(BK.cells ⟨⟨vV,xV,bI,[]⟩,⟨v,x,bt++cp++G,[]⟩,⟨vR,xR,bM,bC⟩⟩ p)=((BK.cells ⟨⟨vV,xV,bI,[]⟩,⟨v,x,bt,cp⟩,⟨vR,xR,bM,bC⟩⟩ p).set 13 (.int .i64 (v.len:Int))):=by
     show [_,_,_,_,_,_,_,_,_,_,_,_,_,_,_]= [_,_,_,_,_,_,_,_,_,_,_,_,_,_,_];rw [FQ]
    rw [e];exact h
   have h:Hp O w w7 [aj v 37 1 mz (bt++cp++G++ []),aj x 3 1 nx (bt++cp++G++ []),eO 2 g1 (bt++cp++G),ak (([]:List LM).map (pend 36 2 g1)),af bp 53 (BK.cells ⟨⟨vV,xV,bI,[]⟩,⟨v,x,bt++cp++G,[]⟩,⟨vR,xR,bM,bC⟩⟩ p),gh ⟨vV,xV,bI,[]⟩,fN ⟨vR,xR,bM,bC⟩]:=by
    rw [alh];exact h.ic [1,4,5,6,0,2,3] (by decide) rfl
   have h:=hJ ⟨v,x,bt++cp++G,[]⟩ h;have h:Hp O w w7 [af bp 53 (BK.cells ⟨⟨vV,xV,bI,[]⟩,⟨v,x,bt++cp++G,[]⟩,⟨vR,xR,bM,bC⟩⟩ p),fN ⟨vR,xR,bM,bC⟩,gh ⟨vV,xV,bI,[]⟩,fM ⟨v,x,bt++cp++G,[]⟩]:=h.ic [1,3,2,0] (by decide) rfl;clear FQ;generalize bt++cp++G=bt at aZ h;generalize v=vP at aZ h;generalize x=xP at aZ h;have hfP:=aZ;clear aZ
   -- phase R
   have h:=gi h (i:=1) rfl;have h:Hp O w w7 [af bp 53 (BK.cells ⟨⟨vV,xV,bI,[]⟩,⟨vP,xP,bt,[]⟩,⟨vR,xR,bM,bC⟩⟩ p),aj vR 71 1 mz (bM++bC),gh ⟨vV,xV,bI,[]⟩,fM ⟨vP,xP,bt,[]⟩,aj xR 3 1 nx (bM++bC),eO 3 g2 bM,ak (bC.map (pend 75 3 g2))]:=h;have gJ:=h.len (s:=vR) 1 rfl;have ja:=h.len (s:=xR) 4 rfl;rw [alb] at gJ ja;refine aS ?_;refine h.pI (n:=6) (m:=2) (k:=.sl) (x:=vR) 0 rfl rfl ?_;refine aS ?_;refine h.pI (n:=6) (m:=8) (k:=.i .i64) (x:=(bM.length:Nat)) 0 rfl rfl ?_;refine⟨fun t mm w'=> ∃(k:Nat) (v x:Sl) (G D:List LM) (ts:List aa),t=((bM.length+k:Nat):Int) /\ GS 3 bM bC G D ts (bC.map (pend 75 3 g2)) k /\ mm=bC.length - k /\ Hp O w w' [af bp 53 (BK.cells ⟨⟨vV,xV,bI,[]⟩,⟨vP,xP,bt,[]⟩,⟨v,x,bM,bC⟩⟩ p),aj v 71 1 mz (bM++bC++G),gh ⟨vV,xV,bI,[]⟩,fM ⟨vP,xP,bt,[]⟩,aj x 3 1 nx (bM++bC++G),eO 3 g2 D,ak ts],
    ⟨bC.length,0,vR,xR,[],bM,bC.map (pend 75 3 g2),rfl,⟨by omega,rfl,by simp,rfl,by simp⟩,rfl,by rw [alh];exact h⟩,?_⟩
   clear h;rintro t mm w8 ⟨k,v,x,G,D,ts,rfl,hg,rfl,h⟩;by_cases av:k < bC.length
   ·refine aL (by simp;omega) ?_;have zy:=hg.g;have C0:=h.len (s:=v) 1 rfl;have HX:=h.len (s:=x) 4 rfl;rw [alb,alb] at C0 HX;have hx:(bM++bC++G)[bM.length+k]? =some bC[k]:=by
     rw [ak9 (by rw [alb];omega),ak8 (by omega),amn];simp [av]
    have ht:ts[k]? =some (pend 75 3 g2 bC[k]):=by
     have e:=congrArg (fun L=>L[0]?) hg.t
     simpa [av] using e
    have lL:=fR4 _ (alz av);have dU:bC.take (k+1)=bC.take k++ [bC[k]]:=by rw [amH];simp [av]
    generalize bC[k]=y at hx ht lL dU;obtain⟨l,m⟩:=y;dsimp only at lL;refine aS ?_;refine h.pI (n:=6) (m:=2) (k:=.sl) (x:=v) 0 rfl rfl ?_;refine h.fz (k:=.sl) (y:=((l,m):LM)) (x:=l) 1 rfl (by omega) (by rw [ak7];exact hx) gS rfl ?_;have h:=h.pick (i:=6) (k:=k) rfl ht rfl;have h:=h.xv (j:=7) (l:=l) (e:=75) (n:=3) (f:=g2) (y:=m) (p:=l.len) rfl;have h:Hp O w w8 [af bp 53 (BK.cells ⟨⟨vV,xV,bI,[]⟩,⟨vP,xP,bt,[]⟩,⟨v,x,bM,bC⟩⟩ p),aj v 71 1 mz (bM++bC++G),gh ⟨vV,xV,bI,[]⟩,fM ⟨vP,xP,bt,[]⟩,aj x 3 1 nx (bM++bC++G),eO 3 g2 D,ak (ts.set k ao),Hc 75 3 g2 l l m l.len l.len]:=h;refine⟨fun l2 t mm w'=> ∃q:Nat,t=q /\ q<=70 /\ mm+q=70 /\ Hp O w w' [af bp 53 (BK.cells ⟨⟨vV,xV,bI,[]⟩,⟨vP,xP,bt,[]⟩,⟨v,x,bM,bC⟩⟩ p),aj v 71 1 mz (bM++bC++G),gh ⟨vV,xV,bI,[]⟩,fM ⟨vP,xP,bt,[]⟩,aj x 3 1 nx (bM++bC++G),eO 3 g2 D,ak (ts.set k ao),Hc 75 3 g2 l l2 m l.len (l.len+q)],⟨70,0,rfl,by omega,by omega,h⟩,?_⟩;clear h;rintro l2 t mm w9 ⟨q,rfl,hq,WV,h⟩;have fin:NN (some ⟨bp,6,none⟩) fun(Nv:Addr)=>
   Ld .sl w9 (Nv.add 2) fun(r5:Sl)=>
   Nw (.cells #[.slice l2.a l2.len l2.cap] 71) w9 fun(b9:Addr) wz=>
   cA .sl Tryz.prog (Builtin.append_ #[48,48] 48 #[.slice r5.a r5.len r5.cap,.slice (some b9) 1 1]) wz fun(s5:Sl) wz=>
   NN (some ⟨bp,6,none⟩) fun(TK:Addr)=>
   St (TK.add 2) (.slice s5.a s5.len s5.cap) wz fun wz=>
   Dr wz fun wz=>
   NN (some ⟨bp,6,none⟩) fun(TL:Addr)=>
   Ld .sl wz (TL.add 5) fun(z2:Sl)=>
   NN (some ⟨bp,6,none⟩) fun(TM:Addr)=>
   Ld .sl wz (TM.add 5) fun(z3:Sl)=>
   Ix z3.a z3.len ((bM.length+k:Nat):Int) 1 fun(a9:Addr)=>
   Ld (.i .i64) wz a9 fun(x9:Int)=>
   Nw (.cells #[.int .i64 x9] 3) wz fun(V7:Addr) wz=>
   cA .sl Tryz.prog (Builtin.append_ #[49,49] 49 #[.slice z2.a z2.len z2.cap,.slice (some V7) 1 1]) wz fun(s6:Sl) wz=>
   NN (some ⟨bp,6,none⟩) fun(TN:Addr)=>
   St (TN.add 5) (.slice s6.a s6.len s6.cap) wz fun wz=>
   ∃m2:Nat,m2 < bC.length - k /\ ∃(k':Nat) (v x:Sl) (G D:List LM) (ts:List aa),i64.wrap (((bM.length+k:Nat):Int)+1)=((bM.length+k':Nat):Int) /\ GS 3 bM bC G D ts (bC.map (pend 75 3 g2)) k' /\ m2=bC.length - k' /\ Hp O w wz [af bp 53 (BK.cells ⟨⟨vV,xV,bI,[]⟩,⟨vP,xP,bt,[]⟩,⟨v,x,bM,bC⟩⟩ p),aj v 71 1 mz (bM++bC++G),gh ⟨vV,xV,bI,[]⟩,fM ⟨vP,xP,bt,[]⟩,aj x 3 1 nx (bM++bC++G),eO 3 g2 D,ak ts]:=by
     have vy:=(h.Ax (e:=75) (n:=3) (f:=g2) (l:=l) (c:=l2) (y:=m) (p:=l.len) (m:=l.len+q) 7 rfl).1;have h:=h.Aw (j:=7) (e:=75) (n:=3) (f:=g2) (l:=l) (c:=l2) (y:=m) (p:=l.len) (m:=l.len+q) rfl;have h:=yn h (i:=5) (j:=7) (by decide) rfl rfl rfl vy;refine aS ?_;refine h.pI (n:=6) (m:=2) (k:=.sl) (x:=v) 0 rfl rfl ?_;refine h.cj 1 ((l2,m):LM) (c:= [_]) rfl gS Ri d1 d3 d2 rfl rfl (by simp [Value.oneCell']) (by rw [d4];omega) (by omega) fun s wa h hs _=>?_;refine aS ?_;refine h.Dg (m:=2) 0 rfl (by simp) rfl fun wb h=>?_;refine h.dr fun wc h=>?_;refine aS ?_;refine h.pI (n:=6) (m:=5) (k:=.sl) (x:=x) 0 rfl rfl ?_;refine aS ?_;refine h.pI (n:=6) (m:=5) (k:=.sl) (x:=x) 0 rfl rfl ?_;refine h.fz (k:=.i .i64) (y:=((l,m):LM)) (x:=m) 4 rfl (by omega) (by rw [ak7];exact hx) fj rfl ?_;refine h.cj 4 ((l2,m):LM) (c:= [_]) rfl fj Gl i1 i3 i2 rfl rfl (by simp [Value.oneCell']) (by rw [i4];omega) (by omega) fun s2 wd h pM _=>?_;refine aS ?_;refine h.Dg (m:=5) 0 rfl (by simp) rfl fun we h=>?_;rw [ale (bM++bC) G] at h;have h:Hp O w we [af bp 53 (BK.cells ⟨⟨vV,xV,bI,[]⟩,⟨vP,xP,bt,[]⟩,⟨s,s2,bM,bC⟩⟩ p),aj s 71 1 mz (bM++bC++(G++ [(l2,m)])),gh ⟨vV,xV,bI,[]⟩,fM ⟨vP,xP,bt,[]⟩,aj s2 3 1 nx (bM++bC++(G++ [(l2,m)])),eO 3 g2 (D++ [(l,m),(l2,m)]),ak (ts.set k ao)]:=h.trim 7;refine⟨bC.length - (k+1),by omega,k+1,s,s2,G++ [(l2,m)],D++ [(l,m),(l2,m)],ts.set k ao,by rw [aI (by omega) (by omega)];omega,⟨by omega,by simp [zy],fun y hy=>?_,by
      rw [amo (by omega),<-al3,hg.t,al3],fun y hy=>?_⟩,rfl,h⟩
     ·rw [dU] at hy;simp only [alg,alF,amp,or_false] at hy ⊢;have:=hg.d y;simp only [alg] at this
      rcases hy with (hy | hy | hy) | hy | hy
      ·exact .inl (this (.inl (.inl hy)))
      ·exact .inl (this (.inl (.inr hy)))
      ·exact .inr (.inl hy)
      ·exact .inl (this (.inr hy))
      ·exact .inr (.inr hy)
     ·rcases alg.1 hy with hy | hy
      ·exact hg.l y hy
      ·simp only [ali] at hy;subst hy;show l2.len<=20000;omega
    by_cases hqr:q < 70
    ·refine aL (by simp;omega) ?_;refine aS ?_;refine h.pI (n:=6) (m:=5) (k:=.sl) (x:=x) 0 rfl rfl ?_;refine h.fz (k:=.i .i64) (y:=((l,m):LM)) (x:=m) 4 rfl (by omega) (by rw [ak7];exact hx) fj rfl ?_;refine h.Ep 7 m (e':=75) (c':=1) (l:=l) (c:=l2) (p:=l.len) (m:=l.len+q) (cs:=g2 m) rfl E2 vc u1 u3 u2 rfl rfl (by simp [Value.oneCell']) (by rw [u4];omega) (by omega) fun l3 wb h=>?_;exact⟨69 - q,by omega,q+1,by rw [aI (by omega) (by omega)];omega,by omega,by omega,h⟩
    ·exact aJ (by simp;omega) fin
   ·refine aJ (by simp;omega) ?_;have zy:=hg.g;obtain rfl:k=bC.length:=by have:=hg.hk;omega
    have C0:=h.len (s:=v) 1 rfl;refine aS ?_;refine h.pI (n:=6) (m:=2) (k:=.sl) (x:=v) 0 rfl rfl ?_;refine aS ?_;refine h.Dg (m:=8) 0 rfl (by simp) rfl fun nK h=>?_;have h:=h.OS (i:=6) rfl (aM _);have h:=yo h (i:=5) (n:=3) (g:=g2) (D:=D) (D':=bM++bC++G) rfl (fun y hy=>hg.d y (by rw [aln (alA _)];exact hy));have FQ:(bM++bC++G).length=v.len:=by have:=h.len (s:=v) 1 rfl;exact this
    have aZ:Sh.fits ⟨v,x,bM++bC++G,[]⟩ (N+2*M) 0:=⟨by simp only [alb];omega,by simp,fun y hy=>by
     rcases alg.1 hy with hy | hy
     ·rcases alg.1 hy with hy | hy
      ·exact fR3 y hy
      ·have:=fR4 y hy;omega
     ·exact hg.l y hy,fun y hy=>by cases hy⟩
    have h:Hp O w nK [af bp 53 (BK.cells ⟨⟨vV,xV,bI,[]⟩,⟨vP,xP,bt,[]⟩,⟨v,x,bM++bC++G,[]⟩⟩ p),aj v 71 1 mz (bM++bC++G),gh ⟨vV,xV,bI,[]⟩,fM ⟨vP,xP,bt,[]⟩,aj x 3 1 nx (bM++bC++G),eO 3 g2 (bM++bC++G),ao]:=by
     have e:(BK.cells ⟨⟨vV,xV,bI,[]⟩,⟨vP,xP,bt,[]⟩,⟨v,x,bM++bC++G,[]⟩⟩ p)=((BK.cells ⟨⟨vV,xV,bI,[]⟩,⟨vP,xP,bt,[]⟩,⟨v,x,bM,bC⟩⟩ p).set 14 (.int .i64 (v.len:Int))):=by
      show [_,_,_,_,_,_,_,_,_,_,_,_,_,_,_]= [_,_,_,_,_,_,_,_,_,_,_,_,_,_,_];rw [FQ]
     rw [e];exact h
    have h:Hp O w nK [aj v 71 1 mz (bM++bC++G++ []),aj x 3 1 nx (bM++bC++G++ []),eO 3 g2 (bM++bC++G),ak (([]:List LM).map (pend 75 3 g2)),af bp 53 (BK.cells ⟨⟨vV,xV,bI,[]⟩,⟨vP,xP,bt,[]⟩,⟨v,x,bM++bC++G,[]⟩⟩ p),gh ⟨vV,xV,bI,[]⟩,fM ⟨vP,xP,bt,[]⟩]:=by
     rw [alh];exact h.ic [1,4,5,6,0,2,3] (by decide) rfl
    have h:=hJ ⟨v,x,bM++bC++G,[]⟩ h;have h:Hp O w nK [af bp 53 (BK.cells ⟨⟨vV,xV,bI,[]⟩,⟨vP,xP,bt,[]⟩,⟨v,x,bM++bC++G,[]⟩⟩ p),gh ⟨vV,xV,bI,[]⟩,fM ⟨vP,xP,bt,[]⟩,fN ⟨v,x,bM++bC++G,[]⟩]:=h.ic [1,2,3,0] (by decide) rfl;have h:=ny (N:=N+2*M) (M:=0) ⟨⟨vV,xV,bI,[]⟩,⟨vP,xP,bt,[]⟩,⟨v,x,bM++bC++G,[]⟩⟩ ⟨hfV,hfP,aZ⟩ h;have:=back (rest:= []) rfl rfl h;rw [alh] at this;exact hK nK this
end
open FT (az fA ct jV dH)
open FP (eW tB bu gL bQ bV bx dO)
theorem q7 {et em e:TypeId} {n:Nat} {g:Int->List Value} {w:World}:(o6 et em e n g ⟨⟨none,0,0⟩,⟨none,0,0⟩,[],[]⟩).holds w []:=
 ⟨[],[],cq.nil,⟨[],[],cq.nil,⟨[],[],⟨by simp,by simp⟩,rfl,by simp,by simp⟩,by simp,by simp⟩,by simp,by simp⟩
def eC (ab bb:Nat) (ks gv od ws:Sl):PC:=⟨.pointer (some ⟨ab,0,none⟩),.pointer (some ⟨bb,0,none⟩),.slice ks.a ks.len ks.cap,.slice gv.a gv.len gv.cap,.slice od.a od.len od.cap,.slice ws.a ws.len ws.cap⟩
section
variable {S:List Nat} {w0 w:World} {ae:List aa}
theorem LY (h:Hp S w0 w ae) {i bp:Nat} {p:PC} (hi:ae[i]? =some (af bp 53 [p.a,p.b,p.k,p.g,p.o,p.s,.slice none 0 0,.slice none 0 0,.slice none 0 0,.slice none 0 0,.slice none 0 0,.slice none 0 0,.int .i64 0,.int .i64 0,.int .i64 0])):Hp S w0 w (ae.set i (bj bp p 0 0)):=
 h.rP hi rfl (fun w O hO=>by
  have hf:Sh.fits ⟨⟨none,0,0⟩,⟨none,0,0⟩,[],[]⟩ 0 0:=⟨by simp,by simp,by simp,by simp⟩;refine⟨⟨⟨⟨none,0,0⟩,⟨none,0,0⟩,[],[]⟩,⟨⟨none,0,0⟩,⟨none,0,0⟩,[],[]⟩,⟨⟨none,0,0⟩,⟨none,0,0⟩,[],[]⟩⟩,⟨hf,hf,hf⟩,O,[],hO,⟨[],[],q7,⟨[],[],q7,q7,by simp,by simp⟩,by simp,by simp⟩,by simp,by simp⟩) rfl
theorem cG (h:Hp S w0 w ae) (i:Nat) {bp c N M:Nat} {p:PC} {k:Kd} {x:k.T} {K:k.T->Prop} (hi:(ae[i]?).map aa.holds=some (bj bp p N M).holds) (hc: [p.a,p.b,p.k,p.g,p.o,p.s][c]? =some (k.inj x)) (hK:K x):Ld k w ((⟨bp,0,none⟩:Addr).add c) K:=by
 obtain⟨O,q,hq,O1,O2,⟨hb,_⟩,_⟩:=h.de hi;have av:=(ak6.1 hc).1;have e:(q.cells p)[c]? =some (k.inj x):=by
  show ([p.a,p.b,p.k,p.g,p.o,p.s]++_)[c]? =_;rw [ak9 av];exact hc
 rw [Addr.aU,aml];exact Go.Den.ld hb e hK
theorem cN (h:Hp S w0 w ae) (i:Nat) {bp N M:Nat} {p:PC} {k:Kd} {x:k.T} {K:k.T->Prop} (hi:(ae[i]?).map aa.holds=some (bj bp p N M).holds) (hc:p.a=k.inj x) (hK:K x):Ld k w ⟨bp,0,none⟩ K:=by
 have:=cG h i (c:=0) (k:=k) (x:=x) hi (by rw [hc];rfl) hK
 rwa [Addr.aU,aml] at this
theorem f3r (h:Hp S w0 w ae) {i i' vX j:Nat} (aW: [i,i',vX].Nodup) (hj:j ∉ [i,i',vX]) {t u v x:aa} (hi:ae[i]? =some t) (hY:ae[i']? =some u) (yI:ae[vX]? =some v) (hx:ae[j]? =some x) (ho:t.own=true) (mI:u.own=true) (UC:v.own=true):
  ∃O,Hp O w w [t,u,v,x.ro] /\ ∀{w':World} {t' u' v':aa} {rest:List aa},t'.own=true->u'.own=true->v'.own=true->Hp.owns rest=true->Hp O w w' (t' :: u' :: v' :: rest)->Hp S w0 w' (((ae.set i t').set i' u').set vX v'++rest):=by
 obtain⟨O,h1,h2⟩:=h.frame [i,i',vX] [j] aW (fun k hk bL=>by simp only [ali] at bL;subst bL;exact hj hk) (ts:= [t,u,v]) (us:= [x]) rfl rfl (Hp.QC hi hY yI) (Hp.xk hx) (by simp [ho,mI,UC]);exact⟨O,by simpa using h1,fun{w' t' u' v' rest} q1 q2 q3 hr hp=>h2 (ts':= [t',u',v']) rfl (by simp [q1,q2,q3]) (Hp.jb hr) (by simpa using hp)⟩
set_option maxHeartbeats 2000000 in
theorem HY (h:Hp S w0 w ae) (j:Nat) {ks:Sl} {ys:List KS} {u:aa} (hj:ae[j]? =some u) (hu:u.holds=(dK ks ys).holds) (hl:ys.length<=10000000) (dL: ∀x∈ys,x.2.2.length<=10000000 /\ x.1.size<=1000000000000 /\ ∀y∈x.2.2,y.size<=1000000000000) {K:Option Addr->Bool->World->Prop}
  (aT:cY (kinds ys)-> ∀bp ab bb w',Hp S w0 w' (ae++ [bj bp (eC ab bb ks ⟨none,0,0⟩ ⟨none,0,0⟩ ⟨none,0,0⟩) 0 0,tW ab (WA.new (kinds ys)),fE bb (WA.new (kinds ys))])->K (some ⟨bp,0,none⟩) true w') (dz: ¬cY (kinds ys)-> ∀w',Hp S w0 w' ae->K none true w'):c8 ks w K:=by
 refine Xi ?_;unfold f8;have gQ:=(ak6.1 hj).1;have cO:(kinds ys).length=ys.length:=by simp [kinds]
 have rd: ∀{w':World} {l:List aa},Hp S w0 w' (ae++l)->yc w' ks (kinds ys):=fun{w' l} h=>by
  obtain⟨O,hO⟩:=h.kY (i:=j) (by rw [ak9 gQ];exact hj);rw [hu] at hO;exact ye hO
 have rd0:yc w ks (kinds ys):=rd (l:= []) (by rw [alh];exact h);have LZ: ∀x∈kinds ys,x.2.length<=10000000 /\ x.1.size<=1000000000000 /\ ∀y∈x.2,y.size<=1000000000000:=fun x hx=>by
  obtain⟨y,hy,rfl⟩:=alu.1 hx;exact dL y hy
 refine pa h rd0 (by omega) (fun x hx=>(LZ x hx).1) fun l xs w1 yx ja nY eN h=>?_;have g0: ∀{t:aa} {more:List aa},(ae++t :: more)[ae.length]? =some t:=fun{t more}=>by rw [ak8 (alA _)];simp
 have HX:xs.length=ys.length:=by have:=congrArg List.length yx;simpa [kinds] using this
 obtain⟨OL,hOL⟩:=h.kY (i:=ae.length) g0;have rdl:yc w1 l (kinds ys):=by rw [<-yx];exact ye (AX hOL ja nY)
 have hv: ∀x∈xs,x.2.2.length<=10000000:=fun x hx=>(LZ (x.1,x.2.2) (by rw [<-yx];exact alu.2 ⟨x,hx,rfl⟩)).1;have tail: ∀{w2:World} {more:List aa} {K:Bool->World->Prop},Hp S w0 w2 (ae++sC l xs :: more)->(∀w',Hp S w0 w' (ae++ao :: more)->K true w')->W3 l ks w2 K:=fun{w2 more K} h hK=>by
  refine nN h ae.length j (by omega) (s:=l) (was:=ks) (xs:=xs) (ys:=ys) (u:=u) g0 ja nY eN (by rw [ak9 gQ];exact hj) hu yx (by omega) hv fun w' h=>hK w' ?_;rw [alj _ _ (alA _),alK,alq] at h;exact h
 refine Rf h rdl (by omega) (fun x hx=>(LZ x hx).2) (fun hm ab w2 h=>?_) (fun hm w2 h=>?_)
 ·have h:Hp S w0 w2 (ae++sC l xs :: [tW ab (WA.new (kinds ys))]):=by simpa using h
  refine tail h fun w3 h=>?_;refine LJ h (rd h) (by omega) LZ (fun _ bb w4 h=>?_) (fun PZ=>absurd hm PZ);refine aJ (by simp) (aJ (by simp) ?_);refine h.nw (c:= [_,_,_,_,_,_,_,_,_,_,_,_,_,_,_]) fun bp w5 h=>?_;have h:Hp S w0 w5 (ae++ [ao]++ [tW ab (WA.new (kinds ys)),fE bb (WA.new (kinds ys)),af bp 53 [(eC ab bb ks ⟨none,0,0⟩ ⟨none,0,0⟩ ⟨none,0,0⟩).a,(eC ab bb ks ⟨none,0,0⟩ ⟨none,0,0⟩ ⟨none,0,0⟩).b,(eC ab bb ks ⟨none,0,0⟩ ⟨none,0,0⟩ ⟨none,0,0⟩).k,(eC ab bb ks ⟨none,0,0⟩ ⟨none,0,0⟩ ⟨none,0,0⟩).g,(eC ab bb ks ⟨none,0,0⟩ ⟨none,0,0⟩ ⟨none,0,0⟩).o,(eC ab bb ks ⟨none,0,0⟩ ⟨none,0,0⟩ ⟨none,0,0⟩).s,.slice none 0 0,.slice none 0 0,.slice none 0 0,.slice none 0 0,.slice none 0 0,.slice none 0 0,.int .i64 0,.int .i64 0,.int .i64 0]]):=by
   simp only [ale,alI,alO] at h ⊢;exact h
  have h:=h.cZ;have e:(ae.length+2) - ae.length=2:=by omega
  have h:=LY h (i:=ae.length+2) (p:=eC ab bb ks ⟨none,0,0⟩ ⟨none,0,0⟩ ⟨none,0,0⟩) (by rw [ak8 (by omega),e];rfl);rw [alj _ _ (by omega),e] at h;have h:Hp S w0 w5 (ae++ [tW ab (WA.new (kinds ys)),fE bb (WA.new (kinds ys))]++ [bj bp (eC ab bb ks ⟨none,0,0⟩ ⟨none,0,0⟩ ⟨none,0,0⟩) 0 0]):=by
   rw [ale];exact h
  exact aT hm bp ab bb w5 h.up
 ·refine tail h fun w3 h=>?_;refine LJ h (rd h) (by omega) LZ (fun PZ=>absurd PZ hm) (fun _ w4 h=>?_);exact aJ (by simp) (aL (by simp) (dz hm w4 h.front))
end
def pc:ByteArray:=⟨#[111,118,101,114]⟩
theorem C1 (a:WA):Bytes a.snap:=by
 intro x hx;unfold WA.snap at hx
 rcases alg.1 hx with hx | hx
 ·rcases alg.1 hx with hx | hx
  ·exact FP.iW _ x hx
  ·exact FP.iW _ x hx
 ·obtain⟨e,_,hx⟩:=amt.1 hx;unfold eP at hx
  rcases alg.1 hx with hx | hx
  ·exact FP.fi (ff _) x hx
  ·exact FP.nr _ x hx
theorem HZ {a:WA} (hf:a.fits):a.snap.length<=1000000:=by
 obtain⟨g1,g2,g3,g4⟩:=gY hf.1.qa;have r1:=fu a.ar.aH;have r2:=fu a.ar.free;have ig:=jT hf.1;have h:=CS (l:=a.rows) fun r hr=>by
  obtain⟨p,hpa,hp,kT,Iv,kU⟩:=pV hf hr;obtain⟨yR,yw⟩:=kQ hf.1.len.2 hf.1.four Iv kU;rw [kT];exact⟨yR,fun y hy=>(yw y hy).1⟩
 have eT:a.rows.length=a.all.length:=by unfold WA.rows;rw [alr]
 have e:a.snap=bQ a.ar.aH++bQ a.ar.free++jF a.rows:=by rw [Gt hf];rfl
 rw [e,alb,alb];omega
section
variable {S:List Nat} {w0 w:World} {ae:List aa}
set_option maxHeartbeats 16000000 in
theorem C3 (h:Hp S w0 w ae) (i i' vX j:Nat) (aW: [i,i',vX].Nodup) (Qr:j ∉ [i,i',vX]) {bp ab bb N:Nat} {ks gv od ws:Sl} {a:WA} {ys:List KS} {u:aa} (hi:ae[i]? =some (bj bp (eC ab bb ks gv od ws) N 0)) (hY:ae[i']? =some (tW ab a)) (yI:ae[vX]? =some (fE bb a)) (hj:ae[j]? =some u) (hu:u.holds=(dK ks ys).holds) (hk:kinds ys=a.ks) (hN:N<=100000000)
  {K:Bool->World->Prop} (hK: ∀w',Hp S w0 w' (ae.set i (bj bp (eC ab bb ks gv od ws) (N+12000) 0))->K true w'):Z3 (some ⟨bp,0,none⟩) w K:=by
 refine SU ?_;unfold f12;obtain⟨ajy,s1,s2,s3,s4⟩:=xy;obtain⟨ajz,k1,k2,k3,k4⟩:=zv;obtain⟨ajA,b1,b2,b3,b4⟩:=FP.AJ;obtain⟨O,h1,back⟩:=f3r h aW Qr hi hY yI hj rfl rfl rfl;have fin: ∀{w':World} {more:List aa},Hp O w w' ([bj bp (eC ab bb ks gv od ws) (N+12000) 0,tW ab a,fE bb a]++more)->K true w':=fun{w' more} h2=>by
  have:=back (rest:= []) rfl rfl rfl rfl h2.front;rw [alh] at this;have e1:(ae.set i (bj bp (eC ab bb ks gv od ws) (N+12000) 0)).set i' (tW ab a)=ae.set i (bj bp (eC ab bb ks gv od ws) (N+12000) 0):=Hp.bN (by
   have:i≠i':=by simp at aW;exact aW.1.1
   rw [alC this];exact hY)
  have e2:(ae.set i (bj bp (eC ab bb ks gv od ws) (N+12000) 0)).set vX (fE bb a)=ae.set i (bj bp (eC ab bb ks gv od ws) (N+12000) 0):=Hp.bN (by
   have:i≠vX:=by simp at aW;exact aW.1.2
   rw [alC this];exact yI)
  rw [e1,e2] at this;exact hK w' this
 clear h;have h:=h1;clear h1 hK;obtain⟨aT,aZ⟩:=K9 h 1 rfl;have hf:a.fits:=⟨aT,aZ⟩;have Ac: ∀{w':World} {t1 t2 t3:aa} {l:List aa},Hp O w w' (t1 :: t2 :: t3 :: u.ro :: l)->yc w' ks a.ks:=fun{w' t1 t2 t3 l} h=>by
  obtain⟨O',g⟩:=h.kY (i:=3) rfl;have g:u.holds w' O':=g;rw [hu] at g;rw [<-hk];exact ye g
 have ajB:a.ks.length=ks.len:=(Ac h).len;have agE:=aT.len;have Zj:=aT.four;have Mn:=C1 a;have fB:=HZ hf;have Fh:cJ (strOf a.snap)=a.snap:=jP Mn;have eT:a.rows.length<=200:=by have:=jT aT;unfold WA.rows;rw [alr];exact this
 have hrv: ∀r∈a.rows,r.2.length<=12 /\ ∀y∈r.2,y.2.length<=4:=fun r hr=>by
  obtain⟨p,hpa,hp,kT,Iv,kU⟩:=pV hf hr;obtain⟨yR,yw⟩:=kQ aT.len.2 aT.four Iv kU;rw [kT];exact⟨yR,fun y hy=>(yw y hy).1⟩
 refine aS ?_;refine cN h 0 (k:=.p) (x:=some ⟨ab,0,none⟩) rfl rfl ?_;refine Lg h 1 rfl fun r w1 h=>?_;refine aS ?_;refine cN h 0 (k:=.p) (x:=some ⟨ab,0,none⟩) rfl rfl ?_;refine Lg h 1 rfl fun s w2 h=>?_;refine aS ?_;refine cG h 0 (c:=1) (k:=.p) (x:=some ⟨bb,0,none⟩) rfl rfl ?_;refine P7 h 2 rfl fun t w3 h=>?_;refine aS ?_;refine cN h 0 (k:=.p) (x:=some ⟨ab,0,none⟩) rfl rfl ?_;refine CF h 1 rfl fun x w4 h=>?_;refine aS ?_;refine cN h 0 (k:=.p) (x:=some ⟨ab,0,none⟩) rfl rfl ?_;refine CF h 1 rfl fun y w5 h=>?_;refine aS ?_;refine cG h 0 (c:=1) (k:=.p) (x:=some ⟨bb,0,none⟩) rfl rfl ?_;refine HP h 2 rfl fun z zs w6 LL P8 Wi h=>?_;refine aS ?_;refine cN h 0 (k:=.p) (x:=some ⟨ab,0,none⟩) rfl rfl ?_;refine Gn h 1 rfl fun k w7 h=>?_;refine aS ?_;refine cN h 0 (k:=.p) (x:=some ⟨ab,0,none⟩) rfl rfl ?_;refine Gn h 1 rfl fun l w8 h=>?_;refine aS ?_;refine cN h 0 (k:=.p) (x:=some ⟨ab,0,none⟩) rfl rfl ?_;refine kN h 1 rfl fun m w9 h=>?_;refine aS ?_;refine cN h 0 (k:=.p) (x:=some ⟨ab,0,none⟩) rfl rfl ?_;refine kN h 1 rfl fun n nK h=>?_;refine aS ?_;refine cG h 0 (c:=1) (k:=.p) (x:=some ⟨bb,0,none⟩) rfl rfl ?_;refine vf h 2 rfl fun r2 qo h=>?_;have h:Hp O w qo [bj bp (eC ab bb ks gv od ws) N 0,tW ab a,fE bb a,u.ro,bF r a.rows,bF s a.rows,bF t a.rows,dW x (Value.int .i64) (Value.int .i64) a.shape,dW y (Value.int .i64) (Value.int .i64) a.shape,aj z 157 2 uf zs,aK k a.ks,aK l a.ks,tB m a.snap,tB n a.snap,tB r2 a.snap]:=h;refine h.MC 14 (u:=tB r2 a.snap) rfl Hp.bZ (strOf a.snap) Fh ?_;have same: ∀{w':World} {p1 p2:Sl} {K:Bool->World->Prop} {yJ:List aa} (i1 i2:Nat),Hp O w w' yJ->(yJ[i1]?).map aa.holds=some (bF p1 a.rows).holds->(yJ[i2]?).map aa.holds=some (bF p2 a.rows).holds->(∀w2,Hp O w w2 yJ->K true w2)->R3 p1 p2 w' K:=fun{w' p1 p2 K yJ} i1 i2 h e1 e2 hK=>by
  obtain⟨O1,hO1⟩:=h.de e1;obtain⟨O2,Zk⟩:=h.de e2;refine lI (AR hO1) (AR Zk) (by omega) (fun r hr=>⟨by have:=(hrv r hr).1;omega,fun y hy=>by have:=(hrv r hr).2 y hy;omega⟩) fun w2 pL=>?_;rw [decide_eq_true rfl];exact hK w2 (h.cn pL)
 refine same 4 6 h rfl rfl fun vB h=>?_;refine nO h 7 9 (u:=aj z 157 2 uf zs) rfl rfl Hp.bZ (by omega) LL P8 fun Dm h=>?_;have kin: ∀{w':World} {p1:Sl} {K:Bool->World->Prop} {t1 t2 t3:aa} {l:List aa} (i1:Nat),Hp O w w' (t1 :: t2 :: t3 :: u.ro :: l)->((t1 :: t2 :: t3 :: u.ro :: l)[i1]?).map aa.holds=some (aK p1 a.ks).holds->(∀w2,Hp O w w2 (t1 :: t2 :: t3 :: u.ro :: l)->K true w2)->VZ p1 ks w' K:=fun{w' p1 K t1 t2 t3 l} i1 h e1 hK=>by
  obtain⟨O1,hO1⟩:=h.de e1;refine o9 (CN hO1) (Ac h) (by omega) (fun x hx=>by have:=Zj x hx;omega) fun w2 pL=>?_;rw [decide_eq_true rfl];exact hK w2 (h.cn pL)
 refine aS ?_;refine cG h 0 (c:=2) (k:=.sl) (x:=ks) rfl rfl ?_;refine kin 10 h rfl fun PK h=>?_;refine⟨fun w'=>Hp O w w' [bj bp (eC ab bb ks gv od ws) N 0,tW ab a,fE bb a,u.ro,bF r a.rows,bF s a.rows,bF t a.rows,dW x (Value.int .i64) (Value.int .i64) a.shape,dW y (Value.int .i64) (Value.int .i64) a.shape,aj z 157 2 uf zs,aK k a.ks,aK l a.ks,tB m a.snap,tB n a.snap,tB r2 a.snap],?_,?_⟩
 ·refine aJ (by simp) (aJ (by simp) (aJ (by simp) ?_));refine h.MC 12 (u:=tB m a.snap) rfl Hp.bZ (strOf a.snap) Fh ?_;exact aJ (by simp) h
 clear h;rintro Vg h;refine aS ?_;have Zl: ∀r∈a.rows,r.2.length<=13 /\ ∀y∈r.2,y.2.length<=10000:=fun r hr=>⟨by have:=(hrv r hr).1;omega,fun y hy=>by have:=(hrv r hr).2 y hy;omega⟩;have eb:((⟨bp,0,none⟩:Addr).add 6)=⟨bp,6,none⟩:=by rw [Addr.aU]
 rw [eb];refine zR h 0 4 (by decide) (l:=r) (ps:=a.rows) rfl rfl (by omega) (by omega) Zl fun Wl h=>?_;refine aS ?_;rw [eb];refine nB h 0 (N:=N) (M:=0+14*a.rows.length+1) rfl (by omega) fun Ra h=>?_;have h:Hp O w Ra [bj bp (eC ab bb ks gv od ws) (N+2*(0+14*a.rows.length+1)) 0,tW ab a,fE bb a,u.ro,ao,bF s a.rows,bF t a.rows,dW x (Value.int .i64) (Value.int .i64) a.shape,dW y (Value.int .i64) (Value.int .i64) a.shape,aj z 157 2 uf zs,aK k a.ks,aK l a.ks,tB m a.snap,tB n a.snap,tB r2 a.snap]:=h;have h:=mB h (i:=0) (N':=N+6000) (M':=0) rfl (by omega) (by omega);have h:Hp O w Ra [bj bp (eC ab bb ks gv od ws) (N+6000) 0,tW ab a,fE bb a,u.ro,ao,bF s a.rows,bF t a.rows,dW x (Value.int .i64) (Value.int .i64) a.shape,dW y (Value.int .i64) (Value.int .i64) a.shape,aj z 157 2 uf zs,aK k a.ks,aK l a.ks,tB m a.snap,tB n a.snap,tB r2 a.snap]:=h;refine⟨fun w'=>Hp O w w' [bj bp (eC ab bb ks gv od ws) (N+6000) 0,tW ab a,fE bb a,u.ro,bF s a.rows,bF t a.rows,dW y (Value.int .i64) (Value.int .i64) a.shape,aj z 157 2 uf zs,aK k a.ks,aK l a.ks,tB m a.snap,tB n a.snap],?_,?_⟩
 ·refine aL (by simp) ?_;refine h.update (ek:=Value.int .i64) (ev:=Value.int .i64) (g:=a.shape) (k:= -1) (v:=7) 7 rfl rfl qm tw rfl fun YH h=>?_;refine h.update (ek:=Value.int .i64) (ev:=Value.int .i64) (k:=2) (v:=1000) 7 rfl rfl qm tw rfl fun Vh h=>?_;exact h.ic [0,1,2,3,5,6,8,9,10,11,12,13] (by decide) rfl
 clear h;rintro YH h;obtain⟨vs,Ms,h⟩:=h.du (i:=8) rfl;have gJ:vs.length=a.ks.length:=by rw [<-Ms,alr]
 have h:Hp O w YH [bj bp (eC ab bb ks gv od ws) (N+6000) 0,tW ab a,fE bb a,u.ro,bF s a.rows,bF t a.rows,dW y (Value.int .i64) (Value.int .i64) a.shape,aj z 157 2 uf zs,aj k 107 2 df vs,aK l a.ks,tB m a.snap,tB n a.snap,ak (vs.map tF)]:=h;have cO:=h.len (s:=k) 8 rfl;refine⟨fun t0 mm w'=> ∃(q:Nat) (us:List KS) (ts:List aa),t0=q /\ q<=vs.length /\ mm=vs.length - q /\ us.length=vs.length /\ us.drop q=vs.drop q /\ ts.drop q=(vs.map tF).drop q /\ Hp O w w' [bj bp (eC ab bb ks gv od ws) (N+6000) 0,tW ab a,fE bb a,u.ro,bF s a.rows,bF t a.rows,dW y (Value.int .i64) (Value.int .i64) a.shape,aj z 157 2 uf zs,aj k 107 2 df us,aK l a.ks,tB m a.snap,tB n a.snap,ak ts],
  ⟨vs.length,0,vs,vs.map tF,rfl,by omega,rfl,rfl,rfl,rfl,h⟩,?_⟩
 clear h;rintro t0 mm Vh ⟨q,us,ts,rfl,hq,rfl,hul,hud,Iu,h⟩;by_cases av:q < vs.length
 ·refine aL (by simp;omega) ?_;have hy:us[q]? =some vs[q]:=by
   have e:=congrArg (fun L=>L[0]?) hud
   simpa [av] using e
  have ht:ts[q]? =some (tF vs[q]):=by
   have e:=congrArg (fun L=>L[0]?) Iu
   simpa [av] using e
  have Gg:vs[q].2.2.length<=4:=Zj (mw vs[q]) (by rw [<-Ms];exact am2 (alz av));generalize vs[q]=v at hy ht Gg;refine h.rf (s:=k) (l:=us) (f:=df) (n:=2) (e:=107) 8 rfl (by omega) (by rw [ak7];exact hy) bn fun ad hc=>?_;refine jB (k:=.sl) (x:=v.2.1) (hc 1 (by omega)) rfl ?_;have h:=h.pick (i:=12) (k:=q) rfl ht rfl;have h:Hp O w Vh [bj bp (eC ab bb ks gv od ws) (N+6000) 0,tW ab a,fE bb a,u.ro,bF s a.rows,bF t a.rows,dW y (Value.int .i64) (Value.int .i64) a.shape,aj z 157 2 uf zs,aj k 107 2 df us,aK l a.ks,tB m a.snap,tB n a.snap,ak (ts.set q ao),aj v.2.1 9 1 sv v.2.2]:=h;have dh:=h.len (s:=v.2.1) 13 rfl;refine⟨fun t0 mm w'=> ∃(p:Nat) (fs:List ByteArray),t0=p /\ p<=v.2.1.len /\ mm=v.2.1.len - p /\ fs.length=v.2.1.len /\ Hp O w w' [bj bp (eC ab bb ks gv od ws) (N+6000) 0,tW ab a,fE bb a,u.ro,bF s a.rows,bF t a.rows,dW y (Value.int .i64) (Value.int .i64) a.shape,aj z 157 2 uf zs,aj k 107 2 df us,aK l a.ks,tB m a.snap,tB n a.snap,ak (ts.set q ao),aj v.2.1 9 1 sv fs],⟨v.2.1.len,0,v.2.2,rfl,by omega,rfl,dh,h⟩,?_⟩;clear h;rintro t0 mm w20 ⟨p,fs,rfl,hp,rfl,aeT,h⟩;by_cases si:p < v.2.1.len
  ·refine aL (by simp;omega) ?_;refine h.mW (s:=v.2.1) (y:=pc) 13 rfl (by omega) (by rw [ak7];omega) cW rfl rfl fun w21 h=>?_;exact⟨v.2.1.len - (p+1),by omega,p+1,fs.set _ pc,by rw [aI (by omega) (by omega)];omega,by omega,rfl,by simpa using aeT,h⟩
  ·refine aJ (by simp;omega) ?_;refine h.K8 (l:= [pc,pc,pc,pc,pc]) (f:=sv) (n:=1) (c:= [_,_,_,_,_]) rfl rfl cW fun b w21 h=>?_;refine h.gq 13 14 (s:=v.2.1) (s2:=⟨some ⟨b,0,none⟩,5,5⟩) rfl rfl Hp.bZ cW ql s1 s3 s2 rfl (by simp [sv,Value.oneCell']) (by rw [s4];show (v.2.1.len+5)*16<=_;omega) (by show v.2.1.len+5<=_;omega) fun f w22 h _ _=>?_;refine h.FL (s:=k) (l:=us) (y:=((pc,f,[]):KS)) 8 rfl (by omega) (by rw [ak7];omega) bn rfl rfl rfl fun w23 h=>?_;rw [ak7] at h;refine⟨vs.length - (q+1),by omega,q+1,us.set q (pc,f,[]),ts.set q ao,by rw [aI (by omega) (by omega)];omega,by omega,rfl,by simpa using hul,by
    rw [amo (by omega),<-al3,hud,al3],by
    rw [amo (by omega),<-al3,Iu,al3],h.trim 13⟩
 ·refine aJ (by simp;omega) ?_;refine h.K8 (l:= [((pc,⟨none,0,0⟩,[]):KS),(pc,⟨none,0,0⟩,[])]) (f:=df) (n:=2) (c:= [_,_,_,_]) rfl rfl bn fun b w20 h=>?_;refine h.gq 8 13 (s:=k) (s2:=⟨some ⟨b,0,none⟩,2,2⟩) rfl rfl Hp.bZ bn eM k1 k3 k2 rfl (by simp [df,Value.oneCell']) (by rw [k4];show (k.len+2)*40<=_;omega) (by show k.len+2<=_;omega) fun k2 w21 h MV _=>?_;have MV:k2.len=k.len+2:=MV;have h:Hp O w w21 [bj bp (eC ab bb ks gv od ws) (N+6000) 0,tW ab a,fE bb a,u.ro,bF s a.rows,bF t a.rows,dW y (Value.int .i64) (Value.int .i64) a.shape,aj z 157 2 uf zs,aK l a.ks,tB n a.snap,tB m a.snap]:=h.ic [0,1,2,3,4,5,6,7,9,11,10] (by decide) rfl;have KM:=h.len (s:=m) 10 rfl;refine⟨fun t0 mm w'=> ∃(q:Nat) (us:List Int),t0=q /\ q<=m.len /\ mm=m.len - q /\ us.length=m.len /\ Hp O w w' [bj bp (eC ab bb ks gv od ws) (N+6000) 0,tW ab a,fE bb a,u.ro,bF s a.rows,bF t a.rows,dW y (Value.int .i64) (Value.int .i64) a.shape,aj z 157 2 uf zs,aK l a.ks,tB n a.snap,tB m us],⟨m.len,0,a.snap,rfl,by omega,rfl,KM,h⟩,?_⟩;clear h;rintro t0 mm w22 ⟨q,us,rfl,hq,rfl,hul,h⟩;by_cases AA:q < m.len
  ·refine aL (by simp;omega) ?_;refine h.mW (s:=m) (y:=201) 10 rfl (by omega) (by rw [ak7];omega) cE rfl rfl fun w23 h=>?_;exact⟨m.len - (q+1),by omega,q+1,us.set _ 201,by rw [aI (by omega) (by omega)];omega,by omega,rfl,by simpa using hul,h⟩
  refine aJ (by simp;omega) ?_;refine⟨fun m9 t0 mm w'=> ∃(q:Nat) (us:List Int),t0=q /\ q<=70 /\ mm+q=70 /\ us.length=m.len+q /\ Hp O w w' [bj bp (eC ab bb ks gv od ws) (N+6000) 0,tW ab a,fE bb a,u.ro,bF s a.rows,bF t a.rows,dW y (Value.int .i64) (Value.int .i64) a.shape,aj z 157 2 uf zs,aK l a.ks,tB n a.snap,tB m9 us],⟨70,0,us,rfl,by omega,by omega,hul,h⟩,?_⟩;clear h;rintro m9 t0 mm w23 ⟨q2,us2,rfl,OT,WV,aeV,h⟩;by_cases Ks:q2 < 70
  ·refine aL (by simp;omega) ?_;have hm9:=h.len (s:=m9) 10 rfl;refine h.cj 10 (201:Int) (c:= [_]) rfl cE Ki b1 b3 b2 rfl rfl (by simp [Value.oneCell']) (by rw [b4];omega) (by omega) fun Qv w24 h _ _=>?_;exact⟨69 - q2,by omega,q2+1,us2++ [201],by rw [aI (by omega) (by omega)];omega,by omega,by omega,by simp [aeV];omega,h⟩
  refine aJ (by simp;omega) ?_;refine same 4 5 h rfl rfl fun w24 h=>?_;refine nO h 6 7 (u:=aj z 157 2 uf zs) rfl rfl Hp.bZ (by omega) LL P8 fun w25 h=>?_;refine aS ?_;refine cG h 0 (c:=2) (k:=.sl) (x:=ks) rfl rfl ?_;refine kin 8 h rfl fun w26 h=>?_;refine aS ?_;rw [eb];refine zR h 0 4 (by decide) (l:=s) (ps:=a.rows) rfl rfl (by omega) (by omega) Zl fun w27 h=>?_;refine aS ?_;rw [eb];refine nB h 0 (N:=N+6000) (M:=0+14*a.rows.length+1) rfl (by omega) fun w28 h=>?_;have h:=mB h (i:=0) (N':=N+12000) (M':=0) rfl (by omega) (by omega);have h:Hp O w w28 [bj bp (eC ab bb ks gv od ws) (N+12000) 0,tW ab a,fE bb a,u.ro,ao,bF t a.rows,dW y (Value.int .i64) (Value.int .i64) a.shape,aj z 157 2 uf zs,aK l a.ks,tB n a.snap,tB m9 us2]:=h;refine⟨fun w'=>Hp O w w' [bj bp (eC ab bb ks gv od ws) (N+12000) 0,tW ab a,fE bb a,tB n a.snap],?_,?_⟩
  ·refine aL (by simp) ?_;refine h.update (ek:=Value.int .i64) (ev:=Value.int .i64) (g:=a.shape) (k:= -2) (v:=8) 6 rfl rfl qm tw rfl fun w29 h=>?_;exact h.ic [0,1,2,9] (by decide) rfl
  clear h;rintro w29 h;refine aL rfl (aL rfl (aL rfl ?_));refine h.MC 3 (u:=tB n a.snap) rfl Hp.bZ (strOf a.snap) Fh ?_;refine aL (by simp) ?_;refine aS ?_;refine cG h 0 (c:=2) (k:=.sl) (x:=ks) rfl rfl ?_;have e:((k2.len:Int) ==i64.wrap ((ks.len:Int)+2))=true:=by
   rw [aI (by omega) (by omega)];simp;omega
  rw [e];exact fin (more:= [tB n a.snap]) h
end
def PC.yG (p:PC):Nat->Value->PC
 | 0,v=>{ p with a:=v}
 | 1,v=>{ p with b:=v}
 | 2,v=>{ p with k:=v}
 | 3,v=>{ p with g:=v}
 | 4,v=>{ p with o:=v}
 | _,v=>{ p with s:=v}
theorem H0 (q:BK) (p:PC) {c:Nat} (hc:c < 6) (v:Value):(q.cells p).set c v=q.cells (p.yG c v):=by
 match c,hc with
 | 0,_=>rfl
 | 1,_=>rfl
 | 2,_=>rfl
 | 3,_=>rfl
 | 4,_=>rfl
 | 5,_=>rfl
section
variable {S:List Nat} {w0 w:World} {ae:List aa}
theorem wg (h:Hp S w0 w ae) (i:Nat) {bp c N M:Nat} {p:PC} {v:Value} {K:World->Prop} (hi:ae[i]? =some (bj bp p N M)) (hc:c < 6) (hv:v.oneCell'=true) (hK: ∀w',Hp S w0 w' (ae.set i (bj bp (p.yG c v) N M))->K w'):St ((⟨bp,0,none⟩:Addr).add c) v w K:=by
 obtain⟨O,⟨q,hq,O1,O2,⟨hb,rfl⟩,h2,h3,h4⟩,back⟩:=h.step hi rfl;refine Go.Den.DI hb (by show c < 15;omega) hv fun w' j7 hf _=>hK w' ?_;rw [H0 q p hc v] at j7;have pL:Fr O w w':=hf.mono (fun k hk=>.inl ((h4 k).2 (.inl hk)));refine back pL (t':=bj bp (p.yG c v) N M) (O':=O) ⟨q,hq,[bp],O2,⟨j7,rfl⟩,?_,h3,h4⟩ (fun k hk=>.inl hk) rfl;exact(bo (gh q.V) (bo (fM q.P) (fN q.R))).fr h2 hf (fun k hk bL=>h3 k bL hk)
theorem L0 (h:Hp S w0 w ae) (i:Nat) {bp N M:Nat} {p:PC} {v:Value} {K:World->Prop} (hi:ae[i]? =some (bj bp p N M)) (hv:v.oneCell'=true) (hK: ∀w',Hp S w0 w' (ae.set i (bj bp (p.yG 0 v) N M))->K w'):St ⟨bp,0,none⟩ v w K:=by
 have:=wg h i (c:=0) hi (by omega) hv hK
 rwa [Addr.aU,aml] at this
theorem Zm {i1 i2 i3 i4 i5:Nat} {t1 t2 t3 t4 t5:aa} (h1:ae[i1]? =some t1) (h2:ae[i2]? =some t2) (h3:ae[i3]? =some t3) (h4:ae[i4]? =some t4) (h5:ae[i5]? =some t5): ∀n j:Nat,[i1,i2,i3,i4,i5][n]? =some j->ae[j]? = [t1,t2,t3,t4,t5][n]? :=fun n j hn=>by
 match n,hn with
 | 0,hn=>simp only [alo,ald] at hn;subst hn;simpa using h1
 | 1,hn=>simp only [alP,alo,ald] at hn;subst hn;simpa using h2
 | 2,hn=>simp only [alP,alo,ald] at hn;subst hn;simpa using h3
 | 3,hn=>simp only [alP,alo,ald] at hn;subst hn;simpa using h4
 | 4,hn=>simp only [alP,alo,ald] at hn;subst hn;simpa using h5
theorem f5r (h:Hp S w0 w ae) {i1 i2 i3 i4 i5 j:Nat} (aW: [i1,i2,i3,i4,i5].Nodup) (hj:j ∉ [i1,i2,i3,i4,i5]) {t1 t2 t3 t4 t5 u:aa} (h1:ae[i1]? =some t1) (h2:ae[i2]? =some t2) (h3:ae[i3]? =some t3) (h4:ae[i4]? =some t4) (h5:ae[i5]? =some t5) (hu:ae[j]? =some u) (ho:Hp.owns [t1,t2,t3,t4,t5]=true):
  ∃O,Hp O w w [t1,t2,t3,t4,t5,u.ro] /\ ∀{w':World} {Zn Zo Zp Zq Zr:aa},Hp.owns [Zn,Zo,Zp,Zq,Zr]=true->Hp O w w' [Zn,Zo,Zp,Zq,Zr]->Hp S w0 w' (((((ae.set i1 Zn).set i2 Zo).set i3 Zp).set i4 Zq).set i5 Zr):=by
 obtain⟨O,g1,g2⟩:=h.frame [i1,i2,i3,i4,i5] [j] aW (fun k hk bL=>by simp only [ali] at bL;subst bL;exact hj hk) (ts:= [t1,t2,t3,t4,t5]) (us:= [u]) rfl rfl (Zm h1 h2 h3 h4 h5) (Hp.xk hu) (Hp.jb ho);refine⟨O,by simpa using g1,fun{w' Zn Zo Zp Zq Zr} mI hp=>?_⟩;have:=g2 (ts':= [Zn,Zo,Zp,Zq,Zr]) (rest:= []) rfl (Hp.jb mI) (by simp) (by rw [alh];exact hp);rw [alh] at this;exact this
set_option maxHeartbeats 4000000 in
theorem vi (h:Hp S w0 w ae) (i i' vX g j k:Nat) (aW: [i,i',vX,g,j].Nodup) (zr:k ∉ [i,i',vX,g,j]) {bp ab bb N M:Nat} {ks gv od ws:Sl} {a:WA} {G:List bw} {l was:Sl} {xs ys:List PV} {ps:List Part} {u:aa}
  (hi:ae[i]? =some (bj bp (eC ab bb ks gv od ws) N M)) (hY:ae[i']? =some (tW ab a)) (yI:ae[vX]? =some (fE bb a)) (hg:ae[g]? =some (aj gv 33 2 fo G)) (hj:ae[j]? =some (qz l xs)) (hk:ae[k]? =some u) (hu:u.holds=(fJ was ys).holds)
  (kT:xs.map bq=ps) (hyp:ys.map bq=ps) (fx:xs.length=l.len) (nY: ∀x∈xs,x.2.2.length=x.2.1.len /\ x.2.1.len+8<=x.2.1.cap) (eN:l.len+8<=l.cap)
  (ER: ∀x∈ps,-9223372036854775808<=x.1 /\ x.1<=9223372036854775807) (kU: ∀x∈ps,FP.eW x.2) (si:ps.length<=10000000) (qR: ∀x∈ps,x.2.length<=10000000) (hG:G.length<=1000000)
  {K:Bool->World->Prop} (hK: ∀C4 w',Hp S w0 w' (((((ae.set i (bj bp (eC ab bb ks C4 od ws) N M)).set i' (tW ab (a.spawn ps).1)).set vX (fE bb (a.spawn ps).1)).set g (aj C4 33 2 fo (G++if (a.spawn ps).2.2=0 then [(a.spawn ps).2.1] else []))).set j (qz l xs))->K true w'):Z6 (some ⟨bp,0,none⟩) l was w K:=by
 refine S3 ?_;unfold f23;obtain⟨inf,q1,q2,q3,q4⟩:=FT.J4;obtain⟨O,h1,back⟩:=f5r h aW zr hi hY yI hg hj hk rfl;clear h;have h:=h1;clear h1;have ja:xs.length=ps.length:=by rw [<-kT,alr]
 refine aS ?_;refine cN h 0 (k:=.p) (x:=some ⟨ab,0,none⟩) rfl rfl ?_;refine Qa h 1 4 (by decide) (xs:=xs) (tS:=aj (dD l) 36 2 ck (xs++List.replicate 8 v9)) (tE:=n6) rfl rfl kT rfl (fun _=>rfl) ⟨fun{w O} hO=>⟨O,cq.toR (cq.Vs (m:=8) (l':=List.replicate 8 v9) aR hO fx)⟩⟩ (fun x hx {w O} hO=>A3 (nY x hx).1 hO) ER kU si fun w1 h=>?_;have h:Hp O w w1 [bj bp (eC ab bb ks gv od ws) N M,tW ab (a.spawn ps).1,fE bb a,aj gv 33 2 fo G,qz l xs,u.ro]:=h;refine h.nw (c:= [_,_]) fun eb w2 h=>?_;refine h.gz 6 rfl (by simp) rfl fun w3 h=>?_;refine h.st (n:=1) 6 rfl (by simp) rfl fun w4 h=>?_;refine aS ?_;refine cG h 0 (c:=1) (k:=.p) (x:=some ⟨bb,0,none⟩) rfl rfl ?_;have rdw: ∀{w':World} {ts:List aa},Hp O w w' ts->ts[5]? =some u.ro->ri w' was ps:=fun{w' ts} h h5=>by
  obtain⟨O',gD⟩:=h.kY h5;have gD:u.holds w' O':=gD;rw [hu] at gD;rw [<-hyp];exact⟨ys,rfl,gD.2.1.imp fun o ho=>ho.1,fun x hx=>(gD.2.2 x hx).imp fun o ho=>ho.1⟩
 refine LV h 2 rfl (rdw h rfl) ER kU si fun w5 h=>?_;refine h.nw (c:= [_,_]) fun gb w6 h=>?_;refine h.gz 7 rfl (by simp) rfl fun w7 h=>?_;refine h.st (n:=1) 7 rfl (by simp) rfl fun w8 h=>?_;generalize AN:a.spawn ps=sp at h hK ⊢;obtain⟨a',e,f⟩:=sp;dsimp only at h hK ⊢;have h:Hp O w w8 [bj bp (eC ab bb ks gv od ws) N M,tW ab a',fE bb a',aj gv 33 2 fo G,qz l xs,u.ro,af eb 33 [.int .i64 e.1,.int .i64 e.2],af gb 33 [.int .i64 e.1,.int .i64 e.2]]:=h;refine Fg h 4 (l:=ps) rfl (rdw h rfl) kT fx nY eN (by omega) qR fun w9 h=>?_;refine⟨fun w'=> ∃C4,Hp O w w' [bj bp (eC ab bb ks C4 od ws) N M,tW ab a',fE bb a',aj C4 33 2 fo (G++if f=0 then [e] else []),qz l xs,u.ro,af eb 33 [.int .i64 e.1,.int .i64 e.2],af gb 33 [.int .i64 e.1,.int .i64 e.2]],?_,?_⟩
 ·by_cases hf:f=0
  ·refine aL (by simpa using hf) ?_;refine h.dr fun nK h=>aS ?_;refine cG h 0 (c:=3) (k:=.sl) (x:=gv) rfl rfl ?_;refine h.bE (k:=.i .i64) (x:=e.1) 6 rfl rfl ?_;refine h.ld (n:=1) (k:=.i .i64) (x:=e.2) 6 rfl rfl ?_;have tN:=h.len (s:=gv) (e:=33) (n:=2) (f:=fo) (l:=G) 3 rfl;refine h.cj 3 e (c:= [_,_]) rfl cu YT q1 q3 q2 rfl rfl (by simp [fo,Value.oneCell']) (by rw [q4];omega) (by omega) fun s' qo h _ _=>?_;refine aS ?_;refine wg h 0 (c:=3) (v:=.slice s'.a s'.len s'.cap) rfl (by omega) rfl fun vB h=>?_;exact⟨s',by rw [if_pos hf];exact h⟩
  ·exact aJ (by simpa using hf) ⟨gv,by rw [if_neg hf,alh];exact h⟩
 clear h;rintro nK ⟨C4,h⟩;refine aL rfl ?_;refine h.bE (k:=.i .i64) (x:=e.1) 6 rfl rfl ?_;refine h.ld (n:=1) (k:=.i .i64) (x:=e.2) 6 rfl rfl ?_;refine h.bE (k:=.i .i64) (x:=e.1) 7 rfl rfl ?_;refine h.ld (n:=1) (k:=.i .i64) (x:=e.2) 7 rfl rfl ?_;refine FT.zo (aL (by simp) ?_);have:=back rfl (h.trim 5);have hb:(f ==f)=true:=by simp
 rw [hb];exact hK C4 nK this
end
section
variable {S:List Nat} {w0 w:World} {ae:List aa}
theorem fw (h:Hp S w0 w ae) (i:Nat) {b:Nat} {a:WA} (hi:(ae[i]?).map aa.holds=some (fE b a).holds): ∃(q:RH) (xs:List RX),a.fits /\ xs.map Dq=a.rows /\ Hp [] w w [(af b 73 q.cells).ro,(aK q.K a.ks).ro,(j5 q.L xs).ro]:=by
 obtain⟨O,hO⟩:=h.de hi;obtain⟨q,hf,O1,O2,h1,⟨O3,O4,h2,⟨O5,O6,h3,h4,_⟩,_⟩,_⟩:=hO;obtain⟨xs,O7,fx,h5⟩:=Gr (AR h4);exact⟨q,xs,hf,fx,(((Hp.oE w).dC h1 (by simp)).dC h2 (by simp)).dC h5 (by simp)⟩
theorem yp (h:Hp S w0 w ae) (i:Nat) {b:Nat} {a:WA} (hi:(ae[i]?).map aa.holds=some (fE b a).holds) {kind:Int} (k1: -9223372036854775808<=kind) (k2:kind<=9223372036854775807) {K:Int->World->Prop}
  (hK:match fl a.ks kind with | some n=>K (n:Nat) w | none=>K (-1) w):Bz (some ⟨b,0,none⟩) kind w K:=by
 obtain⟨q,xs,hf,_,g⟩:=fw h i hi;have:=hf.1.len;exact sD g 0 1 (q:=q) (ks:=a.ks) rfl rfl (by omega) k1 k2 hK
theorem A4 {a:WA} (aT:a.Ok) {q:Nat} {r:gF} {e:bw} (hq:a.rows[q]? =some r) (yy:r.1=e): ∃p,a.row e=some p /\ r=(e,partsOf p):=by
 obtain⟨p,hp,hr⟩:=(fv aT).1 (ala hq);exact⟨p,by rw [<-yy];exact hp,amz yy hr⟩
theorem Gu {a:WA} {xs:List RX} (fx:xs.map Dq=a.rows) {q:Nat} {r:gF} (hq:a.rows[q]? =some r): ∃x,xs[q]? =some x /\ x.1=r.1 /\ x.2.2.map bq=r.2:=by
 rw [<-fx,alc,alH] at hq;obtain⟨x,hx,rfl⟩:=hq;exact⟨x,hx,rfl,rfl⟩
theorem iX {a:WA} (hf:a.fits) {e:bw} {p:PL} (hp:a.row e=some p):(partsOf p).length<=12 /\ p.length<=12 /\ ∀y∈partsOf p,y.2.length<=4:=by
 have h:=kQ hf.1.len.2 hf.1.four (hf.2 e p hp) (hf.1.Gf e p hp);have h2:=(hf.2 e p hp).1;have:=hf.1.len;exact⟨h.1,by omega,fun y hy=>(h.2 y hy).1⟩
theorem yq {a:WA} (hf:a.fits):a.rows.length<=200:=by unfold WA.rows;rw [alr];exact jT hf.1
set_option maxHeartbeats 4000000 in
theorem Fj (h:Hp S w0 w ae) (i:Nat) {b:Nat} {a:WA} (hi:(ae[i]?).map aa.holds=some (fE b a).holds) {e:bw} {kind:Int} (k1: -9223372036854775808<=kind) (k2:kind<=9223372036854775807) {K:Int->Int->Int->World->Prop}
  (dz: ∀w',Hp S w0 w' ae->(a.row e=none->K 0 0 41 w') /\ (∀p,a.row e=some p->fl a.ks kind=none->K 0 0 60 w') /\ (∀p r n,a.row e=some p->fl a.ks kind=some n->kind=((r+1:Nat):Int)->p.getD r none=none->K 0 0 62 w'))
  (tK: ∀(q k r:Nat) (p:PL) (kk:ByteArray×List ByteArray) (v:List Int) (w':World),Hp S w0 w' ae->a.row e=some p->kind=((r+1:Nat):Int)->a.ks[r]? =some kk->p[r]? =some (some v)->a.rows[q]? =some (e,partsOf p)->(partsOf p)[k]? =some (kind,v)->K q k 0 w'):W8 (some ⟨b,0,none⟩) e.1 e.2 kind w K:=by
 refine Uh ?_;unfold f85;have jD:i < ae.length:=by
  rcases anA i ae.length with h | h
  ·exact h
  ·rw [alE h] at hi;cases hi
 refine h.nw (c:= [_,_]) fun eb w1 h=>?_;refine h.bE (k:=.i .i64) (x:=e.1) ae.length (by rw [alw];rfl) rfl ?_;refine h.ld (n:=1) (k:=.i .i64) (x:=e.2) ae.length (by rw [alw];rfl) rfl ?_;have sN: ∀{t:aa},((ae++ [t])[i]?).map aa.holds=some (fE b a).holds:=fun{t}=>by rw [ak9 jD];exact hi
 refine CX h i (b:=b) (a:=a) sN (fun q r w2 hq yy h=>?_) (fun w2 bz h=>?_)
 case refine_2=>
  obtain⟨_,_,hf,_⟩:=fw h i sN;exact aL (by simp) ((dz w2 h.front).1 (sE hf.1 bz))
 obtain⟨qh,xs,hf,fx,g⟩:=fw h i sN;obtain⟨p,hp,rfl⟩:=A4 hf.1 hq yy;refine aJ (by simp) ?_;refine yp h i sN k1 k2 ?_
 cases dh:fl a.ks kind with
 | none=>
  dsimp only;exact aL (by simp) ((dz w2 h.front).2.1 p hp dh)
 | some n=>
  dsimp only;refine aJ (by simp) ?_;obtain⟨r,kk,rfl,nt,zr⟩:=xS dh;obtain⟨x,hx,Gb,qp⟩:=Gu fx hq;obtain⟨l1,l2,l3⟩:=iX hf hp;have ja:=(ak6.1 hx).1;refine aS (g.ld (n:=2) (k:=.sl) (x:=qh.L) 0 rfl rfl ?_);refine g.uP 2 (u:=j5 qh.L xs) rfl (dP rfl) (by omega) (by rw [ak7];exact ja) fun y hy=>?_;rw [ak7];refine g.uQ (m:=2) (k:=.sl) (v:=x.2.1) 2 (u:=j5 qh.L xs) rfl (dP rfl) hy (fun _=>rfl) hx rfl ?_;have Be:ri w2 x.2.1 (partsOf p):=by
   obtain⟨O',gD⟩:=g.kY (i:=2) rfl;have:=AZ (u:=j5 qh.L xs) rfl (ala hx) gD;rw [qp] at this;exact this
  refine find_spec Be (by omega) (fun z x' hz he=>?_) (fun L1=>?_)
  ·obtain⟨j,hj1,Ah⟩:=fy.1 (ala hz);obtain rfl:j=r:=by omega
   refine aJ (by simp) (tK q z j p kk x'.2 w2 h.front hp rfl nt Ah hq ?_);rw [hz];exact congrArg some (amz he rfl)
  ·refine aL (by simp) ((dz w2 h.front).2.2 p r n hp dh rfl ?_)
   cases hg:p.getD r none with
   | none=>rfl
   | some v=>
    obtain⟨z,x',hz,he⟩:=kS.2 (show (p.getD r none).isSome=true by rw [hg];rfl);exact absurd he (L1 x' (ala hz))
theorem L5 (h:Hp S w0 w ae) (i:Nat) {b:Nat} {a:WA} (hi:ae[i]? =some (fE b a)) {e:bw} {K:Bool->World->Prop} (hK: ∀w',Hp S w0 w' ae->K (a.row e).isSome w'):c92 (some ⟨b,0,none⟩) e.1 e.2 w K:=by
 refine Uo ?_;unfold f92;have jD:=(ak6.1 hi).1;refine h.nw (c:= [_,_]) fun eb w1 h=>?_;refine h.bE (k:=.i .i64) (x:=e.1) ae.length (by rw [alw];rfl) rfl ?_;refine h.ld (n:=1) (k:=.i .i64) (x:=e.2) ae.length (by rw [alw];rfl) rfl ?_;have sN: ∀{t:aa},((ae++ [t])[i]?).map aa.holds=some (fE b a).holds:=fun{t}=>by rw [ak9 jD,hi];rfl
 refine CX h i (b:=b) (a:=a) sN (fun q r w2 hq yy h=>?_) (fun w2 bz h=>?_)
 ·obtain⟨_,_,hf,_⟩:=fw h i sN;obtain⟨p,hp,_⟩:=A4 hf.1 hq yy;have:=hK w2 h.front;rw [hp] at this
  simpa using this
 ·obtain⟨_,_,hf,_⟩:=fw h i sN;have:=hK w2 h.front;rw [sE hf.1 bz] at this
  simpa using this
set_option maxHeartbeats 4000000 in
theorem Vt (h:Hp S w0 w ae) (i:Nat) {b:Nat} {a:WA} (hi:ae[i]? =some (fE b a)) {e:bw} {K:Int->Int->Sl->Int->World->Prop} (hK: ∀s w',Hp S w0 w' (ae++ [aN s (a.mr e).1.2])->K (a.mr e).1.1.1 (a.mr e).1.1.2 s (a.mr e).2 w'):c89 (some ⟨b,0,none⟩) e.1 e.2 w K:=by
 refine Ul ?_;unfold f89;have jD:=(ak6.1 hi).1;refine h.nw (c:= [_,_]) fun eb w1 h=>?_;refine h.nw (c:= [_,_,_]) fun ab w2 h=>?_;have h:Hp S w0 w2 (ae++ [af eb 33 [.int .i64 e.1,.int .i64 e.2],af ab 75 [.int .i64 0,.int .i64 0,.slice none 0 0]]):=by
  simp only [ale,alI,alO] at h;exact h
 have g0: ∀{l:List aa} (k:Nat),(ae++l)[ae.length+k]? =l[k]? :=fun{l} k=>by rw [ak8 (by omega)];simp
 have s0: ∀{l:List aa} (k:Nat) (t:aa),(ae++l).set (ae.length+k) t=ae++l.set k t:=fun{l} k t=>by rw [alj _ _ (by omega)];simp
 refine h.bE (k:=.i .i64) (x:=e.1) (ae.length+0) (by rw [g0];rfl) rfl ?_;refine h.ld (n:=1) (k:=.i .i64) (x:=e.2) (ae.length+0) (by rw [g0];rfl) rfl ?_;have sN: ∀{l:List aa},((ae++l)[i]?).map aa.holds=some (fE b a).holds:=fun{l}=>by rw [ak9 jD,hi];rfl
 refine CX h i (b:=b) (a:=a) sN (fun q r w3 hq yy h=>?_) (fun w3 bz h=>?_)
 case refine_2=>
  obtain⟨_,_,hf,_⟩:=fw h i sN;have hr:a.mr e=(((0,0),[]),41):=by unfold WA.mr;rw [sE hf.1 bz]
  rw [hr] at hK;refine aL (by simp) ?_;refine h.gz (ae.length+1) (by rw [g0];rfl) (by simp) rfl fun w4 h=>?_;rw [s0] at h;refine h.st (n:=1) (ae.length+1) (by rw [g0];rfl) (by simp) rfl fun w5 h=>?_;rw [s0] at h;refine h.st (n:=2) (ae.length+1) (by rw [g0];rfl) (by simp) rfl fun w6 h=>?_;rw [s0] at h;refine h.bE (k:=.i .i64) (x:=(0:Int)) (ae.length+1) (by rw [g0];rfl) rfl ?_;refine h.ld (n:=1) (k:=.i .i64) (x:=(0:Int)) (ae.length+1) (by rw [g0];rfl) rfl ?_;refine h.ld (n:=2) (k:=.sl) (x:=⟨none,0,0⟩) (ae.length+1) (by rw [g0];rfl) rfl ?_;exact hK _ w6 (h.front.gN 36 2 ck tV bq)
 obtain⟨qh,xs,hf,fx,g⟩:=fw h i sN;obtain⟨p,hp,rfl⟩:=A4 hf.1 hq yy;have hr:a.mr e=((e,partsOf p),0):=by unfold WA.mr;rw [hp]
 rw [hr] at hK;obtain⟨x,hx,Gb,qp⟩:=Gu fx hq;obtain⟨l1,l2,l3⟩:=iX hf hp;have ja:=(ak6.1 hx).1;refine aJ (by simp) ?_;obtain⟨w4,FX,Cf⟩: ∃w4,Fr [] w3 w4 /\ ∀K:World->Prop,K w4->Dr w3 K:=⟨w3.drew,Fr.drew (Fr.refl _ _),fun K hK=>hK⟩;refine Cf _ ?_;have h:=h.cn FX;obtain⟨qh,xs,hf,fx,g⟩:=fw h i sN;obtain⟨x,hx,Gb,qp⟩:=Gu fx hq;have ja:=(ak6.1 hx).1;refine h.bE (k:=.i .i64) (x:=e.1) (ae.length+0) (by rw [g0];rfl) rfl ?_;refine h.ld (n:=1) (k:=.i .i64) (x:=e.2) (ae.length+0) (by rw [g0];rfl) rfl ?_;refine aS (g.ld (n:=2) (k:=.sl) (x:=qh.L) 0 rfl rfl ?_);refine g.uP 2 (u:=j5 qh.L xs) rfl (dP rfl) (by omega) (by rw [ak7];exact ja) fun y hy=>?_;rw [ak7];refine g.uQ (m:=2) (k:=.sl) (v:=x.2.1) 2 (u:=j5 qh.L xs) rfl (dP rfl) hy (fun _=>rfl) hx rfl ?_;have Be:ri w4 x.2.1 (partsOf p):=by
  obtain⟨O',gD⟩:=g.kY (i:=2) rfl;have:=AZ (u:=j5 qh.L xs) rfl (ala hx) gD;rw [qp] at this;exact this
 refine gy h Be (by omega) (fun y hy=>by have:=l3 y hy;omega) fun r w5 h=>?_;rw [ale] at h;refine⟨h.vw (ae.length+0) (by rw [g0];rfl) rfl,h.xl (n:=1) (ae.length+0) (by rw [g0];rfl) rfl,?_⟩;refine h.gz (ae.length+1) (by rw [g0];rfl) (by simp) rfl fun w6 h=>?_;rw [s0] at h;refine h.st (n:=1) (ae.length+1) (by rw [g0];rfl) (by simp) rfl fun w7 h=>?_;rw [s0] at h;refine h.st (n:=2) (ae.length+1) (by rw [g0];rfl) (by simp) rfl fun w8 h=>?_;rw [s0] at h;refine h.bE (k:=.i .i64) (x:=e.1) (ae.length+1) (by rw [g0];rfl) rfl ?_;refine h.ld (n:=1) (k:=.i .i64) (x:=e.2) (ae.length+1) (by rw [g0];rfl) rfl ?_;refine h.ld (n:=2) (k:=.sl) (x:=r) (ae.length+1) (by rw [g0];rfl) rfl ?_;have h:Hp S w0 w8 (ae++ [af eb 33 [.int .i64 e.1,.int .i64 e.2],af ab 75 [.int .i64 e.1,.int .i64 e.2,.slice r.a r.len r.cap]]++ [aN r (partsOf p)]):=by
  rw [ale];exact h
 exact hK r w8 h.cZ
end
theorem yr {a:WA} (hf:a.fits) {e:bw} (he:(a.row e).isSome=true) {p:PL} (hp:FP.eW (flat p)) (aZ:p.fit a.ks):(a.put e p).fits:=by
 refine⟨WA.xW hf.1 he hp,fun x q hx=>?_⟩;have hx:aG a.row e (some p) x=some q:=hx;unfold aG at hx
 split at hx
 ·rw [<-alm hx];exact aZ
 ·exact hf.2 x q hx
theorem L6 {w:World} {L:Sl} {l:List gF} {O0:List Nat} (h:(bF L l).holds w O0): ∃(xs:List RX) (O:List Nat),xs.map Dq=l /\ (j5 L xs).holds w O /\ ∀x∈xs,x.2.1.len<=x.2.1.cap:=by
 obtain⟨xs,rfl,O1,O2,h1,h0,_⟩:=h;obtain⟨o,h2⟩: ∃o,bO w L 3 rdv xs o:=⟨_,cq.toR h1⟩;have h3: ∀x∈xs,ri w x.2.1 x.2.2 /\ x.2.1.len<=x.2.1.cap:=fun x hx=>by
  obtain⟨O',h4⟩:=sx h0 (alu.2 ⟨x,hx,rfl⟩);refine⟨ue h4,?_⟩;obtain⟨ys,_,O5,O6,h5,_⟩:=h4
  rcases h5.2 with ⟨_,q1,q2,_⟩ | ⟨_,_,_,_,_,_,q,_⟩
  ·omega
  ·exact q
 obtain⟨m,h4,h5⟩:=ug (P:=fun(x:RV) (z:RX)=>z.1=x.1 /\ z.2.1=x.2.1 /\ z.2.2.map bq=x.2.2 /\ Zf w (List.range w.heap.size) z /\ z.2.1.len<=z.2.1.cap) xs fun x hx=>by
  obtain⟨⟨ys,q1,⟨o,q2⟩,q3⟩,qc⟩:=h3 x hx;refine⟨(x.1,x.2.1,ys),rfl,rfl,q1,⟨⟨o,q2,fun k hk=>al5.2 (q2.lt k hk)⟩,fun y hy=>?_⟩,qc⟩;obtain⟨o,q4⟩:=q3 y hy;exact⟨o,q4,fun k hk=>al5.2 (q4.lt k hk)⟩
 have eL: ∀(i:Nat) (z:RX),m[i]? =some z-> ∃x,xs[i]? =some x /\ z.1=x.1 /\ z.2.1=x.2.1 /\ z.2.2.map bq=x.2.2 /\ Zf w (List.range w.heap.size) z /\ z.2.1.len<=z.2.1.cap:=fun i z hz=>by
  have jD:=(ak6.1 hz).1;have hx:xs[i]? =some (xs[i]'(by omega)):=alf _;obtain⟨z',Dk,hp⟩:=h5 i _ hx;obtain rfl:z=z':=alm (hz.symm.trans Dk);exact⟨_,hx,hp⟩
 refine⟨m,List.range w.heap.size,?_,⟨fun k hk=>al5.1 hk,⟨o,?_,fun k hk=>al5.2 (h2.lt k hk)⟩,fun z hz=>?_⟩,fun z hz=>?_⟩
 ·apply alM;intro i;rw [alc,alc]
  cases hm:m[i]? with
  | none=>
   have:xs[i]? =none:=by rw [am7] at hm ⊢;omega
   rw [this];rfl
  | some z=>
   obtain⟨x,hx,q1,_,q3,_⟩:=eL i z hm;rw [hx];show some (z.1,z.2.2.map bq)=some (x.1,x.2.2);rw [q1,q3]
 ·have e:m.flatMap Dp=xs.flatMap rdv:=by
   have:m.map Dp=xs.map rdv:=by
    apply alM;intro i;rw [alc,alc]
    cases hm:m[i]? with
    | none=>
     have:xs[i]? =none:=by rw [am7] at hm ⊢;omega
     rw [this];rfl
    | some z=>
     obtain⟨x,hx,q1,q2,_,_⟩:=eL i z hm;rw [hx];show some (Dp z)=some (rdv x);unfold Dp rdv;rw [q1,q2]
   rw [an1,an1,this]
  unfold bO at h2 ⊢;rw [e,h4];exact h2
 ·obtain⟨i,hi,rfl⟩:=amd.1 hz;obtain⟨_,_,_,_,_,q,_⟩:=eL i _ (alf hi);exact q
 ·obtain⟨i,hi,rfl⟩:=amd.1 hz;obtain⟨_,_,_,_,_,_,q⟩:=eL i _ (alf hi);exact q
section
variable {S:List Nat} {w0 w:World} {ae:List aa}
theorem L7 (h:Hp S w0 w ae) (i:Nat) {b:Nat} {a:WA} (hi:(ae[i]?).map aa.holds=some (fE b a).holds): ∃(q:RH) (xs:List RX),a.fits /\ xs.map Dq=a.rows /\ (∀x∈xs,x.2.1.len<=x.2.1.cap) /\ Hp [] w w [(af b 73 q.cells).ro,(aK q.K a.ks).ro,(j5 q.L xs).ro]:=by
 obtain⟨O,hO⟩:=h.de hi;obtain⟨q,hf,O1,O2,h1,⟨O3,O4,h2,⟨O5,O6,h3,h4,_⟩,_⟩,_⟩:=hO;obtain⟨xs,O7,fx,h5,hc⟩:=L6 h4;exact⟨q,xs,hf,fx,hc,(((Hp.oE w).dC h1 (by simp)).dC h2 (by simp)).dC h5 (by simp)⟩
set_option maxHeartbeats 4000000 in
theorem Vu (h:Hp S w0 w ae) (i:Nat) {b:Nat} {a:WA} (hi:ae[i]? =some (fE b a)) {e:bw} {kind:Int} (k1: -9223372036854775808<=kind) (k2:kind<=9223372036854775807) {K:Int->Sl->Int->World->Prop}
  (hK: ∀s w',Hp S w0 w' (ae++ [aj s 2 1 iv (a.get e kind).1])->K (if (a.get e kind).2=0 then kind else 0) s (a.get e kind).2 w'):c88 (some ⟨b,0,none⟩) e.1 e.2 kind w K:=by
 refine Uk ?_;unfold f88;have jD:=(ak6.1 hi).1;refine h.nw (c:= [_,_]) fun eb w1 h=>?_;refine h.nw (c:= [_,_]) fun ab w2 h=>?_;have h:Hp S w0 w2 (ae++ [af eb 33 [.int .i64 e.1,.int .i64 e.2],af ab 36 [.int .i64 0,.slice none 0 0]]):=by
  simp only [ale,alI,alO] at h;exact h
 have g0: ∀{l:List aa} (k:Nat),(ae++l)[ae.length+k]? =l[k]? :=fun{l} k=>by rw [ak8 (by omega)];simp
 have s0: ∀{l:List aa} (k:Nat) (t:aa),(ae++l).set (ae.length+k) t=ae++l.set k t:=fun{l} k t=>by rw [alj _ _ (by omega)];simp
 refine h.bE (k:=.i .i64) (x:=e.1) (ae.length+0) (by rw [g0];rfl) rfl ?_;refine h.ld (n:=1) (k:=.i .i64) (x:=e.2) (ae.length+0) (by rw [g0];rfl) rfl ?_;have sN: ∀{l:List aa},((ae++l)[i]?).map aa.holds=some (fE b a).holds:=fun{l}=>by rw [ak9 jD,hi];rfl
 have bad: ∀{w3:World} {err:Int},err≠0->a.get e kind=([],err)->Hp S w0 w3 (ae++ [af eb 33 [.int .i64 e.1,.int .i64 e.2],af ab 36 [.int .i64 0,.slice none 0 0]])->
   (if (err !=0)=true then (St ⟨ab,0,none⟩ (.int .i64 0) w3 fun w=>St ((⟨ab,0,none⟩:Addr).add 1) (.slice none 0 0) w fun w=>Ld (.i .i64) w ⟨ab,0,none⟩ fun(ko:Int)=>Ld .sl w ((⟨ab,0,none⟩:Addr).add 1) fun(eR:Sl)=>K ko eR err w) else False):=by
  intro w3 err aW hg h;rw [hg] at hK;rw [if_neg (show ¬([],err).2=0 from aW)] at hK;refine aL (by simpa using aW) ?_;refine h.gz (ae.length+1) (by rw [g0];rfl) (by simp) rfl fun w4 h=>?_;rw [s0] at h;refine h.st (n:=1) (ae.length+1) (by rw [g0];rfl) (by simp) rfl fun w5 h=>?_;rw [s0] at h;refine h.bE (k:=.i .i64) (x:=(0:Int)) (ae.length+1) (by rw [g0];rfl) rfl ?_;refine h.ld (n:=1) (k:=.sl) (x:=⟨none,0,0⟩) (ae.length+1) (by rw [g0];rfl) rfl ?_;exact hK _ w5 (h.front.nil 2 1 iv)
 refine Fj h i sN k1 k2 (fun w3 h=>⟨fun hn=>?_,fun p hp dh=>?_,fun p r n hp dh vD hg=>?_⟩) (fun q k r p kk v w3 h hp vD uX qR hq hk=>?_)
 ·have:=bad (err:=41) (by decide) (by unfold WA.get;rw [hn]) h;rw [if_pos (by simp)] at this;exact aL (by simp) this
 ·have:=bad (err:=60) (by decide) (by unfold WA.get;rw [hp];dsimp only;rw [dh]) h;rw [if_pos (by simp)] at this;exact aL (by simp) this
 ·have:=bad (err:=62) (by decide) (by unfold WA.get;rw [hp];dsimp only;rw [dh];dsimp only;rw [show (kind - 1).toNat=r by omega,hg]) h;rw [if_pos (by simp)] at this;exact aL (by simp) this
 have dh:fl a.ks kind=some kk.2.length:=by unfold fl;rw [if_pos (by omega),show (kind - 1).toNat=r by omega,uX];rfl
 have eL:a.get e kind=(v,0):=by
  unfold WA.get;rw [hp];dsimp only;rw [dh];dsimp only;rw [show (kind - 1).toNat=r by omega,alk,qR];rfl
 rw [eL] at hK;rw [if_pos (show (v,(0:Int)).2=0 from rfl)] at hK;refine aJ (by simp) ?_;obtain⟨qh,xs,hf,fx,ma,g⟩:=L7 h i sN;obtain⟨x,hx,Gb,qp⟩:=Gu fx hq;dsimp only at Gb qp;obtain⟨l1,l2,l3⟩:=iX hf hp;have ja:=(ak6.1 hx).1;have cO:=(ak6.1 hk).1;refine aS (g.ld (n:=2) (k:=.sl) (x:=qh.L) 0 rfl rfl ?_);refine g.uP 2 (u:=j5 qh.L xs) rfl (dP rfl) (by omega) (by rw [ak7];exact ja) fun y hy=>?_;rw [ak7];refine g.uQ (m:=2) (k:=.sl) (v:=x.2.1) 2 (u:=j5 qh.L xs) rfl (dP rfl) hy (fun _=>rfl) hx rfl ?_;have fI:=ala hx;have kU:=mD (u:=(j5 qh.L xs).ro) rfl fI;have si:=g.dR (u:=(j5 qh.L xs).ro) 2 rfl kU;have ML:=ma x fI;have kT:x.2.2.length=(partsOf p).length:=by rw [<-qp,alr]
 have IY:i64.wrap ((k:Int)+1)=((k+1:Nat):Int):=by rw [aI (by omega) (by omega)];omega
 rw [IY];refine Hp.nU (s:=x.2.1) kU si aR (by omega) (by omega) (by omega) (al4 _) (by omega) fun s hs fB Mz=>?_;have e1:(x.2.2.take ((k+1:Nat):Int).toNat).drop ((k:Nat):Int).toNat=(x.2.2.take (k+1)).drop k:=by rw [ak7,ak7]
 rw [e1] at hs;have sI:x.2.2[k]? =some (x.2.2[k]'(by omega)):=alf _;have Qj:bq (x.2.2[k]'(by omega))=(kind,v):=by
  have:(x.2.2.map bq)[k]? =some (kind,v):=by rw [qp];exact hk
  rw [alc,sI] at this;exact alm this
 have e2:(x.2.2.take (k+1)).drop k= [x.2.2[k]'(by omega)]:=by
  rw [alp (by omega),an7 (by rw [alv];omega)]
 rw [e2] at hs;have HS:x.2.2[k]'(by omega)∈x.2.2:=alz _;generalize x.2.2[k]'(by omega)=y2 at hs sI Qj e2 HS;have Be:ri w3 s [(kind,v)]:=by
  obtain⟨O',gD⟩:=g.kY (i:=2) rfl;refine⟨[y2],by rw [<-Qj];rfl,hs.rd gD,fun z hz=>?_⟩;simp only [ali] at hz;subst hz;exact(pW (u:=(j5 qh.L xs).ro) rfl fI HS).rd gD
 have Gg:=l3 _ (ala hk);refine gy h Be (by simp) (fun z hz=>by simp only [ali] at hz;subst hz;dsimp only at Gg ⊢;omega) fun r w4 h=>?_;have h:Hp S w0 w4 (ae++ [af eb 33 [.int .i64 e.1,.int .i64 e.2],af ab 36 [.int .i64 0,.slice none 0 0],aN r [(kind,v)]]):=by
  simp only [ale,alI,alO] at h;exact h
 obtain⟨zs,z,P8,hz,hzv,h⟩:=h.v8 (i:=ae.length+2) (k:=0) (by rw [g0];rfl) rfl (fun _=>rfl);rw [s0] at h;have h:Hp S w0 w4 (ae++ [af eb 33 [.int .i64 e.1,.int .i64 e.2],af ab 36 [.int .i64 0,.slice none 0 0],aj r 36 2 ck zs,ak ((zs.map tV).set 0 ao),aj z.2.1 2 1 iv z.2.2]):=by
  simp only [ale,alI,alO] at h;exact h
 have A8:z.1=kind:=congrArg Prod.fst hzv;have Wq:z.2.2=v:=congrArg Prod.snd hzv;refine h.rf (s:=r) (l:=zs) (f:=ck) (n:=2) (e:=36) (ae.length+2) (by rw [g0];rfl) (by omega) hz aR fun ad hc=>?_;refine dG (k:=.i .i64) (x:=z.1) (hc 0 (by omega)) rfl ?_;refine jB (k:=.sl) (x:=z.2.1) (hc 1 (by omega)) rfl ?_;refine h.gz (ae.length+1) (by rw [g0];rfl) (by simp) rfl fun w5 h=>?_;rw [s0] at h;refine h.st (n:=1) (ae.length+1) (by rw [g0];rfl) (by simp) rfl fun w6 h=>?_;rw [s0] at h;refine h.bE (k:=.i .i64) (x:=z.1) (ae.length+1) (by rw [g0];rfl) rfl ?_;refine h.ld (n:=1) (k:=.sl) (x:=z.2.1) (ae.length+1) (by rw [g0];rfl) rfl ?_;rw [Wq] at h;have h:Hp S w0 w6 (ae++ [af eb 33 [.int .i64 e.1,.int .i64 e.2],af ab 36 [.int .i64 z.1,.slice z.2.1.a z.2.1.len z.2.1.cap],aj r 36 2 ck zs,ak ((zs.map tV).set 0 ao)]++ [aj z.2.1 2 1 iv v]):=by
  rw [ale];exact h
 rw [A8];exact hK _ w6 h.cZ
set_option maxHeartbeats 8000000 in
theorem Vv (h:Hp S w0 w ae) (i j:Nat) (iZ:i≠j) {b:Nat} {a:WA} {e:bw} {kind:Int} {u:aa} {sv:Sl} {v:List Int} (hi:ae[i]? =some (fE b a)) (hj:ae[j]? =some u) (hu:Hp.Reads u sv 1 iv v) (k1: -9223372036854775808<=kind) (k2:kind<=9223372036854775807) (qv:FP.eW v) {K:Int->World->Prop}
  (hK: ∀w',Hp S w0 w' (ae.set i (fE b (a.add e (kind,v)).1))->K (a.add e (kind,v)).2 w'):c80 (some ⟨b,0,none⟩) e.1 e.2 kind sv w K:=by
 refine Uc ?_;unfold f80;obtain⟨O,h1,back⟩:=h.XM iZ hi hj rfl;clear h;have h:=h1;clear h1;have same: ∀{w':World} {ts:List aa} {err:Int},a.add e (kind,v)=(a,err)->Hp O w w' (fE b a :: ts)->K err w':=fun{w' ts err} ha h=>by
  rw [ha] at hK;have:=back (rest:= []) rfl rfl (h.trim 1);rw [alh] at this;exact hK w' this
 have E6:Hp.Reads u.ro sv 1 iv v:=CV hu;have gJ:=h.dR (u:=u.ro) 1 rfl E6;refine h.nw (c:= [_,_]) fun eb w1 h=>?_;refine h.nw (c:= [_,_]) fun pb w2 h=>?_;have h:Hp O w w2 [fE b a,u.ro,af eb 33 [.int .i64 e.1,.int .i64 e.2],af pb 36 [.int .i64 kind,.slice sv.a sv.len sv.cap]]:=h;refine h.bE (k:=.i .i64) (x:=e.1) 2 rfl rfl ?_;refine h.ld (n:=1) (k:=.i .i64) (x:=e.2) 2 rfl rfl ?_;have fld: ∀{w':World} {ts:List aa} {K':Int->World->Prop},Hp O w w' (fE b a :: ts)->(match fl a.ks kind with | some n=>K' (n:Nat) w' | none=>K' (-1) w')->Bz (some ⟨b,0,none⟩) kind w' K':=fun{w' ts K'} h hk=>yp h 0 rfl k1 k2 hk;refine CX h 0 (b:=b) (a:=a) rfl (fun q r w3 hq yy h=>?_) (fun w3 bz h=>?_)
 case refine_2=>
  obtain⟨_,_,hf,_⟩:=fw h 0 (b:=b) (a:=a) rfl;have hn:=sE hf.1 bz;refine h.bE (k:=.i .i64) (x:=kind) 3 rfl rfl (fld h ?_);have ha:a.add e (kind,v)=(a,41):=by unfold WA.add;rw [kK hn,if_pos (by simp)]
  cases fl a.ks kind with
  | none=>exact aL (by simp) (same ha h)
  | some n=>exact aL (by simp) (same ha h)
 obtain⟨_,_,hf,_⟩:=fw h 0 (b:=b) (a:=a) rfl;obtain⟨p,hp,rfl⟩:=A4 hf.1 hq yy;refine h.bE (k:=.i .i64) (x:=kind) 3 rfl rfl (fld h ?_)
 cases dh:fl a.ks kind with
 | none=>
  dsimp only;exact aJ (by simp) (aL (by simp) (same (by unfold WA.add;rw [kL hp dh,if_pos (by simp)]) h))
 | some n=>
  dsimp only;refine aJ (by simp) (aJ (by simp) ?_);obtain⟨r,kk,rfl,nt,zr⟩:=xS dh;have kM:=mu (e:=e) hp nt;obtain⟨l1,l2,l3⟩:=iX hf hp;have fk:=yq hf;have eT:r < p.length:=by rw [(hf.2 e p hp).1];exact(ak6.1 nt).1
  refine h.dr fun w4 h=>aS ?_;obtain⟨qh,_,h⟩:=pU h;have E4:=(ak6.1 hq).1;obtain⟨xs,x,fx,hx,CM,h⟩:=h.v8 (i:=3) (k:=q) rfl hq (fun _=>rfl);have h:Hp O w w4 [af b 73 qh.cells,aK qh.K a.ks,aD 177 qh.p a.ar,aj qh.L 75 3 rdv xs,u.ro,af eb 33 [.int .i64 e.1,.int .i64 e.2],af pb 36 [.int .i64 ((r+1:Nat):Int),.slice sv.a sv.len sv.cap],ak ((xs.map gA).set q ao),aN x.2.1 x.2.2]:=h;have Gb:x.1=e:=congrArg Prod.fst CM;have qp:x.2.2=partsOf p:=congrArg Prod.snd CM;have Vw:xs.length=a.rows.length:=by rw [<-fx,alr]
  have shut: ∀{w':World},Hp O w w' [af b 73 qh.cells,aK qh.K a.ks,aD 177 qh.p a.ar,aj qh.L 75 3 rdv xs,u.ro,af eb 33 [.int .i64 e.1,.int .i64 e.2],af pb 36 [.int .i64 ((r+1:Nat):Int),.slice sv.a sv.len sv.cap],ak ((xs.map gA).set q ao),aN x.2.1 x.2.2]-> ∃ts,Hp O w w' (fE b a :: ts):=fun{w'} h=>by
   have jE:xs.set q x=xs:=Hp.jY hx;have h:=h.pX (i:=3) (j:=7) (m:=8) (k:=q) (cells:=rdv) (sub:=gA) (vis:=dX) (xs:=xs) (x':=x) (s:=qh.L) (e:=75) (n:=3) (by omega) (by omega) (by omega) (by omega) (by rw [jE];rfl) rfl rfl rfl;have e0:(xs.map dX).set q (dX x)=a.rows:=by rw [<-amm,jE,fx]
   rw [e0] at h;exact⟨_,jS (b:=b) (a:=a) qh (rest:= [u.ro,af eb 33 [.int .i64 e.1,.int .i64 e.2],af pb 36 [.int .i64 ((r+1:Nat):Int),.slice sv.a sv.len sv.cap],ao,ao]) hf h⟩
  have Vx: ∀{w':World} {ts:List aa} {K':Sl->Prop},Hp O w w' ts->ts[0]? =some (af b 73 qh.cells)->ts[3]? =some (aj qh.L 75 3 rdv xs)->K' x.2.1->(Ld .sl w' ((⟨b,0,none⟩:Addr).add 2) fun L=>Ix L.a L.len (q:Int) 3 fun a=>Ld .sl w' (a.add 2) K'):=fun{w' ts K'} h g0 g3 hk=>by
   refine h.ld (n:=2) (k:=.sl) (x:=qh.L) 0 (by rw [g0];rfl) rfl ?_;refine h.rf (s:=qh.L) (l:=xs) (f:=rdv) (n:=3) (e:=75) 3 (by rw [g3];rfl) (by omega) (by rw [ak7];exact hx) cc fun ad hc=>?_;exact jB (k:=.sl) (x:=x.2.1) (hc 2 (by omega)) rfl hk
  refine Vx h rfl rfl ?_;refine h.bE (k:=.i .i64) (x:=((r+1:Nat):Int)) 6 rfl rfl ?_;have Be:ri w4 x.2.1 (partsOf p):=by
   obtain⟨O',gD⟩:=h.kY (i:=8) rfl;rw [<-qp];exact ue gD
  refine find_spec Be (by omega) (fun z x' hz he=>?_) (fun L1=>?_)
  ·obtain⟨ts,h⟩:=shut h;refine aL (by simp) (same ?_ h);have hh:=kS.1 ⟨z,x',hz,he⟩;unfold WA.add;dsimp only;rw [kM,if_neg (by simp),if_pos hh]
  have hh: ¬(p.getD r none).isSome=true:=fun hh=>by
   obtain⟨z,x',hz,he⟩:=kS.2 hh;exact L1 x' (ala hz) he
  refine aJ (by simp) ?_;refine h.ld (n:=1) (k:=.sl) (x:=sv) 6 rfl rfl ?_;by_cases hn:v.length=n
  case neg=>
   obtain⟨ts,h⟩:=shut h;refine aL (by simp;omega) (same ?_ h);unfold WA.add;dsimp only;rw [kM,if_neg (by simp),if_neg hh,if_pos (by dsimp only;omega)]
  refine aJ (by simp;omega) ?_;have Gg:=hf.1.four _ (ala nt);refine h.dr fun w5 h=>aS (h.ld (n:=2) (k:=.sl) (x:=qh.L) 0 rfl rfl (aS ?_));refine Vx h rfl rfl ?_;refine h.bE (k:=.i .i64) (x:=((r+1:Nat):Int)) 6 rfl rfl ?_;refine h.ld (n:=1) (k:=.sl) (x:=sv) 6 rfl rfl ?_;have Vy: ∃o,bO w5 sv 1 iv v o:=by
   obtain⟨O',gD⟩:=h.kY (i:=4) rfl;exact E6.rd gD
  refine zX h 8 (l:=x.2.2) rfl Vy (by rw [qp];omega) (by omega) fun P2 w6 h=>?_;have h:Hp O w w6 [af b 73 qh.cells,aK qh.K a.ks,aD 177 qh.p a.ar,aj qh.L 75 3 rdv xs,u.ro,af eb 33 [.int .i64 e.1,.int .i64 e.2],af pb 36 [.int .i64 ((r+1:Nat):Int),.slice sv.a sv.len sv.cap],ak ((xs.map gA).set q ao),aN P2 (kR (·.1) x.2.2 (((r+1:Nat):Int),v))]:=h;have Vr:p.getD r none=none:=by simpa using hh
  rw [qp,<-zV eT Vr v] at h;refine⟨h.xl (n:=2) 0 rfl rfl,?_⟩;refine h.zt (s:=qh.L) (l:=xs) (f:=rdv) (n:=3) (e:=75) 3 (y:=x) (y':=(x.1,P2,partsOf (p.set r (some v)))) (m:=2) rfl (by omega) (by rw [ak7];exact hx) cc (by omega) rfl rfl fun w7 h=>?_;rw [ak7] at h;have h:=h.pX (i:=3) (j:=7) (m:=8) (k:=q) (cells:=rdv) (sub:=gA) (vis:=dX) (xs:=xs) (x':=(x.1,P2,partsOf (p.set r (some v)))) (s:=qh.L) (e:=75) (n:=3) (by omega) (by omega) (by omega) (by omega) rfl rfl rfl rfl;have ha:a.add e (((r+1:Nat):Int),v)=(a.put e (p.set r (some v)),0):=by
   unfold WA.add;dsimp only;rw [kM,if_neg (by simp),if_neg hh,if_neg (by dsimp only;omega)]
  rw [ha] at hK;have eJ:=yr hf (e:=e) (by rw [hp];rfl) (p:=p.set r (some v)) (mq (hf.1.Gf e p hp) r qv) ((hf.2 e p hp).set nt (by omega));have e0:(xs.map dX).set q (dX (x.1,P2,partsOf (p.set r (some v))))=(a.put e (p.set r (some v))).rows:=by
   rw [fx,ym hf.1 eJ.1 hq rfl rfl];show a.rows.set q (x.1,partsOf (p.set r (some v)))=_;rw [Gb]
  rw [e0] at h;have h:=jS (b:=b) (a:=a.put e (p.set r (some v))) qh (rest:= [u.ro,af eb 33 [.int .i64 e.1,.int .i64 e.2],af pb 36 [.int .i64 ((r+1:Nat):Int),.slice sv.a sv.len sv.cap],ao,ao]) eJ h;have:=back (rest:= []) rfl rfl (h.trim 1);rw [alh] at this;exact hK w7 this
end
end Go.Proofs.YtcccjgmekakabaaGreat.FW
end
