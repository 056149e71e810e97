/-
  Part 7 of the proof:WorldPlays of layer 6 is true of the given program for every input that its guards let in (of bulk at most 1048576).
-/
import Derived.Test.YtcccjgmekakabaaGreatPkF
set_option linter.unusedSimpArgs false
set_option linter.unusedVariables false
set_option maxRecDepth 100000
open Go.IntKind (i64 u64 u8)
section
namespace Go.Proofs.YtcccjgmekakabaaGreat.FW
open F
open Go Go.Den Go.Proofs
open FI (ai aD)
open FT (az fA bw ct fo cu jV dH iv aB)
theorem qm:Tryz.prog.underlying 99=some (.map 3 3):=by kernel_rfl
theorem my {α:Type} [DecidableEq α]: ∀(L M:List α),L.Nodup->(∀x∈L,x∈M)->L.length<=M.length
 | [],_,_,_=>by simp
 | x :: L,M,bJ,h=>by
  have hn:=al6.1 bJ;have h1:=my L (M.erase x) hn.2 (fun y hy=>(List.mem_erase_of_ne (fun e=>hn.1 (by rw [<-e];exact hy))).2 (h y (amZ _ hy)));have hm:=h x (by simp);rw [List.length_erase_of_mem hm] at h1;have:0 < M.length:=anT hm;simp only [alQ];omega
def WA.Wm (a:WA) (s:Int):List bw:=a.all.filter fun e=>decide ((a.row e).map aA=some s)
def WA.shape (a:WA) (s:Int):Option Int:=if (a.Wm s).length=0 then none else some (((a.Wm s).length:Nat):Int)
theorem ya (m:ai) {e:bw} (h1:m.bD e.1=true) (h2:m.gen e.1=e.2) (h0:0<=e.1): ∀k:Nat,e.1 < k->e∈m.iG k
 | 0,hk=>by omega
 | k+1,hk=>by
  unfold ai.iG;by_cases he:e.1=(k:Int)
  ·rw [<-he,if_pos h1,h2];simp
  ·have:=ya m h1 h2 h0 k (by omega)
   split
   ·exact amN _ this
   ·exact this
theorem AP {a:WA} (aT:a.Ok) {e:bw}:e∈a.all↔(a.row e).isSome=true:=by
 constructor
 ·intro he;obtain⟨p,hp⟩:=gw aT he;rw [hp];rfl
 ·intro he;rw [aT.Dl e] at he;obtain⟨h1,h2⟩:=ai.kC.1 he;obtain⟨h3,h4⟩:=FI.jW aT.qa h1;exact ya a.ar h1 h2 h3 _ h4
theorem HH (a:WA):a.all.Nodup:=by
 rw [amq];refine List.Pairwise.imp (fun{x y} h e=>?_) (FI.mh a.ar a.ar.au.length).2;rw [e] at h;omega
theorem AQ {a:WA} (aT:a.Ok) {s:Int} {e:bw}:e∈a.Wm s↔ ∃p,a.row e=some p /\ aA p=s:=by
 unfold WA.Wm;rw [ama,AP aT,decide_eq_true_eq];constructor
 ·rintro⟨_,h⟩;obtain⟨p,hp,rfl⟩:=alH.1 h;exact⟨p,hp,rfl⟩
 ·rintro⟨p,hp,rfl⟩;exact⟨by rw [hp];rfl,by rw [hp];rfl⟩
theorem HI {a:WA} (aT:a.Ok) {T:List (Int×az)} (ht:dS a.ks a.row a.m.aE T) {s:Int} {t:az} (hm:(s,t)∈T):a.shape s=some ((t.rows.length:Nat):Int):=by
 obtain⟨tk,tn,tne,tr⟩:=ht.tok _ hm;have h1:t.aw.length<=(a.Wm s).length:=my _ _ tk.nd (fun e he=>by
  obtain⟨r,hr,rfl⟩:=alu.1 he;obtain⟨p,hp,hs,_⟩:=tr r hr;exact(AQ aT).2 ⟨p,hp,hs⟩)
 have h2:(a.Wm s).length<=t.aw.length:=my _ _ ((HH a).filter _) (fun e he=>by
  obtain⟨p,hp,hs⟩:=(AQ aT).1 he;obtain⟨t',g1,g2⟩:=ht.has e p hp;obtain⟨i,hi⟩:=aly hm;obtain⟨j,hj⟩:=aly g1;have:j=i:=(amh (i:=j) (j:=i) (l:=T.map (·.1)) (by simpa using (ak6.1 hj).1) ht.nd).1 (by rw [alc,alc,hi,hj];simp [hs]);subst this;rw [hi] at hj;have:=alm hj;rw [amA] at this;rw [<-this.2] at g2;exact alu.2 ⟨_,g2,rfl⟩)
 rw [az.cC] at h1 h2;have h3:0 < t.rows.length:=List.length_pos_iff.2 tne;unfold WA.shape;rw [if_neg (by omega)];congr 2;omega
theorem EY {a:WA} (aT:a.Ok) {T:List (Int×az)} (ht:dS a.ks a.row a.m.aE T) {s:Int} (hm: ∀x∈T,x.1≠s):a.shape s=none:=by
 unfold WA.shape;rw [if_pos];rw [anr,amR];intro e he;obtain⟨p,hp,hs⟩:=(AQ aT).1 he;obtain⟨t',g1,g2⟩:=ht.has e p hp;exact hm _ g1 hs
theorem dS.same {ks:KD} {row:bw->Option PL} {aE:bw->Option Int} {T T':List (Int×az)} (h:dS ks row aE T) (bJ:(T'.map (·.1)).Nodup) (vC: ∀x,x∈T'↔x∈T):dS ks row aE T':=
 ⟨h.aE,bJ,fun x hx=>h.tok x ((vC x).1 hx),fun e p hp=>by
  obtain⟨t,h1,h2⟩:=h.has e p hp;exact⟨t,(vC _).2 h1,h2⟩,h.fit⟩
section
variable {S:List Nat} {w0 w:World} {ae:List aa}
theorem PM (h:Hp S w0 w ae) (i:Nat) {T:List TT} {k tb:Nat} {set:Int} {t:az} (hi:(ae[i]?).map aa.holds=some (ak (T.map tT)).holds) (hk:T[k]? =some (set,tb,t)) {K:Int->World->Prop} (hK:K t.rows.length w):GI (some ⟨tb,0,none⟩) w K:=
 FT.BV (AM h i hi hk) 0 rfl hK
theorem CE {q:WH} (bJ:(q.bS.map (·.1)).Nodup) {set:Int} {tb:Nat} (h:cz q.T set=some tb): ∃(k:Nat) (t:az),q.T[k]? =some (set,tb,t) /\ (set,t)∈q.bS:=by
 obtain⟨k,t,hk⟩:=zB h;exact⟨k,t,hk,alu.2 ⟨_,ala hk,rfl⟩⟩
set_option maxHeartbeats 1000000 in
theorem CF (h:Hp S w0 w ae) (i:Nat) {b:Nat} {a:WA} (hi:ae[i]? =some (tW b a)) {K:Option Nat->World->Prop}
  (hK: ∀ob w',Hp S w0 w' (ae++ [dW ob (Value.int .i64) (Value.int .i64) a.shape])->K (some ob) w'):c43 (some ⟨b,0,none⟩) w K:=by
 refine Tx ?_;unfold f43;obtain⟨O,h1,back⟩:=h.f1 hi rfl;clear h;obtain⟨q,aT,ht,hk,h⟩:=gf h1;refine h.zj fun ob w1 h=>?_;have h:=h.zn (i:=8) (Value.int .i64) (Value.int .i64) rfl;refine aS ?_;refine h.ld (n:=3) (k:=.m) (x:=some q.mt) 0 rfl rfl ?_;refine h.oX (ek:=Value.int .i64) (ev:=pv) (g:=cz q.T) 6 rfl rZ fun r N w2 h=>?_;refine⟨fun mm w'=> ∃(done:List Int) (f:Int->Option Int),mm=N - done.length /\ (∀s,f s=if s∈done then a.shape s else none) /\ Hp O w w' [q.ra b,ao,aj q.sk 107 2 df q.xs,ak (q.xs.map tF),aD 149 q.pb a.m.ar,dW q.ms ct (Value.int .i64) a.m.aE,yV q.mt r (Value.int .i64) pv (cz q.T) N done,ak (q.T.map tT),dW ob (Value.int .i64) (Value.int .i64) f],
  ⟨N,[],fun _=>none,rfl,fun s=>by simp,h⟩,?_⟩
 clear h;rintro mm w3 ⟨done,f,rfl,hf,h⟩;refine h.qV 6 rfl (fun bz hN h=>?_) fun k v x1 x2 w4 hg dz av h=>?_
 ·have h:=h.qW (i:=6) rfl;have ef:f=a.shape:=by
   funext s
   rw [hf s]
   split
   ·rfl
   ·rename_i hs
    symm
    refine EY aT ht fun x hx he=>hs (bz s ?_);obtain⟨y,hy,rfl⟩:=alu.1 hx;have he:y.1=s:=he
    cases hp:cz q.T s with
    | some tb=>rfl
    | none=>exact absurd he (tP hp y hy)
  rw [ef] at h;exact hK ob _ (qu hi back (rest:= [dW ob (Value.int .i64) (Value.int .i64) a.shape]) rfl (dT (u:=ao) (m:=a.m) (q:=q) (rest:= [_]) aT ht hk rfl rfl h))
 ·obtain⟨ki,t,Bd,htm⟩:=CE ht.nd hg;refine h.oY (k:=k) (v:=v) 6 rfl hg ?_;show GI (some ⟨v,0,none⟩) _ _;refine PM h 7 rfl Bd ?_;refine h.update (ek:=Value.int .i64) (ev:=Value.int .i64) (g:=f) (k:=k) (v:=(t.rows.length:Nat)) 8 rfl rfl qm tw rfl fun w5 h=>?_;refine⟨N - (done.length+1),by omega,done++ [k],aG f k (some ((t.rows.length:Nat):Int)),by simp,fun s=>?_,h⟩;unfold aG;by_cases hs:s=k
  ·rw [if_pos hs,if_pos (by simp [hs]),hs,HI aT ht htm]
  ·rw [if_neg hs,hf s];by_cases hd:s∈done
   ·rw [if_pos hd,if_pos (by simp [hd])]
   ·rw [if_neg hd,if_neg (by simp [hd,hs])]
theorem Lq {e:bw} {R:Int->Int->World->Prop} (h:R e.1 e.2 w):dx [.agg [.i .i64,.i .i64]] (ct e) R w:=h
theorem CG {n:Int} {R:Int->World->Prop} (h:R n w):dx [.one (.i .i64)] (Value.int .i64 n) R w:=h
theorem PN {b:Nat} {R:Option Addr->World->Prop} (h:R (some ⟨b,0,none⟩) w):dx [.one .p] (pv b) R w:=h
set_option maxHeartbeats 4000000 in
theorem PQ (h:Hp S w0 w ae) (i:Nat) {b:Nat} {a:WA} (hi:ae[i]? =some (tW b a)) {K:Option Addr->World->Prop}
  (hK: ∀cb w',Hp S w0 w' (ae++ [tW cb a])->K (some ⟨cb,0,none⟩) w'):c33 (some ⟨b,0,none⟩) w K:=by
 refine Tm ?_;unfold f33;obtain⟨O,h1,back⟩:=h.f1 hi rfl;clear h;obtain⟨q,aT,ht,hk,h⟩:=gf h1;have ig:=aT.len;have cO:(kinds q.xs).length=q.xs.length:=by simp [kinds]
 have uV:q.xs.length<=12:=by rw [hk] at cO;omega
 have h4: ∀x∈q.xs,x.2.2.length<=4:=fun x hx=>aT.four (x.1,x.2.2) (by rw [<-hk];exact alu.2 ⟨x,hx,rfl⟩);refine h.dr fun w1 h=>?_;refine aS ?_;refine h.bE (k:=.sl) (x:=q.sk) 0 rfl rfl ?_;refine aS ?_;refine h.ld (n:=1) (k:=.p) (x:=some ⟨q.pb,0,none⟩) 0 rfl rfl ?_;have h:Hp O w w1 [q.ra b,ao,aj q.sk 107 2 df q.xs,ak (q.xs.map tF),aD 149 q.pb a.m.ar,dW q.ms ct (Value.int .i64) a.m.aE,dW q.mt (Value.int .i64) pv (cz q.T),ak (q.T.map tT)]:=h;have h:=(h.YP (.map #[] 0)).YP (.map #[] 0);refine h.Lp 8 9 (by decide) rfl rfl fun y1 y2 w2 h=>?_;simp only [alI,alO,alq,alG] at h;refine oK h 2 3 (s:=q.sk) (xs:=q.xs) rfl rfl (by omega) (fun x hx=>by have:=h4 x hx;omega) fun r ys w3 sJ h=>?_;refine⟨h.xl (n:=1) 0 rfl rfl,?_⟩;refine h.Lp 8 9 (by decide) (y1:=y1) (y2:=y2) rfl rfl fun y3 y4 w4 h=>?_;simp only [alI,alO,alq,alG] at h;refine FI.Pv h 4 (m:=a.ar) aT.qa rfl fun pb w5 h=>?_;refine h.Lp 8 9 (by decide) (y1:=y3) (y2:=y4) rfl rfl fun y5 y6 w6 h=>?_;simp only [alI,alO,alq,alG] at h;refine h.Rc 8 (y:=y5) rfl fun ms h=>?_;refine h.aej 9 (y:=y6) rfl fun y7 w7 h=>?_;refine h.Rc 9 (y:=y7) rfl fun mt h=>?_;simp only [alI,alO,alq,alG] at h;have h:=h.Rd (i:=8) ct (Value.int .i64) rfl;have h:=h.Rd (i:=9) (Value.int .i64) pv rfl;have h:Hp O w w7 [q.ra b,ao,aj q.sk 107 2 df q.xs,ak (q.xs.map tF),aD 149 q.pb a.m.ar,dW q.ms ct (Value.int .i64) a.m.aE,dW q.mt (Value.int .i64) pv (cz q.T),ak (q.T.map tT),dW ms ct (Value.int .i64) (fun _=>none),dW mt (Value.int .i64) pv (fun _=>none),aj r 107 2 df ys,ak (ys.map tF),aD 149 pb a.ar]:=h;refine h.nw (c:= [_,_,_,_]) fun cb w8 h=>?_;have h:=h.grow (Fr.refl _ _) (t:=ak (([]:List TT).map tT)) (O:= []) rfl (by simp) rfl;refine aS ?_;refine h.ld (n:=2) (k:=.m) (x:=some q.ms) 0 rfl rfl ?_;refine h.oX (ek:=ct) (ev:=Value.int .i64) (g:=a.m.aE) 5 rfl u5 fun r1 N w9 h=>?_;refine⟨fun mm w'=> ∃(done:List bw) (f:bw->Option Int),mm=N - done.length /\ (∀s,f s=if s∈done then a.m.aE s else none) /\ Hp O w w' [q.ra b,ao,aj q.sk 107 2 df q.xs,ak (q.xs.map tF),aD 149 q.pb a.m.ar,yV q.ms r1 ct (Value.int .i64) a.m.aE N done,dW q.mt (Value.int .i64) pv (cz q.T),ak (q.T.map tT),dW ms ct (Value.int .i64) f,dW mt (Value.int .i64) pv (fun _=>none),aj r 107 2 df ys,ak (ys.map tF),aD 149 pb a.ar,af cb 91 [.slice r.a r.len r.cap,.pointer (some ⟨pb,0,none⟩),.map (some ms),.map (some mt)],ak (([]:List TT).map tT)],
  ⟨N,[],fun _=>none,rfl,fun s=>by simp,h⟩,?_⟩
 clear h;rintro mm nK ⟨done,f,rfl,hf,h⟩;refine h.qV 5 rfl (fun bz hN h=>?_) fun e s x1 x2 qo hg dz av h=>?_
 ·have h:=h.qW (i:=5) rfl;have ef:f=a.m.aE:=by
   funext e
   rw [hf e]
   split
   ·rfl
   ·rename_i hs
    cases hp:a.m.aE e with
    | none=>rfl
    | some x=>exact absurd (bz e (by rw [hp];rfl)) hs
  rw [ef] at h;clear hf bz hN ef;have h:Hp O w nK [q.ra b,ao,aj q.sk 107 2 df q.xs,ak (q.xs.map tF),aD 149 q.pb a.m.ar,dW q.ms ct (Value.int .i64) a.m.aE,dW q.mt (Value.int .i64) pv (cz q.T),ak (q.T.map tT),dW ms ct (Value.int .i64) a.m.aE,dW mt (Value.int .i64) pv (cz []),aj r 107 2 df ys,ak (ys.map tF),aD 149 pb a.ar,af cb 91 [.slice r.a r.len r.cap,.pointer (some ⟨pb,0,none⟩),.map (some ms),.map (some mt)],ak (([]:List TT).map tT)]:=h;refine aS ?_;refine h.ld (n:=3) (k:=.m) (x:=some q.mt) 0 rfl rfl ?_;refine h.oX (ek:=Value.int .i64) (ev:=pv) (g:=cz q.T) 6 rfl rZ fun r2 N2 vB h=>?_;refine⟨fun mm w'=> ∃(done:List Int) (T':List TT),mm=N2 - done.length /\ T'.map (·.1)=done /\ done.Nodup /\ (∀x∈T',(x.1,x.2.2)∈q.bS) /\ Hp O w w' [q.ra b,ao,aj q.sk 107 2 df q.xs,ak (q.xs.map tF),aD 149 q.pb a.m.ar,dW q.ms ct (Value.int .i64) a.m.aE,yV q.mt r2 (Value.int .i64) pv (cz q.T) N2 done,ak (q.T.map tT),dW ms ct (Value.int .i64) a.m.aE,dW mt (Value.int .i64) pv (cz T'),aj r 107 2 df ys,ak (ys.map tF),aD 149 pb a.ar,af cb 91 [.slice r.a r.len r.cap,.pointer (some ⟨pb,0,none⟩),.map (some ms),.map (some mt)],ak (T'.map tT)],
   ⟨N2,[],[],rfl,rfl,by simp,by simp,h⟩,?_⟩
  clear h;rintro mm2 Dm ⟨Re,T',rfl,PR,Ij,Px,h⟩;refine h.qV 6 rfl (fun bz hN h=>?_) fun s tb x1 x2 PK hg dz av h=>?_
  ·have h:=h.qW (i:=6) rfl;have h:Hp O w Dm ([q.ra b,ao,aj q.sk 107 2 df q.xs,ak (q.xs.map tF),aD 149 q.pb a.m.ar,dW q.ms ct (Value.int .i64) a.m.aE,dW q.mt (Value.int .i64) pv (cz q.T),ak (q.T.map tT)]++ [dW ms ct (Value.int .i64) a.m.aE,dW mt (Value.int .i64) pv (cz T'),aj r 107 2 df ys,ak (ys.map tF),aD 149 pb a.ar,af cb 91 [.slice r.a r.len r.cap,.pointer (some ⟨pb,0,none⟩),.map (some ms),.map (some mt)],ak (T'.map tT)]):=h;have h:=dT (u:=ao) (m:=a.m) (q:=q) (b:=b) aT ht hk rfl rfl h;have h:=h.ic [0,6,0+3,4,5,1,2,7] (by decide) (ts:= [tW b a,af cb 91 [.slice r.a r.len r.cap,.pointer (some ⟨pb,0,none⟩),.map (some ms),.map (some mt)],aj r 107 2 df ys,ak (ys.map tF),aD 149 pb a.ar,dW ms ct (Value.int .i64) a.m.aE,dW mt (Value.int .i64) pv (cz T'),ak (T'.map tT)]) rfl;have h:Hp O w Dm ([tW b a]++ [af cb 91 [.slice r.a r.len r.cap,.pointer (some ⟨pb,0,none⟩),.map (some ms),.map (some mt)],aj r 107 2 df ys,ak (ys.map tF),aD 149 pb a.ar,dW ms ct (Value.int .i64) a.m.aE,dW mt (Value.int .i64) pv (cz T'),ak (T'.map tT)]):=h;have h:=h.HB.ic [2,0,3,4,5,6,7,8,1] (by decide) (ts:= [af cb 91 [.slice r.a r.len r.cap,.pointer (some ⟨pb,0,none⟩),.map (some ms),.map (some mt)],ao,aj r 107 2 df ys,ak (ys.map tF),aD 149 pb a.ar,dW ms ct (Value.int .i64) a.m.aE,dW mt (Value.int .i64) pv (cz T'),ak (T'.map tT),tW b a]) rfl;have vC: ∀x,x∈(⟨r,ys,pb,ms,mt,T'⟩:WH).bS↔x∈q.bS:=by
    intro x;constructor
    ·intro hx;obtain⟨y,hy,rfl⟩:=alu.1 hx;exact Px y hy
    ·intro hx;obtain⟨y,hy,rfl⟩:=alu.1 hx;have YQ:(cz q.T y.1).isSome=true:=by
      cases hp:cz q.T y.1 with
      | some _=>rfl
      | none=>exact absurd rfl (tP hp y hy)
     have hd:=bz y.1 YQ;rw [<-PR] at hd;obtain⟨z,hz,hze⟩:=alu.1 hd;have hzt:=Px z hz;have MI:(y.1,y.2.2)∈q.bS:=hx;obtain⟨i1,sN⟩:=aly hzt;obtain⟨i2,YR⟩:=aly MI;have:i1=i2:=(amh (i:=i1) (j:=i2) (l:=q.bS.map (·.1)) (by simpa using (ak6.1 sN).1) ht.nd).1 (by rw [alc,alc,sN,YR];simp [hze]);subst this;rw [sN] at YR;rw [<-alm YR];exact alu.2 ⟨z,hz,rfl⟩
   have Ik:dS a.ks a.row a.m.aE (⟨r,ys,pb,ms,mt,T'⟩:WH).bS:=ht.same (by
    unfold WH.bS;rw [amJ];show (T'.map (·.1)).Nodup;rw [PR];exact Ij) vC
   have h:=dT (u:=ao) (m:=a.m) (q:=⟨r,ys,pb,ms,mt,T'⟩) (b:=cb) (rest:= [tW b a]) aT Ik (by show kinds ys=a.ks;rw [sJ,hk]) rfl rfl h;have h:Hp O w Dm ([tW cb a]++ [tW b a]):=h;exact hK cb Dm (qu hi back (rest:= [tW cb a]) rfl h.comm)
  ·obtain⟨ki,t,Bd,htm⟩:=CE ht.nd hg;refine h.oY (k:=s) (v:=tb) 6 rfl hg ?_;refine CG (PN ?_);refine h.dr fun Vg h=>?_;refine h.ld (n:=3) (k:=.m) (x:=some mt) 13 rfl rfl ?_;refine FT.En (AM h 7 rfl Bd) 0 (ht.tok _ htm).1 rfl fun Wn Wl h2=>?_;have h:=h.r0 (rest:= [fA Wn t]) rfl (h2.rQ 1 rfl);simp only [alI,alO,alq,alG] at h;refine⟨h.xl (n:=3) 13 rfl rfl,?_⟩;refine h.update (ek:=Value.int .i64) (ev:=pv) (g:=cz T') (k:=s) (v:=Wn) 9 rfl rfl rZ tw rfl fun Ra h=>?_;have hsn:cz T' s=none:=xC (by rw [PR];exact dz);rw [Ch (t:=t) hsn] at h;have h:=h.join (i:=14) (j:=15) (a:=ak (T'.map tT)) (b:=tT (s,Wn,t)) (c:=ak ((T'++ [(s,Wn,t)]).map tT)) (by decide) rfl rfl (aM _) rfl (aM _) (fun w O1 O2 g1 g2 g3=>by
    rw [alW];exact fX g1 (us:= [tT (s,Wn,t)]) (O2:=O2) ⟨O2,[],g2,rfl,by simp,by simp⟩ g3)
   have h:=h.trim 15;refine⟨N2 - (Re.length+1),by omega,Re++ [s],T'++ [(s,Wn,t)],by simp,by rw [alW,PR];rfl,?_,fun x hx=>?_,h⟩
   ·rw [al1];exact⟨Ij,by simp,fun x hx y hy=>by simp only [ali] at hy;subst hy;exact fun e=>dz (e ▸ hx)⟩
   ·rcases alg.1 hx with hx | hx
    ·exact Px x hx
    ·simp only [ali] at hx;subst hx;exact htm
 ·refine h.oY (k:=e) (v:=s) 5 rfl hg ?_;refine Lq (CG ?_);refine h.nw (c:= [_,_]) fun eb vB h=>?_;refine h.gz 15 rfl (by simp) rfl fun Dm h=>?_;refine h.st (n:=1) 15 rfl (by simp) rfl fun PK h=>?_;simp only [alI,alO,alq,alG] at h;refine h.dr fun Vg h=>?_;refine h.ld (n:=2) (k:=.m) (x:=some ms) 13 rfl rfl ?_;refine h.bE (k:=.i .i64) (x:=e.1) 15 rfl rfl ?_;refine h.ld (n:=1) (k:=.i .i64) (x:=e.2) 15 rfl rfl ?_;refine h.update (ek:=ct) (ev:=Value.int .i64) (g:=f) (k:=e) (v:=s) 8 rfl rfl u5 dH rfl fun Wl h=>?_;have h:=h.trim 15;refine⟨N - (done.length+1),by omega,done++ [e],aG f e (some s),by simp,fun x=>?_,h⟩;unfold aG;by_cases hs:x=e
  ·rw [if_pos hs,if_pos (by simp [hs]),hs,hg]
  ·rw [if_neg hs,hf x];by_cases hd:x∈done
   ·rw [if_pos hd,if_pos (by simp [hd])]
   ·rw [if_neg hd,if_neg (by simp [hd,hs])]
end
open FI (pk bv oL)
open FP (bu gL bV bQ tB bx dO eW)
abbrev YS:=Int×Int×Int×Int
theorem YT:Tryz.prog.underlying 43=some (.slice 33):=by kernel_rfl
section
variable {S:List Nat} {w0 w:World} {ae:List aa}
set_option maxHeartbeats 2000000 in
theorem EZ (h0:Hp S w0 w ae) {K:Bool->World->Prop} (hK: ∀w',Hp S w0 w' ae->K true w'):c5 w K:=by
 refine Xh ?_;unfold f5;have h:=Hp.oE w;refine EW h fun sk w1 h=>?_;refine YI h 0 (s:=sk) (l:=gg) rfl (by decide) (fun x hx=>?_) (fun _ b w2 h=>?_) (fun dz=>absurd HF dz)
 ·simp only [gg,alF,amp,or_false] at hx
  rcases hx with rfl | rfl | rfl | rfl
  ·exact⟨by decide,by decide⟩
  ·exact⟨by decide,by decide⟩
  ·exact⟨by decide,by decide⟩
  ·exact⟨by decide,by decide⟩
 refine aJ (by simp) ?_;refine h.K8 (l:= [(7:Int)]) (f:=iv) (n:=1) (c:= [_]) rfl rfl aB fun b1 w3 h=>?_;refine h.K8 (l:= [(1:Int),2]) (f:=iv) (n:=1) (c:= [_,_]) rfl rfl aB fun b2 w4 h=>?_;refine h.K8 (l:= [((2,⟨some ⟨b1,0,none⟩,1,1⟩,[7]):PV),(1,⟨some ⟨b2,0,none⟩,2,2⟩,[1,2])]) (f:=ck) (n:=2) (c:= [_,_,_,_]) rfl rfl aR fun b3 w5 h=>?_;have h:Hp [] w w5 ([aK sk gg,tW b (WA.new gg)]++ [aj ⟨some ⟨b1,0,none⟩,1,1⟩ 2 1 iv [7],aj ⟨some ⟨b2,0,none⟩,2,2⟩ 2 1 iv [1,2]]++ [aj ⟨some ⟨b3,0,none⟩,2,2⟩ 36 2 ck [((2,⟨some ⟨b1,0,none⟩,1,1⟩,[7]):PV),(1,⟨some ⟨b2,0,none⟩,2,2⟩,[1,2])]]):=h;have h:=h.Q1;rw [ale] at h;have h:=h.zI (vis:=bq) (sub:=tV) rfl;have h:Hp [] w w5 [aK sk gg,tW b (WA.new gg),aN ⟨some ⟨b3,0,none⟩,2,2⟩ [(2,[7]),(1,[1,2])]]:=h;refine Gh h 1 2 (by decide) rfl rfl (by simp) (by simp [eW]) (by decide) fun w6 h=>?_;rw [ex1];have h:Hp [] w w6 [aK sk gg,tW b exA,aN ⟨some ⟨b3,0,none⟩,2,2⟩ [(2,[7]),(1,[1,2])]]:=h;refine h.nw (c:= [_,_]) fun ab w7 h=>?_;refine h.gz 3 rfl (by simp) rfl fun w8 h=>?_;refine h.st (n:=1) 3 rfl (by simp) rfl fun w9 h=>?_;have h:=h.gN 36 2 ck tV bq;refine Gh h 1 4 (by decide) (a:=exA) rfl rfl (by simp) (by simp) (by decide) fun nK h=>?_;rw [ex2];have h:Hp [] w nK [aK sk gg,tW b YJ,aN ⟨some ⟨b3,0,none⟩,2,2⟩ [(2,[7]),(1,[1,2])],af ab 33 [.int .i64 0,.int .i64 1],aN ⟨none,0,0⟩ []]:=h;refine h.nw (c:= [_,_]) fun bb qo h=>?_;refine h.gz 5 rfl (by simp) rfl fun vB h=>?_;refine h.st (n:=1) 5 rfl (by simp) rfl fun Dm h=>?_;refine h.bE (k:=.i .i64) (x:=(1:Int)) 5 rfl rfl ?_;refine h.ld (n:=1) (k:=.i .i64) (x:=(1:Int)) 5 rfl rfl ?_;have h:=h.nil 2 1 iv;have h:Hp [] w Dm [aK sk gg,tW b YJ,aN ⟨some ⟨b3,0,none⟩,2,2⟩ [(2,[7]),(1,[1,2])],af ab 33 [.int .i64 0,.int .i64 1],aN ⟨none,0,0⟩ [],af bb 33 [.int .i64 1,.int .i64 1],aj ⟨none,0,0⟩ 2 1 iv []]:=h;refine Q9 h 1 6 (by decide) (e:=(1,1)) (kind:=3) (v:= []) (a:=YJ) rfl rfl (by decide) (by decide) (by simp [eW]) fun PK h=>?_;rw [ex3];have h:Hp [] w PK [aK sk gg,tW b exC,aN ⟨some ⟨b3,0,none⟩,2,2⟩ [(2,[7]),(1,[1,2])],af ab 33 [.int .i64 0,.int .i64 1],aN ⟨none,0,0⟩ [],af bb 33 [.int .i64 1,.int .i64 1],aj ⟨none,0,0⟩ 2 1 iv []]:=h;refine h.bE (k:=.i .i64) (x:=(1:Int)) 5 rfl rfl ?_;refine h.ld (n:=1) (k:=.i .i64) (x:=(1:Int)) 5 rfl rfl ?_;refine Q9 h 1 6 (by decide) (e:=(1,1)) (kind:=3) (v:= []) (a:=exC) rfl rfl (by decide) (by decide) (by simp [eW]) fun Vg h=>?_;rw [ex4];have h:Hp [] w Vg [aK sk gg,tW b exD,aN ⟨some ⟨b3,0,none⟩,2,2⟩ [(2,[7]),(1,[1,2])],af ab 33 [.int .i64 0,.int .i64 1],aN ⟨none,0,0⟩ [],af bb 33 [.int .i64 1,.int .i64 1],aj ⟨none,0,0⟩ 2 1 iv []]:=h;refine h.bE (k:=.i .i64) (x:=(0:Int)) 3 rfl rfl ?_;refine h.ld (n:=1) (k:=.i .i64) (x:=(1:Int)) 3 rfl rfl ?_;refine zJ h 1 (e:=(0,1)) (a:=exD) rfl fun Wl h=>?_;rw [ex5];have h:Hp [] w Wl [aK sk gg,tW b exE,aN ⟨some ⟨b3,0,none⟩,2,2⟩ [(2,[7]),(1,[1,2])],af ab 33 [.int .i64 0,.int .i64 1],aN ⟨none,0,0⟩ [],af bb 33 [.int .i64 1,.int .i64 1],aj ⟨none,0,0⟩ 2 1 iv []]:=h;refine aL rfl (aL rfl ?_);refine h.bE (k:=.i .i64) (x:=(0:Int)) 3 rfl rfl ?_;refine h.ld (n:=1) (k:=.i .i64) (x:=(1:Int)) 3 rfl rfl ?_;refine FT.zo (aL rfl ?_);refine h.bE (k:=.i .i64) (x:=(1:Int)) 5 rfl rfl ?_;refine h.ld (n:=1) (k:=.i .i64) (x:=(1:Int)) 5 rfl rfl ?_;refine FT.zo (aL rfl ?_);refine aL rfl (aL rfl (aL rfl ?_));refine kN h 1 (a:=exE) rfl fun s Ra h=>?_;refine h.MC 7 (u:=tB s exE.snap) rfl Hp.bZ ⟨#[2,0,2,2,1,0,0,8]⟩ ex6.symm ?_;have:=h0.r0 (rest:= []) rfl (h.trim 0);rw [alh] at this;have e:((⟨#[2,0,2,2,1,0,0,8]⟩:ByteArray).toList ==(⟨#[2,0,2,2,1,0,0,8]⟩:ByteArray).toList)=true:=by simp
 rw [e];exact hK Ra this
end
def ri (w:World) (s:Sl) (l:List Part):Prop:= ∃xs:List PV,xs.map bq=l /\ (∃o,bO w s 2 ck xs o) /\ ∀x∈xs,∃o,bO w x.2.1 1 iv x.2.2 o
def YU (w:World) (s:Sl) (l:List gF):Prop:= ∃xs:List RV,xs.map dX=l /\ (∃o,bO w s 3 rdv xs o) /\ ∀x∈xs,ri w x.2.1 x.2.2
theorem bO.cn {α:Type} {f:α->List Value} {n:Nat} {w w':World} {s:Sl} {l:List α} (h: ∃o,bO w s n f l o) (hf:Fr [] w w'): ∃o,bO w' s n f l o:=by
 obtain⟨o,h⟩:=h;exact⟨o,h.fr hf (by simp)⟩
theorem ri.cn {w w':World} {s:Sl} {l:List Part} (h:ri w s l) (hf:Fr [] w w'):ri w' s l:=by
 obtain⟨xs,h1,h2,h3⟩:=h;exact⟨xs,h1,bO.cn h2 hf,fun x hx=>bO.cn (h3 x hx) hf⟩
theorem sx {ts:List aa} {t:aa} {w:World} {O:List Nat} (h:(ak ts).holds w O) (hm:t∈ts): ∃O',t.holds w O':=by
 obtain⟨k,hk⟩:=aly hm;obtain⟨O1,_,h1,_⟩:=dk hk h;exact⟨O1,h1⟩
theorem ue {w:World} {s:Sl} {l:List Part} {O:List Nat} (h:(aN s l).holds w O):ri w s l:=by
 obtain⟨xs,h1,O1,O2,h2,h3,_⟩:=h;refine⟨xs,h1,⟨_,cq.toR h2⟩,fun x hx=>?_⟩;obtain⟨O',h4⟩:=sx h3 (alu.2 ⟨x,hx,rfl⟩);exact⟨O',cq.toR h4⟩
theorem AR {w:World} {s:Sl} {l:List gF} {O:List Nat} (h:(bF s l).holds w O):YU w s l:=by
 obtain⟨xs,h1,O1,O2,h2,h3,_⟩:=h;refine⟨xs,h1,⟨_,cq.toR h2⟩,fun x hx=>?_⟩;obtain⟨O',h4⟩:=sx h3 (alu.2 ⟨x,hx,rfl⟩);exact ue h4
theorem MJ {w:World} {K:World->Prop} (hK: ∀w',Fr [] w w'->K w'):Dr w K:=hK _ (Fr.refl [] w).drew
theorem oZ {α:Type} {l m:List α} {k:Nat} (h:l.take k=m.take k) (hl:k < l.length) (hm:k < m.length) (he:l[k]=m[k]):l.take (k+1)=m.take (k+1):=by
 rw [alp hl,alp hm,h,he]
theorem vE {a b:Sl} {la lb:List Int} {w:World} (ha: ∃o,bO w a 1 iv la o) (hb: ∃o,bO w b 1 iv lb o) (EA:la.length<=1000000000) {K:Bool->World->Prop} (hK: ∀w',Fr [] w w'->K (decide (la=lb)) w'):Sj a b w K:=by
 refine Om ?_;unfold f137;have e1:la.length=a.len:=by obtain⟨o,h⟩:=ha;exact h.1
 have e2:lb.length=b.len:=by obtain⟨o,h⟩:=hb;exact h.1
 by_cases hl:a.len=b.len
 ·refine aJ (by simp [hl]) ?_;refine⟨fun i mm w'=> ∃k:Nat,i=k /\ k<=la.length /\ mm=la.length - k /\ la.take k=lb.take k /\ Fr [] w w',⟨la.length,0,rfl,by omega,rfl,by simp,Fr.refl _ _⟩,?_⟩;rintro i mm w1 ⟨k,rfl,hk,rfl,heq,hf⟩;by_cases av:k < la.length
  ·refine aL (by simp;omega) ?_;refine MJ fun w2 pL=>?_;have hf:=hf.trans pL (by simp);have CH:k < lb.length:=by omega
   obtain⟨oa,Gk⟩:=bO.cn ha hf;obtain⟨ob,gO⟩:=bO.cn hb hf;refine bO.ix aB Gk (by omega) (x:=la[k]) (by simp [av]) fun ad hc=>?_;refine dG (k:=.i .i64) (x:=la[k]) (hc 0 (by omega)) rfl ?_;refine bO.ix aB gO (by omega) (x:=lb[k]) (by simp [CH]) fun Is lF=>?_;refine dG (k:=.i .i64) (x:=lb[k]) (lF 0 (by omega)) rfl ?_;by_cases he:la[k]=lb[k]
   ·exact aJ (by simp [he]) ⟨la.length - (k+1),by omega,k+1,by rw [aI (by omega) (by omega)];omega,by omega,rfl,oZ heq av CH he,hf⟩
   ·refine aL (by simp [he]) ?_;have:=hK w2 hf
    rwa [decide_eq_false (fun e=>he (by simp [e]))] at this
  ·refine aJ (by simp;omega) ?_;have:=hK w1 hf;rw [aln (by omega),aln (by omega)] at heq
   rwa [decide_eq_true heq] at this
 ·refine aL (by simp;omega) ?_;have:=hK w (Fr.refl _ _)
  rwa [decide_eq_false (fun e=>hl (by rw [<-e1,<-e2,e]))] at this
theorem kP {a b:Sl} {la lb:List Part} {w:World} (ha:ri w a la) (hb:ri w b lb) (EA:la.length<=1000000000) (hv: ∀x∈la,x.2.length<=1000000000) {K:Bool->World->Prop} (hK: ∀w',Fr [] w w'->K (decide (la=lb)) w'):W9 a b w K:=by
 refine Un ?_;unfold f91;obtain⟨xa,a1,a2,a3⟩:=ha;obtain⟨xb,b1,b2,b3⟩:=hb;have e1:xa.length=a.len:=by obtain⟨o,h⟩:=a2;exact h.1
 have e2:xb.length=b.len:=by obtain⟨o,h⟩:=b2;exact h.1
 have e3:la.length=xa.length:=by rw [<-a1,alr]
 have e4:lb.length=xb.length:=by rw [<-b1,alr]
 by_cases hl:a.len=b.len
 ·refine aJ (by simp [hl]) ?_;refine⟨fun i mm w'=> ∃k:Nat,i=k /\ k<=la.length /\ mm=la.length - k /\ la.take k=lb.take k /\ Fr [] w w',⟨la.length,0,rfl,by omega,rfl,by simp,Fr.refl _ _⟩,?_⟩;rintro i mm w1 ⟨k,rfl,hk,rfl,heq,hf⟩;by_cases av:k < la.length
  ·refine aL (by simp;omega) ?_;refine MJ fun w2 pL=>?_;have hf:=hf.trans pL (by simp);have CH:k < lb.length:=by omega
   have Dn:xa[k]? =some (xa[k]'(by omega)):=alf _;have E0:xb[k]? =some (xb[k]'(by omega)):=alf _;have g1:la[k]=bq (xa[k]'(by omega)):=by simp [<-a1]
   have g2:lb[k]=bq (xb[k]'(by omega)):=by simp [<-b1]
   have va:=a3 _ (ala Dn);have vb:=b3 _ (ala E0);have HJ:=hv la[k] (alz av);rw [g1] at HJ;generalize xa[k]'(by omega)=x at Dn g1 va HJ;generalize xb[k]'(by omega)=y at E0 g2 vb;obtain⟨oa,Gk⟩:=bO.cn a2 hf;obtain⟨ob,gO⟩:=bO.cn b2 hf;refine bO.ix aR Gk (by omega) (x:=x) (by rw [ak7];exact Dn) fun ad hc=>?_;refine jB (k:=.sl) (x:=x.2.1) (hc 1 (by omega)) rfl ?_;refine bO.ix aR gO (by omega) (x:=y) (by rw [ak7];exact E0) fun Is lF=>?_;refine jB (k:=.sl) (x:=y.2.1) (lF 1 (by omega)) rfl ?_;refine vE (bO.cn va hf) (bO.cn vb hf) HJ fun w3 Ba=>?_;refine MJ fun w4 FX=>?_;have hf:=(hf.trans Ba (by simp)).trans FX (by simp);by_cases hv:x.2.2=y.2.2
   ·rw [decide_eq_true hv];refine aJ (by simp) ?_;obtain⟨oa,ha3⟩:=bO.cn a2 hf;obtain⟨ob,rA⟩:=bO.cn b2 hf;refine bO.ix aR ha3 (by omega) (x:=x) (by rw [ak7];exact Dn) fun ad hc=>?_;refine dG (k:=.i .i64) (x:=x.1) (hc 0 (by omega)) rfl ?_;refine bO.ix aR rA (by omega) (x:=y) (by rw [ak7];exact E0) fun Is lF=>?_;refine dG (k:=.i .i64) (x:=y.1) (lF 0 (by omega)) rfl ?_;by_cases he:x.1=y.1
    ·refine aJ (by simp [he]) ⟨la.length - (k+1),by omega,k+1,by rw [aI (by omega) (by omega)];omega,by omega,rfl,oZ heq av CH ?_,hf⟩;rw [g1,g2];exact amz he hv
    ·refine aL (by simp [he]) ?_;have:=hK w4 hf
     rwa [decide_eq_false (fun e=>he (by
      have:la[k]=lb[k]:=by simp [e]
      rw [g1,g2] at this;exact(amx this).1))] at this
   ·rw [decide_eq_false hv];refine aL rfl ?_;have:=hK w4 hf
    rwa [decide_eq_false (fun e=>hv (by
     have:la[k]=lb[k]:=by simp [e]
     rw [g1,g2] at this;exact(amx this).2))] at this
  ·refine aJ (by simp;omega) ?_;have:=hK w1 hf;rw [aln (by omega),aln (by omega)] at heq
   rwa [decide_eq_true heq] at this
 ·refine aL (by simp;omega) ?_;have:=hK w (Fr.refl _ _)
  rwa [decide_eq_false (fun e=>hl (by rw [<-e1,<-e2,<-e3,<-e4,e]))] at this
theorem lI {a b:Sl} {la lb:List gF} {w:World} (ha:YU w a la) (hb:YU w b lb) (EA:la.length<=1000000000) (hv: ∀x∈la,x.2.length<=1000000000 /\ ∀y∈x.2,y.2.length<=1000000000) {K:Bool->World->Prop} (hK: ∀w',Fr [] w w'->K (decide (la=lb)) w'):R3 a b w K:=by
 refine TC ?_;unfold f47;obtain⟨xa,a1,a2,a3⟩:=ha;obtain⟨xb,b1,b2,b3⟩:=hb;have e1:xa.length=a.len:=by obtain⟨o,h⟩:=a2;exact h.1
 have e2:xb.length=b.len:=by obtain⟨o,h⟩:=b2;exact h.1
 have e3:la.length=xa.length:=by rw [<-a1,alr]
 have e4:lb.length=xb.length:=by rw [<-b1,alr]
 by_cases hl:a.len=b.len
 ·refine aJ (by simp [hl]) ?_;refine⟨fun i mm w'=> ∃k:Nat,i=k /\ k<=la.length /\ mm=la.length - k /\ la.take k=lb.take k /\ Fr [] w w',⟨la.length,0,rfl,by omega,rfl,by simp,Fr.refl _ _⟩,?_⟩;rintro i mm w1 ⟨k,rfl,hk,rfl,heq,hf⟩;by_cases av:k < la.length
  ·refine aL (by simp;omega) ?_;refine MJ fun w2 pL=>?_;have hf:=hf.trans pL (by simp);have CH:k < lb.length:=by omega
   have Dn:xa[k]? =some (xa[k]'(by omega)):=alf _;have E0:xb[k]? =some (xb[k]'(by omega)):=alf _;have g1:la[k]=dX (xa[k]'(by omega)):=by simp [<-a1]
   have g2:lb[k]=dX (xb[k]'(by omega)):=by simp [<-b1]
   have va:=a3 _ (ala Dn);have vb:=b3 _ (ala E0);have HJ:=hv la[k] (alz av);rw [g1] at HJ;generalize xa[k]'(by omega)=x at Dn g1 va HJ;generalize xb[k]'(by omega)=y at E0 g2 vb;obtain⟨oa,Gk⟩:=bO.cn a2 hf;obtain⟨ob,gO⟩:=bO.cn b2 hf;refine bO.ix cc Gk (by omega) (x:=x) (by rw [ak7];exact Dn) fun ad hc=>?_;refine jB (k:=.sl) (x:=x.2.1) (hc 2 (by omega)) rfl ?_;refine bO.ix cc gO (by omega) (x:=y) (by rw [ak7];exact E0) fun Is lF=>?_;refine jB (k:=.sl) (x:=y.2.1) (lF 2 (by omega)) rfl ?_;refine kP (va.cn hf) (vb.cn hf) HJ.1 HJ.2 fun w3 Ba=>?_;refine MJ fun w4 FX=>?_;have hf:=(hf.trans Ba (by simp)).trans FX (by simp);by_cases hv:x.2.2=y.2.2
   ·rw [decide_eq_true hv];refine aJ (by simp) ?_;obtain⟨oa,ha3⟩:=bO.cn a2 hf;obtain⟨ob,rA⟩:=bO.cn b2 hf;refine bO.ix cc ha3 (by omega) (x:=x) (by rw [ak7];exact Dn) fun ad hc=>?_;refine dG (k:=.i .i64) (x:=x.1.1) (hc 0 (by omega)) rfl ?_;refine jB (k:=.i .i64) (x:=x.1.2) (hc 1 (by omega)) rfl ?_;refine bO.ix cc rA (by omega) (x:=y) (by rw [ak7];exact E0) fun Is lF=>?_;refine dG (k:=.i .i64) (x:=y.1.1) (lF 0 (by omega)) rfl ?_;refine jB (k:=.i .i64) (x:=y.1.2) (lF 1 (by omega)) rfl ?_;refine FT.QE ?_;by_cases he:x.1=y.1
    ·refine aJ (by simp [he]) ⟨la.length - (k+1),by omega,k+1,by rw [aI (by omega) (by omega)];omega,by omega,rfl,oZ heq av CH ?_,hf⟩;rw [g1,g2];exact amz he hv
    ·refine aL ?_ ?_
     ·have:(x.1.1 ==y.1.1 && x.1.2 ==y.1.2)=false:=by
       cases hh:(x.1.1 ==y.1.1 && x.1.2 ==y.1.2) with
       | false=>rfl
       | true=>
        have:=Bool.and_eq_true_iff.1 hh;exact absurd (amz (by simpa using this.1) (by simpa using this.2)) he
      rw [this];rfl
     have:=hK w4 hf
     rwa [decide_eq_false (fun e=>he (by
      have:la[k]=lb[k]:=by simp [e]
      rw [g1,g2] at this;exact(amx this).1))] at this
   ·rw [decide_eq_false hv];refine aL rfl ?_;have:=hK w4 hf
    rwa [decide_eq_false (fun e=>hv (by
     have:la[k]=lb[k]:=by simp [e]
     rw [g1,g2] at this;exact(amx this).2))] at this
  ·refine aJ (by simp;omega) ?_;have:=hK w1 hf;rw [aln (by omega),aln (by omega)] at heq
   rwa [decide_eq_true heq] at this
 ·refine aL (by simp;omega) ?_;have:=hK w (Fr.refl _ _)
  rwa [decide_eq_false (fun e=>hl (by rw [<-e1,<-e2,<-e3,<-e4,e]))] at this
section
variable {S:List Nat} {w0 w:World} {ae:List aa}
end
end Go.Proofs.YtcccjgmekakabaaGreat.FW
end

section
namespace Go.Proofs.YtcccjgmekakabaaGreat.FW
open F
open Go Go.Den Go.Proofs
open FI (ai aD pk gK)
open FT (az fA bw ct fo cu jV dH iv aB)
open FP (bu gL tU bV bQ tB bx dO eW gM Acc bH nq dJ jv kH)
theorem gM.uniq {bs:List Int} {m:Int} {X X':List Int} {s s':Int} (h:gM bs m X s) (h':gM bs m X' s'):X=X' /\ s=s':=by
 by_cases h0:s=0
 ·by_cases MA:s'=0
  ·rw [h.1 h0,h'.1 MA,h0,MA];exact⟨rfl,rfl⟩
  ·have:=h.2.2 X' (h'.2.1 MA).1;exact⟨this.1,by rw [this.2,(h'.2.1 MA).2]⟩
 ·have:=h'.2.2 X (h.2.1 h0).1;exact⟨this.1.symm,by rw [(h.2.1 h0).2,this.2]⟩
open Classical in
noncomputable def dq (bs:List Int) (aO:Int):List Int×Int:=if h: ∃p:List Int×Int,gM bs aO p.1 p.2 then Classical.choose h else ([],0)
theorem PT {bs:List Int} {m:Int} {X:List Int} {s:Int} (h:gM bs m X s):dq bs m=(X,s):=by
 have he: ∃p:List Int×Int,gM bs m p.1 p.2:=⟨(X,s),h⟩;unfold dq;rw [dif_pos he];have:=gM.uniq (Classical.choose_spec he) h;exact amz this.1 this.2
open Classical in
noncomputable def qX (bs:List Int):Option (List Int×List Int):=
 if (dq bs 200).2=0 \/ ¬(∀x∈(dq bs 200).1,0<=x /\ x<=1000001) then none else some ((dq bs 200).1,bs.drop (dq bs 200).2.toNat)
def iC:Nat->List Int->Option (List Int×List Int)
 | 0,bs=>some ([],bs)
 | n+1,bs=>if (nq bs).2=0 then none else (iC n (bs.drop (nq bs).2.toNat)).map fun r=>((nq bs).1 :: r.1,r.2)
def vF (ks:KD) (set:Int) (v:List Int):PL:=(List.range ks.length).map fun i=>if bit set (i+1)=1 then some ((v.drop (gd ks set i)).take (((ks[i]?).map (·.2.length)).getD 0)) else none
def eY (ks:KD):List bw->List Int->(bw->Option PL)->Option ((bw->Option PL)×List Int)
 | [],bs,row=>some (row,bs)
 | e :: es,bs,row=>
  if (bH bs).2=0 \/ (bH bs).1 % 2=1 \/ (bH bs).1 / 2 ^ (ks.length+1)≠0 then none
  else match iC (gd ks (bH bs).1 ks.length) (bs.drop (bH bs).2.toNat) with
   | none=>none
   | some r=>eY ks es r.2 (aG row e (some (vF ks (bH bs).1 r.1)))
noncomputable def load (ks:KD) (bs:List Int):Option WA×Int:=
 if ¬cY ks then (none,65) else match qX bs with
 | none=>(none,64)
 | some r1=>match qX r1.2 with
  | none=>(none,64)
  | some r2=>match gK 200 r1.1 r2.1 with
   | none=>(none,64)
   | some m=>match eY ks (m.iG m.au.length) r2.2 (fun _=>none) with
    | none=>(none,64)
    | some r=>if r.2= [] then (some ⟨ks,m,r.1⟩,0) else (none,64)
theorem CI (ks:KD) (set:Int) {i j:Nat} (h:i<=j):gd ks set i<=gd ks set j:=by
 induction j with
 | zero=>rw [show i=0 by omega];exact alA _
 | succ j ih=>
  by_cases hi:i<=j
  ·have:=ih hi;rw [gd];omega
  ·obtain rfl:i=j+1:=by omega
   exact alA _
theorem o0 (ks:KD) (set:Int) (v:List Int):(vF ks set v).length=ks.length:=by simp [vF]
theorem sy {ks:KD} {set:Int} {v:List Int} {i:Nat} {k:ByteArray×List ByteArray} (hk:ks[i]? =some k):
  (vF ks set v)[i]? =some (if bit set (i+1)=1 then some ((v.drop (gd ks set i)).take k.2.length) else none):=by
 have hl:=(ak6.1 hk).1;unfold vF;rw [alc,amC hl,al8,hk];rfl
theorem CJ {ks:KD} {set:Int} {i:Nat} {k:ByteArray×List ByteArray} (hk:ks[i]? =some k):gd ks set (i+1)=gd ks set i+if bit set (i+1)=1 then k.2.length else 0:=by
 rw [gd,hk];rfl
theorem zO {ks:KD} {set:Int} {v:List Int} (hv:v.length=gd ks set ks.length): ∀q,q<=ks.length->flat ((vF ks set v).take q)=v.take (gd ks set q)
 | 0,_=>by simp [gd,flat]
 | q+1,hq=>by
  have ih:=zO hv q (by omega);have hk:ks[q]? =some ks[q]:=by simp [show q < ks.length by omega]
  have hg:=sy (set:=set) (v:=v) hk;have hm:=CI ks set (show q+1<=ks.length from hq);have hs:=CJ (set:=set) hk;rw [tR hg,ih];by_cases hb:bit set (q+1)=1
  ·rw [if_pos hb] at hs ⊢;rw [hs,amu];rw [List.take_add]
  ·rw [if_neg hb] at hs ⊢;rw [hs];simp
theorem Ls {ks:KD} {set:Int} {v:List Int} (hv:v.length=gd ks set ks.length):flat (vF ks set v)=v:=by
 have:=zO hv ks.length (alA _)
 rwa [<-o0 ks set v,amB,o0,<-hv,amB] at this
theorem Lt {ks:KD} {set:Int} {v:List Int} (hv:v.length=gd ks set ks.length):(vF ks set v).fit ks:=by
 refine⟨o0 _ _ _,fun i x k hx hk=>?_⟩;rw [sy hk] at hx;have jD:=(ak6.1 hk).1;have hx:=alm hx
 split at hx
 ·rename_i hb
  obtain rfl:=alm hx;have hm:=CI ks set (show i+1<=ks.length from jD);have hs:=CJ (set:=set) hk;rw [if_pos hb] at hs;rw [alv,alT];omega
 ·cases hx
theorem Lu {ks:KD} (hl:ks.length<=12) {set:Int} {v:List Int} (h0:0<=set) (h1:set % 2=0) (h2:set / 2 ^ (ks.length+1)=0):aA (vF ks set v)=set:=by
 obtain⟨s,rfl⟩: ∃s:Nat,set=s:=⟨set.toNat,by omega⟩;have Mo:s / 2 ^ (ks.length+1)=0:=by
  have e:((s:Int) / 2 ^ (ks.length+1))=((s / 2 ^ (ks.length+1):Nat):Int):=by simp
  rw [e] at h2;omega
 have av:s < 2 ^ (ks.length+1):=by
  rcases anA s (2 ^ (ks.length+1)) with h | h
  ·exact h
  ·have:=Nat.div_pos h (Nat.two_pow_pos _);omega
 unfold aA;congr 1;apply amM;intro j;rw [iz]
 cases j with
 | zero=>
  rw [Nat.testBit_zero];show false=_
  symm
  simp;omega
 | succ i=>
  show ((vF ks (s:Int) v).getD i none).isSome=_;by_cases hi:i < ks.length
  ·have hk:ks[i]? =some ks[i]:=by simp [hi]
   rw [alk,sy hk,amu];have hb:bit (s:Int) (i+1)=((s / 2 ^ (i+1) % 2:Nat):Int):=by unfold bit;simp
   rw [hb,Nat.testBit_eq_decide_div_mod_eq];by_cases h:s / 2 ^ (i+1) % 2=1
   ·rw [if_pos (by rw [h];rfl),decide_eq_true h];rfl
   ·rw [if_neg (by omega),decide_eq_false h];rfl
  ·rw [alk,alE (by rw [o0];omega)]
   symm
   exact Nat.testBit_lt_two_pow (amV av (am0 (by omega) (by omega)))
theorem HK {ks:KD} {p:PL} (h:p.fit ks):vF ks (aA p) (flat p)=p:=by
 apply alM;intro i;by_cases hi:i < ks.length
 ·have hk:ks[i]? =some ks[i]:=by simp [hi]
  have hp:p[i]? =some (p[i]'(by rw [h.1];exact hi)):=alf _;rw [sy hk]
  cases ho:p[i]'(by rw [h.1];exact hi) with
  | none=>
   rw [ho] at hp;rw [if_neg (fun hb=>by have:=AH.1 hb;rw [alk,hp] at this;cases this),hp]
  | some x=>
   rw [ho] at hp;rw [if_pos (AH.2 (by rw [alk,hp];rfl)),hp];have hl:=h.2 i x _ hp hk;have:=h.get hp;rw [List.drop_take,amn] at this;rw [<-hl,this]
 ·rw [alE (by rw [o0];omega),alE (by rw [h.1];omega)]
theorem yb {a b:List Int} {n:Int} (h:n=(a.length:Int)):(a++b).drop n.toNat=b:=by
 rw [h,ak7,anz]
theorem PU {x:Int}:tU (gL x)=x:=by
 unfold tU gL
 split <;> split <;> omega
theorem sA: ∀(v:List Int),eW v-> ∀r,iC v.length (bV v++r)=some (v,r)
 | [],_,r=>rfl
 | x :: v,hv,r=>by
  have hx:=hv x (by simp);have e:bV (x :: v)++r=bu (gL x)++(bV v++r):=by unfold bV;rw [alX,ale]
  have hg:=kH hx.1 hx.2 (bV v++r);have hgi:nq (bu (gL x)++(bV v++r))=(x,((bu (gL x)).length:Int)):=by
   unfold nq;rw [hg,PU]
  have jK:=FP.eV (gL x);rw [e,alQ,iC,hgi,if_neg (by show ¬((bu (gL x)).length:Int)=0;omega)];rw [yb rfl,sA v (fun y hy=>hv y (by simp [hy])) r];rfl
theorem qw {ks:KD} (hl:ks.length<=12) {row0:bw->Option PL}: ∀(es:List bw) (row:bw->Option PL),(∀e∈es,∃p,row0 e=some p /\ p.fit ks /\ eW (flat p))->
  eY ks es (es.flatMap fun e=>eP ((row0 e).getD [])) row=some (fun e=>if e∈es then row0 e else row e,[])
 | [],row,_=>by simp [eY]
 | e :: es,row,h=>by
  obtain⟨p,hp,hf,hr⟩:=h e (by simp);have q9:=ff p;have zu:=fg (show p.length<=12 by rw [hf.1];exact hl);have e1:(e :: es).flatMap (fun e=>eP ((row0 e).getD []))=bu (aA p)++(bV (flat p)++es.flatMap fun e=>eP ((row0 e).getD [])):=by
   rw [alX,hp];show bu (aA p)++bV (flat p)++_=_;rw [ale]
  have hg:=jv (n:=aA p) q9 (by omega) (bV (flat p)++es.flatMap fun e=>eP ((row0 e).getD []));have jK:=FP.eV (aA p);rw [e1,eY,hg];dsimp only;rw [if_neg,yb rfl,<-hf.all,sA _ hr]
  ·dsimp only;rw [HK hf,qw hl es _ (fun x hx=>h x (by simp [hx]))];congr 2
   funext x
   unfold aG;by_cases hx:x∈es
   ·rw [if_pos hx,if_pos (by simp [hx])]
   ·rw [if_neg hx];by_cases KY:x=e
    ·rw [if_pos KY,if_pos (by simp [KY]),KY,hp]
    ·rw [if_neg KY,if_neg (by simp [hx,KY])]
  ·have agm:aA p % 2=0:=by unfold aA;rw [ju];simp
   have AS:aA p / 2 ^ (ks.length+1)=0:=by
    have h1:=AG (none :: p);have e:(aA p / 2 ^ (ks.length+1))=((ju (none :: p) / 2 ^ (ks.length+1):Nat):Int):=by unfold aA;simp
    rw [e,Nat.div_eq_of_lt]
    ·rfl
    ·rw [<-hf.1];exact h1
   rintro(h | h | h)
   ·have:(bu (aA p)).length=0:=by omega
    omega
   ·omega
   ·exact h AS
theorem HL {a:WA} (aT:a.Ok) (aZ: ∀e p,a.row e=some p->p.fit a.ks) (r1: ∀l,Acc a.snap 200 l->dq a.snap 200=(l,((bQ l).length:Int))) (r2: ∀l,Acc (a.snap.drop (bQ a.ar.aH).length) 200 l->dq (a.snap.drop (bQ a.ar.aH).length) 200=(l,((bQ l).length:Int))):load a.ks a.snap=(some a,0):=by
 obtain⟨g1,g2,g3,g4⟩:=gY aT.qa;have h1:=r1 a.ar.aH ⟨by omega,by omega,by omega,g1,bQ a.ar.free++a.all.flatMap (fun e=>eP ((a.row e).getD [])),by unfold WA.snap;rw [ale]⟩;have ed:a.snap.drop (bQ a.ar.aH).length=bQ a.ar.free++a.all.flatMap fun e=>eP ((a.row e).getD []):=by
  unfold WA.snap;rw [ale,anz]
 have h2:=r2 a.ar.free ⟨by omega,by omega,by omega,g3,_,ed⟩;have jK: ∀l,0 < (bQ l).length:=fun l=>by
  unfold bQ;rw [alb];have:=FP.eV l.length;omega
 have A7:qX a.snap=some (a.ar.aH,a.snap.drop (bQ a.ar.aH).length):=by
  unfold qX;rw [h1];dsimp only;rw [if_neg,ak7];rintro(h | h)
  ·have:=jK a.ar.aH;omega
  ·refine h fun x hx=>?_;unfold ai.aH at hx;obtain⟨i,hi,rfl⟩:=List.mem_mapIdx.1 hx;have:=aT.qa.au _ (alz hi)
   split <;> omega
 have Ii:qX (a.snap.drop (bQ a.ar.aH).length)=some (a.ar.free,a.all.flatMap fun e=>eP ((a.row e).getD [])):=by
  unfold qX;rw [h2];dsimp only;rw [if_neg,ed,yb rfl];rintro(h | h)
  ·have:=jK a.ar.free;omega
  ·refine h fun x hx=>?_;have:=aT.qa.free x hx;have:=aT.qa.fZ;omega
 have fk:gK 200 a.ar.aH a.ar.free=some a.ar:=by
  have:=FI.Hq aT.EP
  rwa [aT.aO] at this
 have XT:=qw (ks:=a.ks) aT.len.2 (row0:=a.row) a.all (fun _=>none) (fun e he=>by
  obtain⟨p,hp⟩:=gw aT he;exact⟨p,hp,aZ e p hp,aT.Gf e p hp⟩)
 unfold load;rw [if_neg (by simpa using aT.may),A7];dsimp only;rw [Ii];dsimp only;rw [fk];dsimp only;show (match eY a.ks a.all _ _ with | none=>_ | some r=>_)=_;rw [XT];dsimp only;rw [if_pos rfl];have:(fun e=>if e∈a.all then a.row e else none)=a.row:=by
  funext e
  split
  ·rfl
  ·rename_i h
   cases hr:a.row e with
   | none=>rfl
   | some p=>exact absurd ((AP aT).2 (by rw [hr];rfl)) h
 rw [this]
section
variable {S:List Nat} {w0 w:World} {ae:List aa}
theorem Lv {u:aa} {f:Int->List Value} {n:Nat}:Hp.Reads u ⟨none,0,0⟩ n f ([]:List Int):=⟨fun{w O} _=>⟨[],bO.nil rfl⟩⟩
set_option maxHeartbeats 1000000 in
theorem sB (h:Hp S w0 w ae) (j:Nat) {u:aa} {b:Sl} {bs:List Int} (hj:ae[j]? =some u) (hu:Hp.Reads u b 1 ky bs) (hb:Bytes bs) (hl:bs.length<=9000000000000000) (eN:b.len<=b.cap) {K:Sl->Sl->Bool->World->Prop}
  (hK: ∀out s one w' (l bs':List Int),gM bs 200 (dq bs 200).1 (dq bs 200).2->Hp S w0 w' (ae++ [aj out 3 1 iv l])->Hp.Reads u s 1 ky bs'->s.len<=s.cap->Bytes bs'->bs'.length<=bs.length->(one=true->qX bs=some (l,bs') /\ l.length<=200)->(one=false->qX bs=none)->K out s one w'):c63 b w K:=by
 refine TW ?_;unfold f63;obtain⟨inf,q1,q2,q3,q4⟩:=FT.nW;have gQ:=(ak6.1 hj).1;refine FP.Cy h j (by rw [hj];rfl) hu hb hl eN fun s X size w1 hR h=>?_;have hg:=PT hR;have yM:=h.dR (u:=u) j (by rw [ak9 gQ,hj];rfl) hu;have hX:X.length<=200:=by
  by_cases h0:size=0
  ·rw [hR.1 h0];simp
  ·have:=(hR.2.1 h0).1.2.1;omega
 have hXr:eW X:=by
  by_cases h0:size=0
  ·rw [hR.1 h0];intro x hx;cases hx
  ·exact(hR.2.1 h0).1.2.2.2.1
 have dL:0<=size /\ size<=bs.length:=by
  by_cases h0:size=0
  ·omega
  ·obtain⟨hA,he⟩:=hR.2.1 h0;obtain⟨_,_,_,_,rest,hr⟩:=hA;have:=congrArg List.length hr;rw [alb] at this;omega
 have hR':gM bs 200 (dq bs 200).1 (dq bs 200).2:=by rw [hg];exact hR
 have h:=h.nil 3 1 iv;have fB:=h.len (s:=s) (e:=2) (n:=1) (f:=iv) (l:=X) ae.length (by rw [ale,ak8 (alA _),alK];rfl);have g0: ∀{l:List aa} (k:Nat),(ae++l)[ae.length+k]? =l[k]? :=fun{l} k=>by rw [ak8 (by omega)];simp
 have s0: ∀{l:List aa} (k:Nat) (t:aa),(ae++l).set (ae.length+k) t=ae++l.set k t:=fun{l} k t=>by rw [alj _ _ (by omega)];simp
 have h:Hp S w0 w1 (ae++ [aj s 2 1 iv X]++ [aj ⟨none,0,0⟩ 3 1 iv []]):=h;rw [ale] at h;have h:Hp S w0 w1 (ae++ [aj s 2 1 iv X,aj ⟨none,0,0⟩ 3 1 iv []]):=h;refine⟨fun out t17 mm w'=> ∃k:Nat,t17=k /\ k<=X.length /\ mm=X.length - k /\ (∀x∈X.take k,0<=x /\ x<=1000001) /\ Hp S w0 w' (ae++ [aj s 2 1 iv X,aj out 3 1 iv (X.take k)]),⟨X.length,0,rfl,by omega,rfl,by simp,h⟩,?_⟩;clear h;rintro out t17 mm w2 ⟨k,rfl,hk,rfl,bz,h⟩;have lq:=h.len (s:=out) (e:=3) (n:=1) (f:=iv) (l:=X.take k) (ae.length+1) (by rw [g0];rfl);rw [alv] at lq;by_cases av:k < X.length
 ·refine aL (by simp;omega) ?_;refine h.fz (k:=.i .i64) (s:=s) (e:=2) (f:=iv) (l:=X) (y:=X[k]) (x:=X[k]) (ae.length+0) (by rw [g0];rfl) (by omega) (by simp [av]) aB rfl ?_;by_cases hx:0<=X[k] /\ X[k]<=1000001
  ·refine aJ ?_ ?_
   ·have a1: ¬(X[k] < 0):=by omega
    have a2: ¬(X[k] > 1000001):=by omega
    simp [a1,a2]
   refine h.cj (ae.length+1) (X[k]) (c:= [_]) (by rw [g0];rfl) aB FI.eM q1 q3 q2 rfl rfl (by simp [iv,Value.oneCell']) (by rw [q4];omega) (by omega) fun bR w3 h _ _=>?_;rw [s0] at h;refine⟨X.length - (k+1),by omega,k+1,by rw [aI (by omega) (by omega)];omega,by omega,rfl,?_,?_⟩
   ·rw [alp av];intro y hy
    rcases alg.1 hy with hy | hy
    ·exact bz y hy
    ·simp only [ali] at hy;subst hy;exact hx
   ·rw [alp av];exact h
  ·refine aL ?_ ?_
   ·by_cases a1:X[k] < 0
    ·simp [a1]
    ·have a2:X[k] > 1000001:=by omega
     simp [a1,a2]
   have h:Hp S w0 w2 (ae++ [aj s 2 1 iv X]++ [aj out 3 1 iv (X.take k)]):=by simpa using h
   refine hK _ _ _ w2 [] [] hR' (h.front.front.nil 3 1 iv) Lv (alA _) (by intro x hx;cases hx) (Nat.zero_le _) (fun hh=>by cases hh) (fun _=>?_);unfold qX;rw [hg,if_pos (.inr (fun hh=>hx (hh _ (alz av))))]
 ·refine aJ (by simp;omega) ?_;rw [aln (by omega)] at h bz;refine h.dr fun w3 h=>?_;refine Hp.nU (s:=b) hu yM cE (by omega) (by omega) (by omega) (al4 _) (by omega) fun s2 pM F8 lF=>?_;have Lw:s2.len<=s2.cap:=by rw [F8,lF];omega
  have e1:(bs.take ((b.len:Nat):Int).toNat).drop size.toNat=bs.drop size.toNat:=by rw [ak7,aln (by omega)]
  rw [e1] at pM;have h:Hp S w0 w3 (ae++ [aj s 2 1 iv X]++ [aj out 3 1 iv X]):=by simpa using h
  have h:Hp S w0 w3 (ae++ [aj s 2 1 iv X]++ [aj out 3 1 iv X]):=h;refine hK out s2 _ w3 X (bs.drop size.toNat) hR' h.cZ pM Lw (fun x hx=>hb x (anJ hx)) (by rw [alT];omega) (fun hh=>⟨?_,hX⟩) (fun hh=>?_)
  ·have jK:size > 0:=of_decide_eq_true hh;unfold qX;rw [hg];dsimp only;rw [if_neg];rintro(h | h)
   ·omega
   ·exact h bz
  ·have jK: ¬size > 0:=of_decide_eq_false hh;unfold qX;rw [hg];dsimp only;rw [if_pos (.inl (by omega))]
end
end Go.Proofs.YtcccjgmekakabaaGreat.FW
end

section
namespace Go.Proofs.YtcccjgmekakabaaGreat.FW
open F
open Go Go.Den Go.Proofs
open FI (ai aD)
open FT (az fA bw ct fo cu jV dH iv aB)
def RK (w:World) (O:List Nat) (s:Sl) (xs:List KS):Prop:=(∃o,bO w s 2 df xs o /\ ∀k∈o,k∈O) /\ ∀x∈xs,x.2.1.len<=x.2.1.cap /\ ∃o,bO w x.2.1 1 sv x.2.2 o /\ ∀k∈o,k∈O
def dK (s:Sl) (xs:List KS):aa:=
  { holds:=fun w O=>(∀k∈O,k < w.heap.size) /\ RK w O s xs
    fr:=fun{S w w' O} h hf hn=>⟨fun k hk=>by have:=h.1 k hk;have:=hf.size;omega,by
      obtain⟨_,⟨o,h1,h2⟩,h3⟩:=h;refine⟨⟨o,h1.fr hf (fun k hk=>hn k (h2 k hk)),h2⟩,fun x hx=>?_⟩;obtain⟨q,o,h4,h5⟩:=h3 x hx;exact⟨q,o,h4.fr hf (fun k hk=>hn k (h5 k hk)),h5⟩⟩
    lt:=fun h=>h.1}
def yc (w:World) (s:Sl) (l:KD):Prop:= ∃(xs:List KS) (O:List Nat),kinds xs=l /\ (dK s xs).holds w O
theorem yc.cn {w w':World} {s:Sl} {l:KD} (h:yc w s l) (hf:Fr [] w w'):yc w' s l:=by
 obtain⟨xs,O,h1,h2⟩:=h;exact⟨xs,O,h1,(dK s xs).fr h2 hf (by simp)⟩
theorem yc.len {w:World} {s:Sl} {l:KD} (h:yc w s l):l.length=s.len:=by
 obtain⟨xs,O,rfl,_,⟨o,h1,_⟩,_⟩:=h;have:=h1.1
 simpa [kinds] using this
theorem zP {u:aa} {s:Sl} {xs:List KS} (hu:u.holds=(dK s xs).holds):Hp.Reads u s 2 df xs:=⟨fun{w O} h=>by
 rw [hu] at h;obtain⟨_,⟨o,h1,_⟩,_⟩:=h;exact⟨o,h1⟩⟩
theorem o5 {s:Sl} {xs:List KS}:Hp.Reads (dK s xs) s 2 df xs:=zP rfl
theorem nu {u:aa} {s:Sl} {xs:List KS} (hu:u.holds=(dK s xs).holds) {k:Nat} {x:KS} (hx:xs[k]? =some x):Hp.Reads u x.2.1 1 sv x.2.2:=⟨fun{w O} h=>by
 rw [hu] at h;obtain⟨_,_,h2⟩:=h;obtain⟨_,o,h3,_⟩:=h2 x (ala hx);exact⟨o,h3⟩⟩
theorem zQ {s:Sl} {xs:List KS} {k:Nat} {x:KS} (hx:xs[k]? =some x):Hp.Reads (dK s xs) x.2.1 1 sv x.2.2:=nu rfl hx
section
variable {S:List Nat} {w0 w:World} {ae:List aa}
theorem AT (h:Hp S w0 w ae) (i:Nat) {s:Sl} {xs:List KS} (hi:(ae[i]?).map aa.holds=some (dK s xs).holds): ∀x∈xs,x.2.1.len<=x.2.1.cap /\ x.2.2.length=x.2.1.len:=fun x hx=>by
 obtain⟨O,_,_,h2⟩:=h.de hi;obtain⟨q,o,h3,_⟩:=h2 x hx;exact⟨q,h3.1⟩
set_option maxHeartbeats 2000000 in
theorem YV (h:Hp S w0 w ae) (i:Nat) {s:Sl} {xs:List KS} (hi:(ae[i]?).map aa.holds=some (dK s xs).holds) (hl:xs.length<=1000000000) (dL: ∀x∈xs,x.1.size<=1000000000000 /\ ∀y∈x.2.2,y.size<=1000000000000) {K:Bool->World->Prop}
  (hK: ∀w',Hp S w0 w' ae->K (decide (cY (kinds xs))) w'):c52 s w K:=by
 refine JF ?_;unfold f52;obtain⟨inf,q1,q2,q3,q4⟩:=xy;have fB:=h.dR i hi o5;have ma:=AT h i hi;have hn: ∀{w},Hp S w0 w ae->Hp S w0 w (ae++ [aj ⟨none,0,0⟩ 9 1 sv ([]:List ByteArray)]):=fun h=>h.nil 9 1 sv;refine⟨fun names t m w'=> ∃k:Nat,t=k /\ k<=xs.length /\ m=xs.length - k /\ (∀q,(hq:q < xs.length)->q < k->(xs[q]).2.2.length<=4 /\ bB (xs[q]).2.2) /\ Hp S w0 w' (ae++ [aj names 9 1 sv ((xs.take k).map (·.1))]),⟨xs.length,0,rfl,by omega,rfl,fun q _ h=>by omega,by simpa using hn h⟩,?_⟩;clear h;rintro names t m w2 ⟨k,rfl,hk,rfl,bz,h⟩;have Wa: ∀{r:Nat} {t:aa} {more:List aa},(ae[r]?).map aa.holds=some t.holds->((ae++more)[r]?).map aa.holds=some t.holds:=fun{r t more} hr=>by
  have av:r < ae.length:=by
   rcases anA r ae.length with h | h
   ·exact h
   ·rw [alE h] at hr;cases hr
  rw [ak9 av];exact hr
 by_cases av:k < xs.length
 ·refine aL (by simp;omega) ?_;have hx:xs[k]? =some xs[k]:=by simp [av]
  have Pd:=dL xs[k] (alz av);have dU:xs.take (k+1)=xs.take k++ [xs[k]]:=alp av;have dF:xs[k]∈xs:=alz av;have uU: ∀q,(hq:q < xs.length)->q=k->((xs[k]).2.2.length<=4 /\ bB (xs[k]).2.2)->(xs[q]).2.2.length<=4 /\ bB (xs[q]).2.2:=fun q hq e h=>by subst e;exact h
  have eN:=ma _ dF;generalize xs[k]=x at hx Pd dU dF uU eN;have no: ¬(x.2.2.length<=4 /\ bB x.2.2)-> ¬cY (kinds xs):=fun dz hm=>dz (hm.1 (x.1,x.2.2) (alu.2 ⟨x,dF,rfl⟩));obtain⟨O,hO⟩:=h.de (Wa hi);obtain⟨o,hR⟩:=(o5 (s:=s) (xs:=xs)).rd hO;refine bO.ix bn hR (by omega) (x:=x) (by rw [ak7];exact hx) fun a hc=>?_;refine dG (k:=.s) (x:=x.1) (hc 0 (by omega)) rfl ?_;refine jB (k:=.sl) (x:=x.2.1) (hc 1 (by omega)) rfl ?_;refine h.nw (c:= [_,_]) fun kb w3 h=>?_;have gk: ∀{c:List Value} {t:aa},((ae++ [t])++ [af kb 107 c])[ae.length+1]? =some (af kb 107 c):=fun{c t}=>by rw [ak8 (by simp)];simp
  have sk: ∀{c c':List Value} {t:aa},((ae++ [t])++ [af kb 107 c]).set (ae.length+1) (af kb 107 c')=(ae++ [t])++ [af kb 107 c']:=fun{c c' t}=>by rw [alj _ _ (by simp)];simp
  refine h.gz (ae.length+1) gk (by simp) rfl fun w4 h=>?_;rw [sk] at h;refine h.st (n:=1) (ae.length+1) gk (by simp) rfl fun w5 h=>?_;rw [sk] at h;have h:Hp S w0 w5 ((ae++ [aj names 9 1 sv ((xs.take k).map (·.1))])++ [af kb 107 [.string x.1,.slice x.2.1.a x.2.1.len x.2.1.cap]]):=h;refine⟨fun w'=>(x.2.2.length<=4 /\ bB x.2.2) /\ Hp S w0 w' ((ae++ [aj names 9 1 sv ((xs.take k).map (·.1))])++ [af kb 107 [.string x.1,.slice x.2.1.a x.2.1.len x.2.1.cap]]),?_,?_⟩
  ·refine h.ld (n:=1) (k:=.sl) (x:=x.2.1) (ae.length+1) (by rw [gk];rfl) rfl ?_;by_cases h4:x.2.1.len > 4
   ·refine aL (by simp;omega) ?_;have:=hK _ h.front.front
    rwa [decide_eq_false (no fun hh=>by omega)] at this
   refine aJ (by simp;omega) ?_;refine h.ld (n:=1) (k:=.sl) (x:=x.2.1) (ae.length+1) (by rw [gk];rfl) rfl ?_;refine ni h i (u:=dK s xs) (by rw [ale];exact Wa hi) (zQ hx) (by omega) eN.1 Pd.2 fun w6 h=>?_;by_cases hw:bB x.2.2
   ·exact aJ (by simpa using hw) ⟨⟨by omega,hw⟩,h⟩
   ·refine aL (by simpa using hw) ?_;have:=hK _ h.front.front
    rwa [decide_eq_false (no fun hh=>hw hh.2)] at this
  clear h;rintro w6 ⟨oJ,h⟩;refine h.bE (k:=.s) (x:=x.1) (ae.length+1) (by rw [gk];rfl) rfl ?_;have gn: ∀{t:aa} {more:List aa},((ae++ [t])++more)[ae.length]? =some t:=fun{t more}=>by rw [ale,ak8 (alA _)];simp
  have lL:=h.len (s:=names) (e:=9) (n:=1) (f:=sv) (l:=(xs.take k).map (·.1)) ae.length (by rw [gn];rfl);rw [alr,alv] at lL;refine h.cj (c:= [_]) ae.length x.1 gn cW ql q1 q3 q2 rfl rfl (by simp [sv,Value.oneCell']) (by rw [q4];omega) (by omega) fun oD w7 h _ _=>?_;rw [ale,alj _ _ (alA _),alK] at h;have h:Hp S w0 w7 ((ae++ [aj oD 9 1 sv ((xs.take k).map (·.1)++ [x.1])])++ [af kb 107 [.string x.1,.slice x.2.1.a x.2.1.len x.2.1.cap]]):=by
   rw [ale];exact h
  refine⟨xs.length - (k+1),by omega,k+1,by rw [aI (by omega) (by omega)];omega,by omega,rfl,fun q hq Wb=>?_,?_⟩
  ·by_cases OT:q < k
   ·exact bz q hq OT
   ·exact uU q hq (by omega) oJ
  ·rw [dU,alW];exact h.front
 ·refine aJ (by simp;omega) ?_;rw [aln (by omega)] at h;have cO:(kinds xs).length=xs.length:=by simp [kinds]
  have yF:(kinds xs).map (·.1)=xs.map (·.1):=by simp [kinds]
  have gl:(ae++ [aj names 9 1 sv (xs.map (·.1))])[ae.length]? =some (aj names 9 1 sv (xs.map (·.1))):=by simp
  by_cases h1:1<=xs.length
  ·refine aL (by simp;omega) ?_;by_cases uV:xs.length<=12
   ·refine aL (by simp;omega) ?_;have eN:=h.cap ae.length (s:=names) (e:=9) (n:=1) (f:=sv) (l:=xs.map (·.1)) (by rw [gl];rfl);refine ni h ae.length (u:=aj names 9 1 sv (xs.map (·.1))) (by rw [gl];rfl) Hp.bZ (by simp;omega) eN (fun y hy=>by
     obtain⟨x,hx,rfl⟩:=alu.1 hy;exact(dL x hx).1) fun w3 h=>?_
    have:=hK _ h.front;have e:cY (kinds xs)↔bB (xs.map (·.1)):=by
     constructor
     ·intro hm;rw [<-yF];exact hm.2.2.2
     ·intro hw;refine⟨fun y hy=>?_,by omega,by omega,by rw [yF];exact hw⟩;obtain⟨x,hx,rfl⟩:=alu.1 hy;obtain⟨q,hq,rfl⟩:=amd.1 hx;exact bz q hq (by omega)
    have e2:decide (bB (xs.map (·.1)))=decide (cY (kinds xs)):=by
     by_cases hw:bB (xs.map (·.1))
     ·rw [decide_eq_true hw,decide_eq_true (e.2 hw)]
     ·rw [decide_eq_false hw,decide_eq_false (fun hm=>hw (e.1 hm))]
    rw [e2];exact this
   ·refine aJ (by simp;omega) ?_;have:=hK _ h.front
    rwa [decide_eq_false (fun hm=>uV (by have:=hm.2.2.1;omega))] at this
  ·refine aJ (by simp;omega) ?_;have:=hK _ h.front
   rwa [decide_eq_false (fun hm=>h1 (by have:=hm.2.1;omega))] at this
theorem Ly (h:Hp S w0 w ae) (i:Nat) {u:aa} {s:Sl} {xs:List KS} (hi:ae[i]? =some u) (hu:Hp.Reads u s 2 df xs) (hl:xs.length<=1000000) {K:Sl->World->Prop} (hK: ∀r w',Hp S w0 w' (ae++ [aj r 107 2 df xs])->K r w'):Nb s w K:=by
 refine FD ?_;unfold f110;obtain⟨inf,q1,q2,q3,q4⟩:=zv;have av:=(ak6.1 hi).1;have fB:=h.dR i (by rw [hi];rfl) hu;by_cases hn:s.a.isNone=true
 ·refine aL hn (hK _ _ ?_);have:xs= []:=by
   obtain⟨O,hO⟩:=h.kY hi;obtain⟨o,hR⟩:=hu.rd hO;exact hR.isNil (by simpa using hn)
  rw [this];exact h.nil 107 2 df
 ·refine aJ hn ?_;refine h.nw (c:= []) fun b w1 h=>?_;have h:=h.nI (i:=ae.length) (m:=0) (l:=([]:List KS)) (f:=df) (n:=2) alw rfl rfl bn;rw [cM] at h;refine h.gq ae.length i (s:=⟨some ⟨b,0,none⟩,0,0⟩) (s2:=s) alw (by rw [ak9 av];exact hi) hu bn eM q1 q3 q2 rfl (by simp [df,Value.oneCell']) (by rw [q4];show (0+s.len)*40<=_;omega) (by show 0+s.len<=_;omega) fun r w2 h _ _=>?_;rw [cM] at h;exact hK r w2 h
theorem Lz (h:Hp S w0 w ae) (i:Nat) {s:Sl} {xs:List KS} {u:aa} (hi:ae[i]? =some u) (hu:u.holds=(dK s xs).holds) (hl:xs.length<=1000) (hlf: ∀x∈xs,x.2.2.length<=1000) {K:Sl->World->Prop}
  (hK: ∀r ys w',kinds ys=kinds xs->Hp S w0 w' (ae++ [aj r 107 2 df ys,ak (ys.map tF)])->K r w'):V2 s w K:=by
 refine JH ?_;unfold f54;have gQ:=(ak6.1 hi).1;refine Ly h i hi (zP hu) (by omega) fun r w1 h=>?_;have h:=h.grow (Fr.refl _ _) (t:=ak (([]:List KS).map tF)) (O:= []) rfl (by simp) rfl;have eT:=h.len (s:=r) (e:=107) (n:=2) (f:=df) (l:=xs) ae.length (by simp);refine⟨fun t m w'=> ∃(k:Nat) (ys:List KS),t=k /\ k<=xs.length /\ m=xs.length - k /\ ys.length=k /\ kinds ys=(kinds xs).take k /\ Hp S w0 w' (ae++ [aj r 107 2 df (ys++xs.drop k),ak (ys.map tF)]),⟨xs.length,0,[],rfl,by omega,rfl,rfl,by simp [kinds],by simpa using h⟩,?_⟩;clear h;rintro t m w2 ⟨k,ys,rfl,hk,rfl,vA,yO,h⟩;have g0: ∀{a b:aa} {more:List aa},(ae++ [a,b]++more)[ae.length]? =some a:=fun{a b more}=>by rw [ale,ak8 (alA _)];simp
 have g0': ∀{a b:aa},(ae++ [a,b])[ae.length]? =some a:=fun{a b}=>by rw [ak8 (alA _)];simp
 have g1: ∀{a b c:aa},(ae++ [a,b]++ [c])[ae.length+1]? =some b:=fun{a b c}=>by rw [ale,ak8 (by omega)];simp
 have g2: ∀{a b c:aa},(ae++ [a,b]++ [c])[ae.length+2]? =some c:=fun{a b c}=>by rw [ale,ak8 (by omega)];simp
 by_cases av:k < xs.length
 ·refine aL (by simp;omega) ?_;have hx:xs[k]? =some xs[k]:=by simp [av]
  have ed:xs.drop k=xs[k] :: xs.drop (k+1):=al0 av;have hlx:=hlf xs[k] (alz av);have uX:(kinds xs).take (k+1)=(kinds xs).take k++ [(xs[k].1,xs[k].2.2)]:=by
   rw [alp (by simpa [kinds] using av)];simp [kinds]
  generalize xs[k]=x at hx ed hlx uX;have QK:(ys++xs.drop k)[((k:Nat):Int).toNat]? =some x:=by rw [ak7,ed,ak8 (by omega),vA,alK];rfl
  refine h.rf ae.length (by rw [g0'];rfl) (by omega) QK bn fun a hc=>?_;refine jB (k:=.sl) (x:=x.2.1) (hc 1 (by omega)) rfl ?_;refine uW h i (u:=u) (by rw [ak9 gQ];exact hi) (nu hu hx) (by omega) fun fs w3 h=>?_;refine h.zt ae.length (y:=x) (y':=(x.1,fs,x.2.2)) (m:=1) g0 (by omega) QK bn (by omega) rfl rfl fun w4 h=>?_;have e1:(ys++xs.drop k).set ((k:Nat):Int).toNat (x.1,fs,x.2.2)=ys++ [(x.1,fs,x.2.2)]++xs.drop (k+1):=by
   rw [ak7,ed,alj _ _ (by omega),vA,alK,alq];simp
  rw [e1,ale ae,alj _ _ (alA _),alK] at h;have h:Hp S w0 w4 (ae++ [aj r 107 2 df (ys++ [(x.1,fs,x.2.2)]++xs.drop (k+1)),ak (ys.map tF)]++ [tF (x.1,fs,x.2.2)]):=by rw [ale];exact h
  have h:=zw h (i:=ae.length+1) (j:=ae.length+2) (by omega) g1 g2;have e2:((ae++ [aj r 107 2 df (ys++ [(x.1,fs,x.2.2)]++xs.drop (k+1)),ak (ys.map tF)]++ [tF (x.1,fs,x.2.2)]).set (ae.length+1) (ak ((ys++ [(x.1,fs,x.2.2)]).map tF))).set (ae.length+2) ao=ae++ [aj r 107 2 df (ys++ [(x.1,fs,x.2.2)]++xs.drop (k+1)),ak ((ys++ [(x.1,fs,x.2.2)]).map tF)]++ [ao]:=by
   rw [ale,alj _ _ (by omega),alj _ _ (by omega)];simp
  rw [e2] at h;refine⟨xs.length - (k+1),by omega,k+1,ys++ [(x.1,fs,x.2.2)],by rw [aI (by omega) (by omega)];omega,by omega,rfl,by simp [vA],?_,h.front⟩;rw [uX,<-yO];simp [kinds]
 ·refine aJ (by simp;omega) ?_;rw [amb (by omega),alh] at h;refine hK r ys _ ?_ h;rw [yO,aln (by simp [kinds];omega)]
theorem YW (h:Hp S w0 w ae) (i:Nat) {s:Sl} {xs:List KS} {u:aa} (hi:ae[i]? =some u) (hu:u.holds=(dK s xs).holds) (hl:xs.length<=10000000) (dL: ∀x∈xs,x.1.size<=1000000000000 /\ ∀y∈x.2.2,y.size<=1000000000000) {K:Option Addr->Int->World->Prop}
  (aT:cY (kinds xs)-> ∀b w',Hp S w0 w' (ae++ [kD b ⟨kinds xs,⟨200,[],[],[]⟩,fun _=>none,[]⟩])->K (some ⟨b,0,none⟩) 0 w') (dz: ¬cY (kinds xs)-> ∀w',Hp S w0 w' ae->K none 65 w'):Qt s w K:=by
 refine Jn ?_;unfold f13;refine YV h i (by rw [hi];exact congrArg some hu) (by omega) dL fun w1 h=>?_;by_cases hm:cY (kinds xs)
 ·rw [decide_eq_true hm];refine aJ (by simp) ?_;have jD:=(ak6.1 hi).1;have h4: ∀x∈xs,x.2.2.length<=4:=fun x hx=>(hm.1 (x.1,x.2.2) (alu.2 ⟨x,hx,rfl⟩)).1;have uV:xs.length<=12:=by have:=hm.2.2.1;simpa [kinds] using this
  refine FI.QS h (n:=200) (by omega) (by omega) fun pb w2 h=>?_;refine aJ (by simp) ?_;refine Lz h i (by rw [ak9 jD];exact hi) hu (by omega) (fun x hx=>by have:=h4 x hx;omega) fun r ys w3 sJ h=>?_;refine h.zj fun ms w4 h=>?_;refine h.zj fun mt w5 h=>?_;refine h.nw (c:= [_,_,_,_]) fun b w6 h=>?_;have h:=h.grow (Fr.refl _ _) (t:=ak (([]:List TT).map tT)) (O:= []) rfl (by simp) rfl;simp only [ale,alI,alO] at h;have dq: ∀{l:List aa} (k:Nat),(ae++l)[ae.length+k]? =l[k]? :=fun{l} k=>by rw [ak8 (by omega)];simp
  have gE: ∀{l:List aa} (k:Nat) (t:aa),(ae++l).set (ae.length+k) t=ae++l.set k t:=fun{l} k t=>by rw [alj _ _ (by omega)];simp
  have h:=h.zn (i:=ae.length+3) ct (Value.int .i64) (by rw [dq];rfl);rw [gE] at h;have h:=h.zn (i:=ae.length+4) (Value.int .i64) pv (by rw [dq];rfl);rw [gE] at h;simp only [alq,alG] at h;have et:(fun _=>none:Int->Option Nat)=cz []:=rfl;rw [et] at h;have q:WH.fits ⟨kinds xs,⟨200,[],[],[]⟩,fun _=>none,[]⟩ ⟨r,ys,pb,ms,mt,[]⟩:=⟨sJ,rfl⟩;have h:=h.aV (i:=ae.length+4) (j:=ae.length+6) (by omega) (by rw [dq];rfl) (by rw [dq];rfl) rfl (aM _);rw [gE,gE] at h;simp only [alq,alG] at h;have h:=h.aV (i:=ae.length+3) (j:=ae.length+4) (by omega) (by rw [dq];rfl) (by rw [dq];rfl) rfl rfl;rw [gE,gE] at h;simp only [alq,alG] at h;have h:=h.aV (i:=ae.length+0) (j:=ae.length+3) (by omega) (by rw [dq];rfl) (by rw [dq];rfl) rfl rfl;rw [gE,gE] at h;simp only [alq,alG] at h;have h:=h.aV (i:=ae.length+2) (j:=ae.length+0) (by omega) (by rw [dq];rfl) (by rw [dq];rfl) (aM _) rfl;rw [gE,gE] at h;simp only [alq,alG] at h;have h:=h.aV (i:=ae.length+1) (j:=ae.length+2) (by omega) (by rw [dq];rfl) (by rw [dq];rfl) rfl rfl;rw [gE,gE] at h;simp only [alq,alG] at h;have h:=h.aV (i:=ae.length+5) (j:=ae.length+1) (by omega) (by rw [dq];rfl) (by rw [dq];rfl) rfl rfl;rw [gE,gE] at h;simp only [alq,alG] at h;have h:=h.kq (i:=ae.length+5) q (by rw [dq];rfl) rfl;rw [gE] at h;simp only [alq,alG] at h;have h:=h.nH (f:=fun q:WH=>kZ (q.fits ⟨kinds xs,⟨200,[],[],[]⟩,fun _=>none,[]⟩) (bo (q.ra b) (bo (aj q.sk 107 2 df q.xs) (bo (ak (q.xs.map tF)) (bo (aD 149 q.pb ⟨200,[],[],[]⟩) (bo (dW q.ms ct (Value.int .i64) (fun _=>none)) (bo (dW q.mt (Value.int .i64) pv (cz q.T)) (ak (q.T.map tT))))))))) (i:=ae.length+5) ⟨r,ys,pb,ms,mt,[]⟩ (by rw [dq];rfl) rfl;rw [gE] at h;simp only [alq,alG] at h;have h:Hp S w0 w6 (ae++ [ao,ao,ao,ao,ao]++ [kD b ⟨kinds xs,⟨200,[],[],[]⟩,fun _=>none,[]⟩]++ [ao]):=by
   simp only [ale,alI,alO];exact h
  exact aT hm b _ h.front.rY
 ·rw [decide_eq_false hm];exact aL rfl (dz hm _ h)
theorem Rf (h:Hp S w0 w ae) {s:Sl} {l:KD} (hr:yc w s l) (hl:l.length<=10000000) (dL: ∀x∈l,x.1.size<=1000000000000 /\ ∀y∈x.2,y.size<=1000000000000) {K:Option Addr->Int->World->Prop}
  (aT:cY l-> ∀b w',Hp S w0 w' (ae++ [tW b (WA.new l)])->K (some ⟨b,0,none⟩) 0 w') (dz: ¬cY l-> ∀w',Hp S w0 w' ae->K none 65 w'):Qt s w K:=by
 obtain⟨xs,O,rfl,hO⟩:=hr;have h1:Hp [] w w [(dK s xs).ro]:=(Hp.init w).dC hO (by simp);refine YW h1 0 rfl rfl (by simpa [kinds] using hl) (fun x hx=>?_) (fun hm b w' h1=>?_) (fun hm w' h1=>dz hm w' (h.cn h1.1))
 ·exact dL (x.1,x.2.2) (alu.2 ⟨x,hx,rfl⟩)
 ·refine aT hm b w' ?_;have h1:=h1.kq (i:=1) (p:=(WA.new (kinds xs)).Ok /\ dS (kinds xs) (fun _=>none) (WA.new (kinds xs)).m.aE []) ⟨WA.EV hm,dS.new (kinds xs)⟩ rfl rfl;have h1:=h1.nH (i:=1) (f:=fun T:List (Int×az)=>kZ ((WA.new (kinds xs)).Ok /\ dS (WA.new (kinds xs)).ks (WA.new (kinds xs)).row (WA.new (kinds xs)).m.aE T) (kD b ⟨(WA.new (kinds xs)).ks,(WA.new (kinds xs)).ar,(WA.new (kinds xs)).m.aE,T⟩)) [] rfl rfl;have h1:Hp [] w w' [(dK s xs).ro,tW b (WA.new (kinds xs))]:=h1;exact h.r0 (rest:= [tW b (WA.new (kinds xs))]) rfl (h1.ic [1] (by decide) rfl)
end
abbrev LM:=Sl×Int
abbrev mz (x:LM):List Value:= [.slice x.1.a x.1.len x.1.cap]
abbrev nx (x:LM):List Value:= [.int .i64 x.2]
theorem gS (x:LM):(mz x).length=1:=rfl
theorem fj (x:LM):(nx x).length=1:=rfl
abbrev g1 (m:Int):List Value:= [.int .i64 m,.slice none 0 0]
abbrev g2 (m:Int):List Value:= [.int .i64 m,.int .i64 0,.slice none 0 0]
theorem E1 (x:Int):(g1 x).length=2:=rfl
theorem E2 (x:Int):(g2 x).length=3:=rfl
theorem Rg:Tryz.prog.underlying 46=some (.slice 34):=by kernel_rfl
theorem Rh:Tryz.prog.underlying 47=some (.slice 37):=by kernel_rfl
theorem Ri:Tryz.prog.underlying 48=some (.slice 71):=by kernel_rfl
theorem LA:Tryz.prog.underlying 34=some (.slice 2):=by kernel_rfl
theorem Gl:Tryz.prog.underlying 49=some (.slice 3):=by kernel_rfl
theorem CK: ∃inf:TypeInfo,Tryz.prog.info? 34=some inf /\ inf.zero=some (.slice none 0 0) /\ inf.size=1 /\ inf.bytes=24:=fU (by kernel_rfl)
theorem Rj: ∃inf:TypeInfo,Tryz.prog.info? 37=some inf /\ inf.zero=some (.slice none 0 0) /\ inf.size=1 /\ inf.bytes=24:=fU (by kernel_rfl)
theorem Rk: ∃inf:TypeInfo,Tryz.prog.info? 71=some inf /\ inf.zero=some (.slice none 0 0) /\ inf.size=1 /\ inf.bytes=24:=fU (by kernel_rfl)
theorem ku: ∃inf:TypeInfo,Tryz.prog.info? 2=some inf /\ inf.zero=some (.int .i64 0) /\ inf.size=1 /\ inf.bytes=8:=fU (by kernel_rfl)
def Gm (n:Nat) (g:Int->List Value) (w:World) (O:List Nat) (x:LM):Prop:= ∃O1,bO w x.1 n g (List.replicate x.1.len x.2) O1 /\ ∀k∈O1,k∈O
theorem Gm.mono {n:Nat} {g:Int->List Value} {w:World} {O O':List Nat} {x:LM} (h:Gm n g w O x) (ho: ∀k∈O,k∈O'):Gm n g w O' x:=by
 obtain⟨O1,h3,h4⟩:=h;exact⟨O1,h3,fun k hk=>ho k (h4 k hk)⟩
def eO (n:Nat) (g:Int->List Value) (es:List LM):aa:=
  { holds:=fun w O=>(∀k∈O,k < w.heap.size) /\ ∀x∈es,Gm n g w O x
    fr:=fun{S w w' O} h hf hn=>⟨fun k hk=>by have:=h.1 k hk;have:=hf.size;omega,fun x hx=>by
      obtain⟨O1,h3,h4⟩:=h.2 x hx;exact⟨O1,h3.fr hf (fun k hk=>hn k (h4 k hk)),h4⟩⟩
    lt:=fun h=>h.1}
def pend (e:TypeId) (n:Nat) (g:Int->List Value) (x:LM):aa:=aj x.1 e n g (List.replicate x.1.len x.2)
structure Sh where
 v:Sl
 x:Sl
 cR:List LM
 new:List LM
def o6 (et em e:TypeId) (n:Nat) (g:Int->List Value) (q:Sh):aa:=
 bo (aj q.v et 1 mz (q.cR++q.new)) (bo (aj q.x em 1 nx (q.cR++q.new)) (bo (eO n g q.cR) (ak (q.new.map (pend e n g)))))
def Sh.fits (q:Sh) (N M:Nat):Prop:=q.cR.length<=N /\ q.new.length<=M /\ (∀x∈q.cR,x.1.len<=20000) /\ ∀x∈q.new,x.1.len<=10000
abbrev gh:=o6 34 2 2 1 iv
abbrev fM:=o6 37 3 36 2 g1
abbrev fN:=o6 71 3 75 3 g2
structure PC where
 a:Value
 b:Value
 k:Value
 g:Value
 o:Value
 s:Value
structure BK where
 V:Sh
 P:Sh
 R:Sh
abbrev BK.cells (q:BK) (p:PC):List Value:= [p.a,p.b,p.k,p.g,p.o,p.s,.slice q.V.v.a q.V.v.len q.V.v.cap,.slice q.P.v.a q.P.v.len q.P.v.cap,.slice q.R.v.a q.R.v.len q.R.v.cap,
 .slice q.V.x.a q.V.x.len q.V.x.cap,.slice q.P.x.a q.P.x.len q.P.x.cap,.slice q.R.x.a q.R.x.len q.R.x.cap,.int .i64 (q.V.cR.length:Nat),.int .i64 (q.P.cR.length:Nat),.int .i64 (q.R.cR.length:Nat)]
def BK.fits (q:BK) (N M:Nat):Prop:=q.V.fits N M /\ q.P.fits N M /\ q.R.fits N M
def bj (bp:Nat) (p:PC) (N M:Nat):aa:=Mx fun q:BK=>kZ (q.fits N M) (bo (af bp 53 (q.cells p)) (bo (gh q.V) (bo (fM q.P) (fN q.R))))
theorem Sh.fits.mono {q:Sh} {N M N' M':Nat} (h:q.fits N M) (hn:N<=N') (hm:M<=M'):q.fits N' M':=⟨by have:=h.1;omega,by have:=h.2.1;omega,h.2.2⟩
section
variable {S:List Nat} {w0 w:World} {ae:List aa}
theorem mA {X:Type} {sub:X->aa} (h:Hp S w0 w ae) {i j:Nat} (aW:i≠j) {ys:List X} {y:X} (ho:(sub y).own=true) (hi:ae[i]? =some (ak (ys.map sub))) (hj:ae[j]? =some (sub y)):Hp S w0 w ((ae.set i (ak ((ys++ [y]).map sub))).set j ao):=
 h.join (c:=ak ((ys++ [y]).map sub)) aW hi hj (aM _) ho (aM _) (fun w O1 O2 g1 g2 g3=>by
  rw [alW];exact fX g1 (us:= [sub y]) (O2:=O2) ⟨O2,[],g2,rfl,by simp,by simp⟩ g3)
theorem E3 {α β:Type} {s:Sl} {e:TypeId} {n:Nat} {f:α->List Value} {g:β->List Value} {l:List α} {l':List β} (h:Hp S w0 w ae) {i:Nat} (hi:ae[i]? =some (aj s e n f l)) (hl:l.length=l'.length) (hf:l.flatMap f=l'.flatMap g):
  Hp S w0 w (ae.set i (aj s e n g l')):=
 h.rP hi rfl (fun w O hO=>by
  have hO:cq w s e n f l O:=hO;show cq w s e n g l' O;unfold cq at hO ⊢;rw [<-hl,<-hf];exact hO) rfl
theorem gi {et em e:TypeId} {n:Nat} {g:Int->List Value} {q:Sh} (h:Hp S w0 w ae) {i:Nat} (hi:ae[i]? =some (o6 et em e n g q)):
  Hp S w0 w (ae.set i (aj q.v et 1 mz (q.cR++q.new))++ [aj q.x em 1 nx (q.cR++q.new),eO n g q.cR,ak (q.new.map (pend e n g))]):=by
 have hl:=(ak6.1 hi).1;have e1: ∀(l:List aa) (t:aa),(l++ [t])[l.length]? =some t:=fun l t=>by simp
 have h:=h.split hi rfl rfl;have h:=h.split (e1 _ _) rfl rfl;rw [alj _ _ (alA _),alK,alq] at h;have h:=h.split (e1 _ _) rfl (aM _);rw [alj _ _ (alA _),alK,alq] at h
 simpa using h
theorem hJ {et em e:TypeId} {n:Nat} {g:Int->List Value} (q:Sh) {rest:List aa}
  (h:Hp S w0 w (aj q.v et 1 mz (q.cR++q.new) :: aj q.x em 1 nx (q.cR++q.new) :: eO n g q.cR :: ak (q.new.map (pend e n g)) :: rest)):Hp S w0 w (o6 et em e n g q :: rest):=by
 have h:=h.aV (i:=2) (j:=3) (by omega) rfl rfl rfl (aM _);have h:=h.aV (i:=1) (j:=2) (by omega) rfl rfl rfl rfl;have h:=h.aV (i:=0) (j:=1) (by omega) rfl rfl rfl rfl;have h:Hp S w0 w (o6 et em e n g q :: ao :: ao :: ao :: rest):=h;exact h.fY.fY.fY
theorem jZ (h:Hp S w0 w ae) {i bp:Nat} {p:PC} {N M:Nat} (hi:ae[i]? =some (bj bp p N M)):
  ∃q:BK,q.fits N M /\ Hp S w0 w (ae.set i (af bp 53 (q.cells p))++ [gh q.V,fM q.P,fN q.R]):=by
 have hl:=(ak6.1 hi).1;have e1: ∀(l:List aa) (t:aa),(l++ [t])[l.length]? =some t:=fun l t=>by simp
 obtain⟨q,h⟩:=h.nf hi (fun _=>rfl);obtain⟨hq,h⟩:=h.lp (i:=i) (by rw [alx hl]) rfl;rw [al2] at h;have h:=h.split (i:=i) (by rw [alx hl]) rfl rfl;rw [al2] at h;have h:=h.split (e1 _ _) rfl rfl;rw [alj _ _ (alA _),alK,alq] at h;have h:=h.split (e1 _ _) rfl rfl;rw [alj _ _ (alA _),alK,alq] at h;exact⟨q,hq,by simpa using h⟩
theorem ny {bp:Nat} {p:PC} {N M:Nat} (q:BK) (hq:q.fits N M) {rest:List aa}
  (h:Hp S w0 w (af bp 53 (q.cells p) :: gh q.V :: fM q.P :: fN q.R :: rest)):Hp S w0 w (bj bp p N M :: rest):=by
 have h:=h.aV (i:=2) (j:=3) (by omega) rfl rfl rfl rfl;have h:=h.aV (i:=1) (j:=2) (by omega) rfl rfl rfl rfl;have h:=h.aV (i:=0) (j:=1) (by omega) rfl rfl rfl rfl;have h:=h.kq (i:=0) hq rfl rfl;have h:=h.nH (f:=fun q:BK=>kZ (q.fits N M) (bo (af bp 53 (q.cells p)) (bo (gh q.V) (bo (fM q.P) (fN q.R))))) (i:=0) q rfl rfl;have h:Hp S w0 w (bj bp p N M :: ao :: ao :: ao :: rest):=h;exact h.fY.fY.fY
theorem CL {n:Int} {K:Int->World->Prop} (hK: ∀r:Nat,r<=70->K r w):M9 n w K:=by
 refine NW ?_;unfold f108;by_cases h:n < 4
 ·exact aL (by simp [h]) (hK 70 (by omega))
 ·exact aJ (by simp [h]) (hK 9 (by omega))
theorem AU {α:Type} {l:List α} {m:α} {k:Nat} (hk:k < l.length) (ht:l.take k=List.replicate k m):(l.set k m).take (k+1)=List.replicate (k+1) m:=by
 rw [List.take_set,amH,ht,alf hk,anH];simp
theorem AV {α:Type} {l:List α} {m:α} {k:Nat} (hk:l.length<=k) (ht:l.take k=List.replicate k m) (MV:k<=l.length):l=List.replicate l.length m:=by
 rw [aln hk] at ht;have:k=l.length:=by omega
 rw [this] at ht;exact ht
set_option maxHeartbeats 4000000 in
theorem o8 (h:Hp S w0 w ae) (i j:Nat) (iZ:i≠j) {bp:Nat} {p:PC} {N M:Nat} {l:Sl} {xs:List Int} (hi:ae[i]? =some (bj bp p N M)) (hj:ae[j]? =some (aj l 2 1 iv xs)) (hN:N+M<=1000000000) (hl:xs.length<=10000)
  {K:World->Prop} (hK: ∀w',Hp S w0 w' ((ae.set i (bj bp p N (M+1))).set j ao)->K w'):Xa (some ⟨bp,6,none⟩) l w K:=by
 refine Up ?_;unfold f93;obtain⟨ku,i1,i2,i3,i4⟩:=ku;obtain⟨CK,j1,j2,j3,j4⟩:=CK;obtain⟨O,h1,back⟩:=h.f2 iZ hi hj rfl rfl;clear h;have h:=h1;clear h1;obtain⟨⟨⟨v,x,cR,new⟩,P,R⟩,hq,h⟩:=jZ h (i:=0) rfl;have h:=gi h (i:=2) rfl;have h:Hp O w w [af bp 53 (BK.cells ⟨⟨v,x,cR,new⟩,P,R⟩ p),aj l 2 1 iv xs,aj v 34 1 mz (cR++new),fM P,fN R,aj x 2 1 nx (cR++new),eO 1 iv cR,ak (new.map (pend 2 1 iv))]:=h;have gJ:=h.len (s:=v) 2 rfl;have ja:=h.len (s:=x) 5 rfl;have p5:=h.len (s:=l) 1 rfl;have hlen:(cR++new).length<=N+M:=by have:=hq.1.1;have:=hq.1.2.1;rw [alb];dsimp only at*;omega
 refine aS ?_;refine h.JY (k:=.sl) (x:=v) 0 rfl rfl ?_;generalize i64.wrap (1000000+(v.len:Int))=m;refine⟨fun t mm w'=> ∃(k:Nat) (ys:List Int),t=k /\ k<=xs.length /\ mm=xs.length - k /\ ys.length=xs.length /\ ys.take k=List.replicate k m /\ Hp O w w' [af bp 53 (BK.cells ⟨⟨v,x,cR,new⟩,P,R⟩ p),aj l 2 1 iv ys,aj v 34 1 mz (cR++new),fM P,fN R,aj x 2 1 nx (cR++new),eO 1 iv cR,ak (new.map (pend 2 1 iv))],⟨xs.length,0,xs,rfl,by omega,rfl,rfl,by simp,h⟩,?_⟩;clear h;rintro t mm w2 ⟨k,ys,rfl,hk,rfl,vA,MI,h⟩;by_cases av:k < xs.length
 ·refine aL (by simp;omega) ?_;refine h.mW (y:=m) 1 rfl (by omega) (by rw [ak7];omega) aB rfl rfl fun w3 h=>?_;rw [ak7] at h;exact⟨xs.length - (k+1),by omega,k+1,ys.set k m,by rw [aI (by omega) (by omega)];omega,by omega,rfl,by simpa using vA,AU (by omega) MI,h⟩
 ·refine aJ (by simp;omega) ?_;have sJ:ys=List.replicate l.len m:=by
   have:=AV (k:=k) (by omega) MI (by omega);rw [vA,p5] at this;exact this
  subst sJ;refine aS ?_;refine h.JY (k:=.sl) (x:=v) 0 rfl rfl ?_;refine h.cj 2 ((l,m):LM) (c:= [_]) rfl gS Rg j1 j3 j2 rfl rfl (by simp [Value.oneCell']) (by rw [j4];omega) (by omega) fun s w3 h hs _=>?_;refine aS ?_;refine h.UD 0 rfl (by simp) rfl fun w4 h=>?_;refine aS ?_;refine h.pI (n:=6) (m:=3) (k:=.sl) (x:=x) 0 rfl rfl ?_;refine h.cj 5 ((l,m):LM) (c:= [_]) rfl fj LA i1 i3 i2 rfl rfl (by simp [Value.oneCell']) (by rw [i4];omega) (by omega) fun s2 w5 h pM _=>?_;refine aS ?_;refine h.Dg (m:=3) 0 rfl (by simp) rfl fun w6 h=>?_;have h:=mA h (i:=7) (j:=1) (sub:=pend 2 1 iv) (ys:=new) (y:=(l,m)) (by decide) rfl rfl rfl;rw [ale] at h;have h:Hp O w w6 [af bp 53 (BK.cells ⟨⟨s,s2,cR,new++ [(l,m)]⟩,P,R⟩ p),ao,aj s 34 1 mz (cR++(new++ [(l,m)])),fM P,fN R,aj s2 2 1 nx (cR++(new++ [(l,m)])),eO 1 iv cR,ak ((new++ [(l,m)]).map (pend 2 1 iv))]:=h;have h:Hp O w w6 [aj s 34 1 mz (cR++(new++ [(l,m)])),aj s2 2 1 nx (cR++(new++ [(l,m)])),eO 1 iv cR,ak ((new++ [(l,m)]).map (pend 2 1 iv)),af bp 53 (BK.cells ⟨⟨s,s2,cR,new++ [(l,m)]⟩,P,R⟩ p),fM P,fN R,ao]:=h.ic [2,5,6,7,0,3,4,1] (by decide) rfl;have h:=hJ ⟨s,s2,cR,new++ [(l,m)]⟩ h;have h:Hp O w w6 [af bp 53 (BK.cells ⟨⟨s,s2,cR,new++ [(l,m)]⟩,P,R⟩ p),gh ⟨s,s2,cR,new++ [(l,m)]⟩,fM P,fN R,ao]:=h.ic [1,0,2,3,4] (by decide) rfl;have h:=ny (N:=N) (M:=M+1) ⟨⟨s,s2,cR,new++ [(l,m)]⟩,P,R⟩ ⟨⟨hq.1.1,by have:=hq.1.2.1;dsimp only at this;simp only [alb,alQ,amF];omega,hq.1.2.2.1,fun y hy=>by
   rcases alg.1 hy with hy | hy
   ·exact hq.1.2.2.2 y hy
   ·simp only [ali] at hy;subst hy;show l.len<=10000;omega⟩,hq.2.1.mono (alA _) (by omega),hq.2.2.mono (alA _) (by omega)⟩ h
  have:=back (rest:= []) rfl rfl rfl h;rw [alh] at this;exact hK w6 this
theorem mB (h:Hp S w0 w ae) {i bp:Nat} {p:PC} {N M N' M':Nat} (hi:ae[i]? =some (bj bp p N M)) (hn:N<=N') (hm:M<=M'):Hp S w0 w (ae.set i (bj bp p N' M')):=
 h.rP hi rfl (fun w O ⟨q,hq,hO⟩=>⟨q,⟨hq.1.mono hn hm,hq.2.1.mono hn hm,hq.2.2.mono hn hm⟩,hO⟩) rfl
set_option maxHeartbeats 4000000 in
theorem qY (h:Hp S w0 w ae) (i j:Nat) (iZ:i≠j) {bp:Nat} {p:PC} {N M:Nat} {l:Sl} {ps:List Part} (hi:ae[i]? =some (bj bp p N M)) (hj:ae[j]? =some (aN l ps)) (hN:N+M+1*ps.length<=1000000000) (hl:ps.length<=10000) (hv: ∀x∈ps,x.2.length<=10000)
  {K:World->Prop} (hK: ∀w',Hp S w0 w' ((ae.set i (bj bp p N (M+1*ps.length+1))).set j ao)->K w'):Xb (some ⟨bp,6,none⟩) l w K:=by
 refine Uq ?_;unfold f94;obtain⟨ku,i1,i2,i3,i4⟩:=FT.nW;obtain⟨CK,j1,j2,j3,j4⟩:=Rj;obtain⟨O,h1,back⟩:=h.f2 iZ hi hj rfl rfl;clear h;have h:=h1;clear h1;obtain⟨xs,fx,h⟩:=h.du (i:=1) rfl;have h:Hp O w w [bj bp p N M,aj l 36 2 ck xs,ak (xs.map tV)]:=h;have p5:=h.len (s:=l) 1 rfl;have si:ps.length=xs.length:=by rw [<-fx,alr]
 obtain⟨q,hq,h2⟩:=jZ h (i:=0) rfl;have h2:Hp O w w [af bp 53 (q.cells p),aj l 36 2 ck xs,ak (xs.map tV),gh q.V,fM q.P,fN q.R]:=h2;refine aS ?_;refine h2.pI (n:=6) (m:=1) (k:=.sl) (x:=q.P.v) 0 rfl rfl ?_;have hlen:(q.P.cR++q.P.new).length<=N+M:=by have:=hq.2.1.1;have:=hq.2.1.2.1;rw [alb];omega
 have h3:=gi h2 (i:=4) rfl;have qR:(q.P.v.len:Int)<=1000000000:=by have:=h3.len (s:=q.P.v) (f:=mz) (e:=37) (n:=1) (l:=q.P.cR++q.P.new) 4 rfl;omega
 generalize q.P.v.len=pl at qR;clear h3 hlen;generalize i64.wrap (1000000+(pl:Int))=m;refine⟨fun t mm w'=> ∃(k:Nat) (ys:List PV) (ts:List aa),t=k /\ k<=xs.length /\ mm=xs.length - k /\ ys.length=xs.length /\ ys.take k=List.replicate k ((m,⟨none,0,0⟩,[]):PV) /\ ys.drop k=xs.drop k /\ ts.drop k=(xs.map tV).drop k /\ Hp O w w' [bj bp p N (M+1*k),aj l 36 2 ck ys,ak ts],
  ⟨xs.length,0,xs,xs.map tV,rfl,by omega,rfl,rfl,by simp,rfl,rfl,h⟩,?_⟩
 clear h;rintro t mm w2 ⟨k,ys,ts,rfl,hk,rfl,vA,MI,YX,Iu,h⟩;by_cases av:k < xs.length
 ·refine aL (by simp;omega) ?_;have hy:ys[k]? =some xs[k]:=by
   have e:=congrArg (fun L=>L[0]?) YX
   simpa [av] using e
  have ht:ts[k]? =some (tV xs[k]):=by
   have e:=congrArg (fun L=>L[0]?) Iu
   simpa [av] using e
  have fI:bq xs[k]∈ps:=by rw [<-fx];exact am2 (alz av)
  have Rl:=hv _ fI;generalize xs[k]=x at hy ht Rl;refine h.rf (s:=l) (l:=ys) (f:=ck) (n:=2) (e:=36) 1 rfl (by omega) (by rw [ak7];exact hy) aR fun ad hc=>?_;refine jB (k:=.sl) (x:=x.2.1) (hc 1 (by omega)) rfl ?_;have h:=h.pick (i:=2) (k:=k) rfl ht rfl;have h:Hp O w w2 [bj bp p N (M+1*k),aj l 36 2 ck ys,ak (ts.set k ao),aj x.2.1 2 1 iv x.2.2]:=h;refine o8 h 0 3 (by decide) (l:=x.2.1) rfl rfl (by omega) Rl fun w3 h=>?_;have h:Hp O w w3 [bj bp p N (M+1*k+1),aj l 36 2 ck ys,ak (ts.set k ao),ao]:=h;refine h.ixw (s:=l) (l:=ys) (f:=ck) (n:=2) 1 rfl (by omega) (by rw [ak7];omega) aR fun wb off c fm h hb=>?_;refine h.UD 1 rfl (by omega) rfl fun w4 h=>?_;refine h.Dg (m:=1) 1 rfl (by simp;omega) rfl fun w5 h=>?_;have h:=hb ((m,⟨none,0,0⟩,[]):PV) h rfl;rw [ak7] at h;have h:Hp O w w5 [bj bp p N (M+1*(k+1)),aj l 36 2 ck (ys.set k ((m,⟨none,0,0⟩,[]):PV)),ak (ts.set k ao),ao]:=h;exact⟨xs.length - (k+1),by omega,k+1,ys.set k ((m,⟨none,0,0⟩,[]):PV),ts.set k ao,by rw [aI (by omega) (by omega)];omega,by omega,rfl,by simpa using vA,AU (by omega) MI,by
   rw [amo (by omega),<-al3,YX,al3],by
   rw [amo (by omega),<-al3,Iu,al3],h.trim 3⟩
 ·refine aJ (by simp;omega) ?_;obtain rfl:k=xs.length:=by omega
  have sJ:ys=List.replicate l.len ((m,⟨none,0,0⟩,[]):PV):=by
   have:=AV (k:=xs.length) (by omega) MI (by omega);rw [vA,p5] at this;exact this
  subst sJ;have h:=E3 h (i:=1) (g:=g1) (l':=List.replicate l.len m) rfl (by simp) (by rw [anv,anv]);obtain⟨q,hq,h⟩:=jZ h (i:=0) rfl;obtain⟨V,⟨v,x,cR,new⟩,R⟩:=q;have h:=gi h (i:=4) rfl;have h:Hp O w w2 [af bp 53 (BK.cells ⟨V,⟨v,x,cR,new⟩,R⟩ p),aj l 36 2 g1 (List.replicate l.len m),ak ts,gh V,aj v 37 1 mz (cR++new),fN R,aj x 3 1 nx (cR++new),eO 2 g1 cR,ak (new.map (pend 36 2 g1))]:=h;have gJ:=h.len (s:=v) 4 rfl;have ja:=h.len (s:=x) 6 rfl;have hlen:(cR++new).length<=N+(M+1*xs.length):=by have:=hq.2.1.1;have:=hq.2.1.2.1;rw [alb];dsimp only at*;omega
  refine aS ?_;refine h.pI (n:=6) (m:=1) (k:=.sl) (x:=v) 0 rfl rfl ?_;refine h.cj 4 ((l,m):LM) (c:= [_]) rfl gS Rh j1 j3 j2 rfl rfl (by simp [Value.oneCell']) (by rw [j4];omega) (by omega) fun s w3 h hs _=>?_;refine aS ?_;refine h.Dg (m:=1) 0 rfl (by simp) rfl fun w4 h=>?_;refine aS ?_;refine h.pI (n:=6) (m:=4) (k:=.sl) (x:=x) 0 rfl rfl ?_;refine h.cj 6 ((l,m):LM) (c:= [_]) rfl fj Gl i1 i3 i2 rfl rfl (by simp [Value.oneCell']) (by rw [i4];omega) (by omega) fun s2 w5 h pM _=>?_;refine aS ?_;refine h.Dg (m:=4) 0 rfl (by simp) rfl fun w6 h=>?_;have h:=mA h (i:=8) (j:=1) (sub:=pend 36 2 g1) (ys:=new) (y:=(l,m)) (by decide) rfl rfl rfl;rw [ale] at h;have h:Hp O w w6 [af bp 53 (BK.cells ⟨V,⟨s,s2,cR,new++ [(l,m)]⟩,R⟩ p),ao,ak ts,gh V,aj s 37 1 mz (cR++(new++ [(l,m)])),fN R,aj s2 3 1 nx (cR++(new++ [(l,m)])),eO 2 g1 cR,ak ((new++ [(l,m)]).map (pend 36 2 g1))]:=h;have h:Hp O w w6 [aj s 37 1 mz (cR++(new++ [(l,m)])),aj s2 3 1 nx (cR++(new++ [(l,m)])),eO 2 g1 cR,ak ((new++ [(l,m)]).map (pend 36 2 g1)),af bp 53 (BK.cells ⟨V,⟨s,s2,cR,new++ [(l,m)]⟩,R⟩ p),gh V,fN R,ao]:=h.ic [4,6,7,8,0,3,5,1] (by decide) rfl;have h:=hJ ⟨s,s2,cR,new++ [(l,m)]⟩ h;have h:Hp O w w6 [af bp 53 (BK.cells ⟨V,⟨s,s2,cR,new++ [(l,m)]⟩,R⟩ p),gh V,fM ⟨s,s2,cR,new++ [(l,m)]⟩,fN R,ao]:=h.ic [1,2,0,3,4] (by decide) rfl;have hn:Sh.fits ⟨s,s2,cR,new++ [(l,m)]⟩ N (M+1*xs.length+1):=⟨hq.2.1.1,by have:=hq.2.1.2.1;dsimp only at this;simp only [alb,alQ,amF];omega,hq.2.1.2.2.1,fun y hy=>by
   rcases alg.1 hy with hy | hy
   ·exact hq.2.1.2.2.2 y hy
   ·simp only [ali] at hy;subst hy;show l.len<=10000;omega⟩
  have h:=ny (N:=N) (M:=M+1*xs.length+1) ⟨V,⟨s,s2,cR,new++ [(l,m)]⟩,R⟩ ⟨hq.1.mono (alA _) (by omega),hn,hq.2.2.mono (alA _) (by omega)⟩ h;have:=back (rest:= []) rfl rfl rfl h;rw [alh] at this;rw [si] at hK;exact hK w6 this
set_option maxHeartbeats 4000000 in
theorem zR (h:Hp S w0 w ae) (i j:Nat) (iZ:i≠j) {bp:Nat} {p:PC} {N M:Nat} {l:Sl} {ps:List gF} (hi:ae[i]? =some (bj bp p N M)) (hj:ae[j]? =some (bF l ps)) (hN:N+M+14*ps.length<=1000000000) (hl:ps.length<=10000) (hv: ∀x∈ps,x.2.length<=13 /\ ∀y∈x.2,y.2.length<=10000)
  {K:World->Prop} (hK: ∀w',Hp S w0 w' ((ae.set i (bj bp p N (M+14*ps.length+1))).set j ao)->K w'):c50 (some ⟨bp,6,none⟩) l w K:=by
 refine TF ?_;unfold f50;obtain⟨ku,i1,i2,i3,i4⟩:=FT.nW;obtain⟨CK,j1,j2,j3,j4⟩:=Rk;obtain⟨O,h1,back⟩:=h.f2 iZ hi hj rfl rfl;clear h;have h:=h1;clear h1;obtain⟨xs,fx,h⟩:=h.du (i:=1) rfl;have h:Hp O w w [bj bp p N M,aj l 75 3 rdv xs,ak (xs.map gA)]:=h;have p5:=h.len (s:=l) 1 rfl;have si:ps.length=xs.length:=by rw [<-fx,alr]
 obtain⟨q,hq,h2⟩:=jZ h (i:=0) rfl;have h2:Hp O w w [af bp 53 (q.cells p),aj l 75 3 rdv xs,ak (xs.map gA),gh q.V,fM q.P,fN q.R]:=h2;refine aS ?_;refine h2.pI (n:=6) (m:=2) (k:=.sl) (x:=q.R.v) 0 rfl rfl ?_;have hlen:(q.R.cR++q.R.new).length<=N+M:=by have:=hq.2.2.1;have:=hq.2.2.2.1;rw [alb];omega
 have h3:=gi h2 (i:=5) rfl;have qR:(q.R.v.len:Int)<=1000000000:=by have:=h3.len (s:=q.R.v) (f:=mz) (e:=71) (n:=1) (l:=q.R.cR++q.R.new) 5 rfl;omega
 generalize q.R.v.len=pl at qR;clear h3 hlen;generalize i64.wrap (1000000+(pl:Int))=m;refine⟨fun t mm w'=> ∃(k:Nat) (ys:List RV) (ts:List aa),t=k /\ k<=xs.length /\ mm=xs.length - k /\ ys.length=xs.length /\ ys.take k=List.replicate k (((m,0),⟨none,0,0⟩,[]):RV) /\ ys.drop k=xs.drop k /\ ts.drop k=(xs.map gA).drop k /\ Hp O w w' [bj bp p N (M+14*k),aj l 75 3 rdv ys,ak ts],
  ⟨xs.length,0,xs,xs.map gA,rfl,by omega,rfl,rfl,by simp,rfl,rfl,h⟩,?_⟩
 clear h;rintro t mm w2 ⟨k,ys,ts,rfl,hk,rfl,vA,MI,YX,Iu,h⟩;by_cases av:k < xs.length
 ·refine aL (by simp;omega) ?_;have hy:ys[k]? =some xs[k]:=by
   have e:=congrArg (fun L=>L[0]?) YX
   simpa [av] using e
  have ht:ts[k]? =some (gA xs[k]):=by
   have e:=congrArg (fun L=>L[0]?) Iu
   simpa [av] using e
  have fI:dX xs[k]∈ps:=by rw [<-fx];exact am2 (alz av)
  have Rl:=hv _ fI;generalize xs[k]=x at hy ht Rl;refine h.rf (s:=l) (l:=ys) (f:=rdv) (n:=3) (e:=75) 1 rfl (by omega) (by rw [ak7];exact hy) cc fun ad hc=>?_;refine jB (k:=.sl) (x:=x.2.1) (hc 2 (by omega)) rfl ?_;have h:=h.pick (i:=2) (k:=k) rfl ht rfl;have h:Hp O w w2 [bj bp p N (M+14*k),aj l 75 3 rdv ys,ak (ts.set k ao),aN x.2.1 x.2.2]:=h;have aiU:x.2.2.length<=13:=Rl.1;refine qY h 0 3 (by decide) (l:=x.2.1) (ps:=x.2.2) rfl rfl (by omega) (by have:=Rl.1;show x.2.2.length<=10000;have:x.2.2.length<=13:=this;omega) Rl.2 fun w3 h=>?_;have h:=mB h (i:=0) (N':=N) (M':=M+14*(k+1)) rfl (alA _) (by have:x.2.2.length<=13:=Rl.1;omega);have h:Hp O w w3 [bj bp p N (M+14*(k+1)),aj l 75 3 rdv ys,ak (ts.set k ao),ao]:=h;refine h.ixw (s:=l) (l:=ys) (f:=rdv) (n:=3) 1 rfl (by omega) (by rw [ak7];omega) cc fun wb off c fm h hb=>?_;refine h.UD 1 rfl (by omega) rfl fun w4 h=>?_;refine h.Dg (m:=1) 1 rfl (by simp;omega) rfl fun w5 h=>?_;refine h.Dg (m:=2) 1 rfl (by simp;omega) rfl fun w6 h=>?_;have h:=hb (((m,0),⟨none,0,0⟩,[]):RV) h rfl;rw [ak7] at h;have h:Hp O w w6 [bj bp p N (M+14*(k+1)),aj l 75 3 rdv (ys.set k (((m,0),⟨none,0,0⟩,[]):RV)),ak (ts.set k ao),ao]:=h;exact⟨xs.length - (k+1),by omega,k+1,ys.set k (((m,0),⟨none,0,0⟩,[]):RV),ts.set k ao,by rw [aI (by omega) (by omega)];omega,by omega,rfl,by simpa using vA,AU (by omega) MI,by
   rw [amo (by omega),<-al3,YX,al3],by
   rw [amo (by omega),<-al3,Iu,al3],h.trim 3⟩
 ·refine aJ (by simp;omega) ?_;obtain rfl:k=xs.length:=by omega
  have sJ:ys=List.replicate l.len (((m,0),⟨none,0,0⟩,[]):RV):=by
   have:=AV (k:=xs.length) (by omega) MI (by omega);rw [vA,p5] at this;exact this
  subst sJ;have h:=E3 h (i:=1) (g:=g2) (l':=List.replicate l.len m) rfl (by simp) (by rw [anv,anv]);obtain⟨q,hq,h⟩:=jZ h (i:=0) rfl;obtain⟨V,P,⟨v,x,cR,new⟩⟩:=q;have h:=gi h (i:=5) rfl;have h:Hp O w w2 [af bp 53 (BK.cells ⟨V,P,⟨v,x,cR,new⟩⟩ p),aj l 75 3 g2 (List.replicate l.len m),ak ts,gh V,fM P,aj v 71 1 mz (cR++new),aj x 3 1 nx (cR++new),eO 3 g2 cR,ak (new.map (pend 75 3 g2))]:=h;have gJ:=h.len (s:=v) 5 rfl;have ja:=h.len (s:=x) 6 rfl;have hlen:(cR++new).length<=N+(M+14*xs.length):=by have:=hq.2.2.1;have:=hq.2.2.2.1;rw [alb];dsimp only at*;omega
  refine aS ?_;refine h.pI (n:=6) (m:=2) (k:=.sl) (x:=v) 0 rfl rfl ?_;refine h.cj 5 ((l,m):LM) (c:= [_]) rfl gS Ri j1 j3 j2 rfl rfl (by simp [Value.oneCell']) (by rw [j4];omega) (by omega) fun s w3 h hs _=>?_;refine aS ?_;refine h.Dg (m:=2) 0 rfl (by simp) rfl fun w4 h=>?_;refine aS ?_;refine h.pI (n:=6) (m:=5) (k:=.sl) (x:=x) 0 rfl rfl ?_;refine h.cj 6 ((l,m):LM) (c:= [_]) rfl fj Gl i1 i3 i2 rfl rfl (by simp [Value.oneCell']) (by rw [i4];omega) (by omega) fun s2 w5 h pM _=>?_;refine aS ?_;refine h.Dg (m:=5) 0 rfl (by simp) rfl fun w6 h=>?_;have h:=mA h (i:=8) (j:=1) (sub:=pend 75 3 g2) (ys:=new) (y:=(l,m)) (by decide) rfl rfl rfl;rw [ale] at h;have h:Hp O w w6 [af bp 53 (BK.cells ⟨V,P,⟨s,s2,cR,new++ [(l,m)]⟩⟩ p),ao,ak ts,gh V,fM P,aj s 71 1 mz (cR++(new++ [(l,m)])),aj s2 3 1 nx (cR++(new++ [(l,m)])),eO 3 g2 cR,ak ((new++ [(l,m)]).map (pend 75 3 g2))]:=h;have h:Hp O w w6 [aj s 71 1 mz (cR++(new++ [(l,m)])),aj s2 3 1 nx (cR++(new++ [(l,m)])),eO 3 g2 cR,ak ((new++ [(l,m)]).map (pend 75 3 g2)),af bp 53 (BK.cells ⟨V,P,⟨s,s2,cR,new++ [(l,m)]⟩⟩ p),gh V,fM P,ao]:=h.ic [5,6,7,8,0,3,4,1] (by decide) rfl;have h:=hJ ⟨s,s2,cR,new++ [(l,m)]⟩ h;have h:Hp O w w6 [af bp 53 (BK.cells ⟨V,P,⟨s,s2,cR,new++ [(l,m)]⟩⟩ p),gh V,fM P,fN ⟨s,s2,cR,new++ [(l,m)]⟩,ao]:=h.ic [1,2,3,0,4] (by decide) rfl;have hn:Sh.fits ⟨s,s2,cR,new++ [(l,m)]⟩ N (M+14*xs.length+1):=⟨hq.2.2.1,by have:=hq.2.2.2.1;dsimp only at this;simp only [alb,alQ,amF];omega,hq.2.2.2.2.1,fun y hy=>by
   rcases alg.1 hy with hy | hy
   ·exact hq.2.2.2.2.2 y hy
   ·simp only [ali] at hy;subst hy;show l.len<=10000;omega⟩
  have h:=ny (N:=N) (M:=M+14*xs.length+1) ⟨V,P,⟨s,s2,cR,new++ [(l,m)]⟩⟩ ⟨hq.1.mono (alA _) (by omega),hq.2.1.mono (alA _) (by omega),hn⟩ h;have:=back (rest:= []) rfl rfl rfl h;rw [alh] at this;rw [si] at hK;exact hK w6 this
end
theorem yc.open {w:World} {s:Sl} {l:KD} (h:yc w s l): ∃xs:List KS,kinds xs=l /\ (∃o,bO w s 2 df xs o) /\ ∀x∈xs,x.2.1.len<=x.2.1.cap /\ ∃o,bO w x.2.1 1 sv x.2.2 o:=by
 obtain⟨xs,O,h1,_,⟨o,h2,_⟩,h3⟩:=h;refine⟨xs,h1,⟨o,h2⟩,fun x hx=>?_⟩;obtain⟨q,o,h4,_⟩:=h3 x hx;exact⟨q,o,h4⟩
theorem Rm {x y:ByteArray} (h:x≠y):(!(x.toList ==y.toList))=true:=by
 rw [FZ,decide_eq_false h];rfl
theorem yd (x:ByteArray):(x.toList ==x.toList)=true:=by simp
theorem AW (x:ByteArray): ¬(!(x.toList ==x.toList))=true:=by simp
set_option maxHeartbeats 2000000 in
theorem o9 {a b:Sl} {la lb:KD} {w:World} (ha:yc w a la) (hb:yc w b lb) (EA:la.length<=1000000000) (hv: ∀x∈la,x.2.length<=1000000000) {K:Bool->World->Prop} (hK: ∀w',Fr [] w w'->K (decide (la=lb)) w'):VZ a b w K:=by
 refine TE ?_;unfold f49;obtain⟨xa,a1,a2,a3⟩:=ha.open;obtain⟨xb,b1,b2,b3⟩:=hb.open;have e1:xa.length=a.len:=by obtain⟨o,h⟩:=a2;exact h.1
 have e2:xb.length=b.len:=by obtain⟨o,h⟩:=b2;exact h.1
 have e3:la.length=xa.length:=by rw [<-a1];simp [kinds]
 have e4:lb.length=xb.length:=by rw [<-b1];simp [kinds]
 by_cases hl:a.len=b.len
 ·refine aJ (by simp [hl]) ?_;refine⟨fun i mm w'=> ∃k:Nat,i=k /\ k<=la.length /\ mm=la.length - k /\ la.take k=lb.take k /\ Fr [] w w',⟨la.length,0,rfl,by omega,rfl,by simp,Fr.refl _ _⟩,?_⟩;rintro i mm w1 ⟨k,rfl,hk,rfl,heq,hf⟩;by_cases av:k < la.length
  ·refine aL (by simp;omega) ?_;have CH:k < lb.length:=by omega
   have Dn:xa[k]? =some (xa[k]'(by omega)):=alf _;have E0:xb[k]? =some (xb[k]'(by omega)):=alf _;have g1:la[k]=mw (xa[k]'(by omega)):=by simp [<-a1,kinds,mw]
   have g2:lb[k]=mw (xb[k]'(by omega)):=by simp [<-b1,kinds,mw]
   have va:=(a3 _ (ala Dn)).2;have vb:=(b3 _ (ala E0)).2;have HJ:=hv la[k] (alz av);rw [g1] at HJ;generalize xa[k]'(by omega)=x at Dn g1 va HJ;generalize xb[k]'(by omega)=y at E0 g2 vb;have HJ:x.2.2.length<=1000000000:=HJ;have l1:x.2.2.length=x.2.1.len:=by obtain⟨o,h⟩:=va;exact h.1
   have l2:y.2.2.length=y.2.1.len:=by obtain⟨o,h⟩:=vb;exact h.1
   have no: ∀{w':World},Fr [] w w'-> ¬(x.1=y.1 /\ x.2.2=y.2.2)->K false w':=fun hf aW=>by
    have:=hK _ hf
    rwa [decide_eq_false (fun e=>aW (by
     have:la[k]=lb[k]:=by simp [e]
     rw [g1,g2] at this;exact⟨(amx this).1,(amx this).2⟩))] at this
   refine⟨fun w'=>Fr [] w w' /\ x.1=y.1 /\ x.2.1.len=y.2.1.len,?_,?_⟩
   ·refine MJ fun w2 pL=>?_;have hf:=hf.trans pL (by simp);obtain⟨oa,Gk⟩:=bO.cn a2 hf;obtain⟨ob,gO⟩:=bO.cn b2 hf;refine bO.ix bn Gk (by omega) (x:=x) (by rw [ak7];exact Dn) fun ad hc=>?_;refine dG (k:=.s) (x:=x.1) (hc 0 (by omega)) rfl ?_;refine bO.ix bn gO (by omega) (x:=y) (by rw [ak7];exact E0) fun Is lF=>?_;refine dG (k:=.s) (x:=y.1) (lF 0 (by omega)) rfl ?_;by_cases hn:x.1=y.1
    ·refine aJ (by rw [hn];exact AW _) ?_;refine bO.ix bn Gk (by omega) (x:=x) (by rw [ak7];exact Dn) fun ad hc=>?_;refine jB (k:=.sl) (x:=x.2.1) (hc 1 (by omega)) rfl ?_;refine bO.ix bn gO (by omega) (x:=y) (by rw [ak7];exact E0) fun Is lF=>?_;refine jB (k:=.sl) (x:=y.2.1) (lF 1 (by omega)) rfl ?_;by_cases p5:x.2.1.len=y.2.1.len
     ·exact aJ (by simp [p5]) ⟨hf,hn,p5⟩
     ·refine aL (by simp;omega) (no hf fun h=>p5 ?_);rw [<-l1,<-l2,h.2]
    ·exact aL (Rm hn) (no hf fun h=>hn h.1)
   rintro w2 ⟨hf,hn,p5⟩;refine⟨fun i mm w'=> ∃q:Nat,i=q /\ q<=x.2.2.length /\ mm=x.2.2.length - q /\ x.2.2.take q=y.2.2.take q /\ Fr [] w w',⟨x.2.2.length,0,rfl,by omega,rfl,by simp,hf⟩,?_⟩;rintro i mm w3 ⟨q,rfl,hq,rfl,MK,hf⟩;obtain⟨oa,Gk⟩:=bO.cn a2 hf;refine bO.ix bn Gk (by omega) (x:=x) (by rw [ak7];exact Dn) fun ad hc=>?_;refine jB (k:=.sl) (x:=x.2.1) (hc 1 (by omega)) rfl ?_;by_cases E4:q < x.2.2.length
   ·refine aL (by simp;omega) ?_;refine MJ fun w4 FX=>?_;have hf:=hf.trans FX (by simp);obtain⟨oa,Gk⟩:=bO.cn a2 hf;obtain⟨ob,gO⟩:=bO.cn b2 hf;obtain⟨ova,va2⟩:=bO.cn va hf;obtain⟨ovb,vb2⟩:=bO.cn vb hf;have ZU:q < y.2.2.length:=by omega
    refine bO.ix bn Gk (by omega) (x:=x) (by rw [ak7];exact Dn) fun ad hc=>?_;refine jB (k:=.sl) (x:=x.2.1) (hc 1 (by omega)) rfl ?_;refine bO.ix cW va2 (by omega) (x:=x.2.2[q]) (by simp [E4]) fun ad3 hc3=>?_;refine dG (k:=.s) (x:=x.2.2[q]) (hc3 0 (by omega)) rfl ?_;refine bO.ix bn gO (by omega) (x:=y) (by rw [ak7];exact E0) fun Is lF=>?_;refine jB (k:=.sl) (x:=y.2.1) (lF 1 (by omega)) rfl ?_;refine bO.ix cW vb2 (by omega) (x:=y.2.2[q]) (by simp [ZU]) fun ad4 XZ=>?_;refine dG (k:=.s) (x:=y.2.2[q]) (XZ 0 (by omega)) rfl ?_;by_cases he:x.2.2[q]=y.2.2[q]
    ·exact aJ (by rw [he];exact AW _) ⟨x.2.2.length - (q+1),by omega,q+1,by rw [aI (by omega) (by omega)];omega,by omega,rfl,oZ MK E4 ZU he,hf⟩
    ·exact aL (Rm he) (no hf fun h=>he (by simp [h.2]))
   ·refine aJ (by simp;omega) ?_;rw [aln (by omega),aln (by omega)] at MK;refine⟨la.length - (k+1),by omega,k+1,by rw [aI (by omega) (by omega)];omega,by omega,rfl,oZ heq av CH ?_,hf⟩;rw [g1,g2];exact amz hn MK
  ·refine aJ (by simp;omega) ?_;have:=hK w1 hf;rw [aln (by omega),aln (by omega)] at heq
   rwa [decide_eq_true heq] at this
 ·refine aL (by simp;omega) ?_;have:=hK w (Fr.refl _ _)
  rwa [decide_eq_false (fun e=>hl (by rw [<-e1,<-e2,<-e3,<-e4,e]))] at this
def cd:ByteArray:=⟨#[98,101,104,105,110,100]⟩
def bh:KS:=(cd,⟨none,0,0⟩,[])
def Bf (x:KS):aa:=aj ⟨x.2.1.a,x.2.1.len+2,x.2.1.cap⟩ 9 1 sv (x.2.2++ [cd,cd])
def sC (s:Sl) (xs:List KS):aa:=bo (aj ⟨s.a,s.len+2,s.cap⟩ 107 2 df (xs++ [bh,bh])) (ak (xs.map Bf))
section
variable {S:List Nat} {w0 w:World} {ae:List aa}
theorem HM {α:Type} {f:α->List Value} {e:TypeId} {n k:Nat} {l:List α} (h:Hp S w0 w ae) (i:Nat) {s0 s:Sl} (hi:(ae[i]?).map aa.holds=some (aj s0 e n f l).holds) (ha:s.a=s0.a) {b m:Int} {K:Sl->Prop} (h1:0<=b) (h2:b<=m) (h3:m<=s.cap)
  (hK:K ⟨s.a,b.toNat,m.toNat⟩):Cut s 0 b m k K:=by
 obtain⟨O,hO⟩:=h.de hi;refine⟨by omega,h1,h2,h3,?_⟩;have e:(if m.toNat=(0:Int).toNat then s.a else s.a.map (·.add ((0:Int).toNat*k)))=s.a:=by
  split
  ·rfl
  ·rw [ha]
   rcases hO.2 with ⟨q,_⟩ | ⟨b,off,c,q,_⟩
   ·rw [q];rfl
   ·rw [q];simp [Addr.aU]
 rw [e];exact hK
theorem cq.pre {α:Type} {f:α->List Value} {e:TypeId} {n:Nat} (hf: ∀x,(f x).length=n) {w:World} {s s':Sl} {l l':List α} {o:List Nat} (h:cq w s' e n f (l++l') o) (hl:l.length=s.len) (ha:s.a=s'.a):bO w s n f l o \/ s.len=0:=by
 by_cases h0:s.len=0
 ·exact .inr h0
 ·refine .inl ⟨hl,.inr ?_⟩;have hR:=cq.toR h;have:=hR.1;rw [alb] at this
  rcases hR.2 with ⟨q,_⟩ | ⟨x,q1,q2,q3,q4⟩
  ·omega
  ·refine⟨x,by rw [ha];exact q1,q2,q3,fun j u hj=>q4 j u ?_⟩;rw [alJ,ak9 (ak6.1 hj).1];exact hj
theorem cq.YY {α:Type} {f:α->List Value} {e:TypeId} {n:Nat} (hf: ∀x,(f x).length=n) {w:World} {s s':Sl} {l l':List α} {o:List Nat} (h:cq w s' e n f (l++l') o) (hl:l.length=s.len) (ha:s.a=s'.a): ∃o',bO w s n f l o' /\ ∀k∈o',k∈o:=by
 rcases cq.pre hf h hl ha with h1 | h1
 ·exact⟨o,h1,fun k hk=>hk⟩
 ·have:l= []:=by apply alL;omega
  subst this;exact⟨[],⟨h1.symm ▸ rfl,.inl ⟨h1,rfl⟩⟩,by simp⟩
theorem AX {w:World} {O:List Nat} {s:Sl} {xs:List KS} (h:(sC s xs).holds w O) (hl:xs.length=s.len) (hx: ∀x∈xs,x.2.2.length=x.2.1.len):(dK s xs).holds w O:=by
 have av:=(sC s xs).lt h;obtain⟨O1,O2,h1,h2,h3,h4⟩:=h;refine⟨av,?_,fun x fI=>?_⟩
 ·obtain⟨o,g1,g2⟩:=cq.YY bn h1 hl rfl;exact⟨o,g1,fun k hk=>(h4 k).2 (.inl (g2 k hk))⟩
 ·obtain⟨k,hk,rfl⟩:=amd.1 fI;obtain⟨O3,O4,g1,_,_,g3⟩:=dk (k:=k) (t:=Bf xs[k]) (by simp [hk]) h2;have g1:cq w ⟨xs[k].2.1.a,xs[k].2.1.len+2,xs[k].2.1.cap⟩ 9 1 sv (xs[k].2.2++ [cd,cd]) O3:=g1;obtain⟨o,g4,g5⟩:=cq.YY cW g1 (hx _ (alz hk)) (s:=xs[k].2.1) rfl;refine⟨?_,o,g4,fun q hq=>(h4 q).2 (.inr ((g3 q).2 (.inl (g5 q hq))))⟩
  rcases g1.2 with ⟨_,q,_⟩ | ⟨_,_,_,_,_,_,q,_⟩
  ·cases q
  ·dsimp only at q;omega
set_option maxHeartbeats 4000000 in
theorem pa (h:Hp S w0 w ae) {s:Sl} {l:KD} (hr:yc w s l) (hl:l.length<=10000000) (hv: ∀x∈l,x.2.length<=10000000) {K:Sl->World->Prop}
  (hK: ∀r xs w',kinds xs=l->xs.length=r.len->(∀x∈xs,x.2.2.length=x.2.1.len)->r.len+2<=r.cap->Hp S w0 w' (ae++ [sC r xs])->K r w'):Z5 s w K:=by
 refine SX ?_;unfold f18;obtain⟨ys,O,rfl,hO⟩:=hr;obtain⟨xy,i1,i2,i3,i4⟩:=xy;obtain⟨zv,j1,j2,j3,j4⟩:=zv;have h1:Hp [] w w [(dK s ys).ro]:=(Hp.init w).dC hO (by simp);have fB:=h1.dR (u:=dK s ys) (s:=s) (l:=ys) (f:=df) (n:=2) 0 rfl o5;have cO:(kinds ys).length=ys.length:=by simp [kinds]
 rw [cO] at hl;have h1:=h1.nil 107 2 df;have h1:=h1.grow (Fr.refl _ _) (t:=ak (([]:List KS).map Bf)) (O:= []) rfl (by simp) rfl;refine⟨fun out i mm w'=> ∃(k:Nat) (xs:List KS),i=k /\ k<=ys.length /\ mm=ys.length - k /\ xs.length=k /\ kinds xs=(kinds ys).take k /\ (∀x∈xs,x.2.2.length=x.2.1.len) /\ Hp [] w w' [(dK s ys).ro,aj out 107 2 df xs,ak (xs.map Bf)],⟨ys.length,0,[],rfl,by omega,rfl,rfl,by simp [kinds],by simp,h1⟩,?_⟩;clear h1;rintro out i mm w1 ⟨k,xs,rfl,hk,rfl,ja,yx,nY,h1⟩;have lq:=h1.len (s:=out) 1 rfl;by_cases av:k < ys.length
 ·refine aL (by simp;omega) ?_;have hy:ys[k]? =some ys[k]:=by simp [av]
  have hyv:ys[k].2.2.length<=10000000:=hv (ys[k].1,ys[k].2.2) (alu.2 ⟨ys[k],alz av,rfl⟩);have uX:(kinds ys).take (k+1)=(kinds ys).take k++ [(ys[k].1,ys[k].2.2)]:=by
   rw [alp (by simpa [kinds] using av)];simp [kinds]
  have hcy:=(AT h1 (s:=s) (xs:=ys) 0 rfl _ (alz av)).2;generalize ys[k]=y at hy hyv uX hcy;have E5: ∀{w':World} {l:List aa},Hp [] w w' ((dK s ys).ro :: l)-> ∃o,bO w' s 2 df ys o:=fun{w' l} h=>by
   obtain⟨O,_,⟨o,g,_⟩,_⟩:=h.kY (i:=0) rfl;exact⟨o,g⟩
  obtain⟨o,hR⟩:=E5 h1;refine bO.ix bn hR (by omega) (x:=y) (by rw [ak7];exact hy) fun ad hc=>?_;refine jB (k:=.sl) (x:=y.2.1) (hc 1 (by omega)) rfl ?_;have h1:=h1.nil 9 1 sv;have h1:Hp [] w w1 [(dK s ys).ro,aj out 107 2 df xs,ak (xs.map Bf),aj ⟨none,0,0⟩ 9 1 sv []]:=h1;refine h1.gq 3 0 (s:=⟨none,0,0⟩) (s2:=y.2.1) (u:=(dK s ys).ro) rfl rfl (nu (u:=(dK s ys).ro) (s:=s) (xs:=ys) rfl hy) cW ql i1 i3 i2 rfl (by simp [sv,Value.oneCell']) (by rw [i4];show (0+y.2.1.len)*16<=_;omega) (by show 0+y.2.1.len<=_;omega) fun f w2 h1 dh _=>?_;refine h1.K8 (l:= [cd,cd]) (f:=sv) (n:=1) (c:= [_,_]) rfl rfl cW fun b w3 h1=>?_;have h1:Hp [] w w3 [(dK s ys).ro,aj out 107 2 df xs,ak (xs.map Bf),aj f 9 1 sv y.2.2,aj ⟨some ⟨b,0,none⟩,2,2⟩ 9 1 sv [cd,cd]]:=h1;have adJ:f.len=0+y.2.1.len:=dh;refine h1.gq 3 4 (s:=f) (s2:=⟨some ⟨b,0,none⟩,2,2⟩) rfl rfl Hp.bZ cW ql i1 i3 i2 rfl (by simp [sv,Value.oneCell']) (by rw [i4];show (f.len+2)*16<=_;omega) (by show f.len+2<=_;omega) fun f2 w4 h1 pL _=>?_;have h1:Hp [] w w4 ([(dK s ys).ro,aj out 107 2 df xs,ak (xs.map Bf),aj f2 9 1 sv (y.2.2++ [cd,cd])]++ [aj ⟨some ⟨b,0,none⟩,2,2⟩ 9 1 sv [cd,cd]]):=h1;have h1:=h1.front;have Ba:f2.len=y.2.1.len+2:=by have:f2.len=f.len+2:=pL;omega
  have eN:=h1.cap (s:=f2) 3 rfl;refine h1.dr fun w5 h1=>?_;obtain⟨o,hR⟩:=E5 h1;refine bO.ix bn hR (by omega) (x:=y) (by rw [ak7];exact hy) fun ad hc=>?_;refine dG (k:=.s) (x:=y.1) (hc 0 (by omega)) rfl ?_;refine bO.ix bn hR (by omega) (x:=y) (by rw [ak7];exact hy) fun ad hc=>?_;refine jB (k:=.sl) (x:=y.2.1) (hc 1 (by omega)) rfl ?_;refine HM h1 3 (s0:=f2) rfl rfl (by omega) (by omega) (by simp) ?_;rw [ak7,ak7];refine h1.cj 1 ((y.1,⟨f2.a,y.2.1.len,f2.cap⟩,y.2.2):KS) (c:= [_,_]) rfl bn eM j1 j3 j2 rfl rfl (by simp [df,Value.oneCell']) (by rw [j4];omega) (by omega) fun bR w6 h1 _ _=>?_;have e:aj f2 9 1 sv (y.2.2++ [cd,cd])=Bf (y.1,⟨f2.a,y.2.1.len,f2.cap⟩,y.2.2):=by
   unfold Bf;dsimp only;rw [<-Ba]
  rw [e] at h1;have h1:=mA h1 (i:=2) (j:=3) (sub:=Bf) (ys:=xs) (y:=(y.1,⟨f2.a,y.2.1.len,f2.cap⟩,y.2.2)) (by decide) rfl rfl rfl;have h1:Hp [] w w6 ([(dK s ys).ro,aj bR 107 2 df (xs++ [((y.1,⟨f2.a,y.2.1.len,f2.cap⟩,y.2.2):KS)]),ak ((xs++ [((y.1,⟨f2.a,y.2.1.len,f2.cap⟩,y.2.2):KS)]).map Bf)]++ [ao]):=h1;refine⟨ys.length - (k+1),by omega,k+1,xs++ [(y.1,⟨f2.a,y.2.1.len,f2.cap⟩,y.2.2)],by rw [aI (by omega) (by omega)];omega,by omega,rfl,by simp [ja],by rw [uX,<-yx];simp [kinds],fun x hx=>?_,h1.front⟩
  rcases alg.1 hx with hx | hx
  ·exact nY x hx
  ·simp only [ali] at hx;subst hx;exact hcy
 ·refine aJ (by simp;omega) ?_;obtain rfl:k=ys.length:=by omega
  rw [aln (by omega)] at yx;refine h1.K8 (l:= [bh,bh]) (f:=df) (n:=2) (c:= [_,_,_,_]) rfl rfl bn fun b w3 h1=>?_;have h1:Hp [] w w3 [(dK s ys).ro,aj out 107 2 df xs,ak (xs.map Bf),aj ⟨some ⟨b,0,none⟩,2,2⟩ 107 2 df [bh,bh]]:=h1;refine h1.gq 1 3 (s:=out) (s2:=⟨some ⟨b,0,none⟩,2,2⟩) rfl rfl Hp.bZ bn eM j1 j3 j2 rfl (by simp [df,Value.oneCell']) (by rw [j4];show (out.len+2)*40<=_;omega) (by show out.len+2<=_;omega) fun bR w4 h1 QI _=>?_;have QI:bR.len=out.len+2:=QI;have h1:Hp [] w w4 ([(dK s ys).ro,aj bR 107 2 df (xs++ [bh,bh]),ak (xs.map Bf)]++ [aj ⟨some ⟨b,0,none⟩,2,2⟩ 107 2 df [bh,bh]]):=h1;have h1:=h1.front;have eN:=h1.cap (s:=bR) 1 rfl;refine HM h1 1 (s0:=bR) rfl rfl (by omega) (by omega) (by simp) ?_;rw [ak7,ak7];have e:bR=⟨bR.a,s.len+2,bR.cap⟩:=by
   have:bR.len=s.len+2:=by omega
   rw [<-this]
  have h1:Hp [] w w4 [(dK s ys).ro,aj ⟨bR.a,s.len+2,bR.cap⟩ 107 2 df (xs++ [bh,bh]),ak (xs.map Bf)]:=by rw [<-e];exact h1
  have h1:=h1.aV (i:=1) (j:=2) (by omega) rfl rfl rfl (aM _);have h1:Hp [] w w4 [(dK s ys).ro,sC ⟨bR.a,s.len,bR.cap⟩ xs,ao]:=h1;refine hK ⟨bR.a,s.len,bR.cap⟩ xs w4 yx (by dsimp only;omega) nY (by dsimp only;omega) (h.r0 (rest:= [sC ⟨bR.a,s.len,bR.cap⟩ xs]) rfl (h1.ic [1] (by decide) rfl))
end
def LB:ByteArray:=⟨#[79,118,101,114]⟩
def ov:KS:=(LB,⟨none,0,0⟩,[])
section
variable {S:List Nat} {w0 w:World} {ae:List aa}
theorem ye {w:World} {O:List Nat} {s:Sl} {xs:List KS} (h:(dK s xs).holds w O):yc w s (kinds xs):=⟨xs,O,rfl,h⟩
set_option maxHeartbeats 4000000 in
theorem nN (h:Hp S w0 w ae) (i j:Nat) (iZ:i≠j) {s was:Sl} {xs ys:List KS} {u:aa} (hi:ae[i]? =some (sC s xs)) (ja:xs.length=s.len) (nY: ∀x∈xs,x.2.2.length=x.2.1.len) (eN:s.len+2<=s.cap) (hj:ae[j]? =some u) (hu:u.holds=(dK was ys).holds) (hk:kinds xs=kinds ys)
  (hl:xs.length<=10000000) (hv: ∀x∈xs,x.2.2.length<=10000000) {K:Bool->World->Prop} (hK: ∀w',Hp S w0 w' (ae.set i ao)->K true w'):W3 s was w K:=by
 refine SZ ?_;unfold f20;obtain⟨O,h1,back⟩:=h.XM iZ hi hj rfl;clear h;have h:=h1;clear h1;have Ac: ∀{w':World} {t:aa} {l:List aa},Hp O w w' (t :: u.ro :: l)-> ∃O',(dK was ys).holds w' O':=fun{w' t l} h=>by
  obtain⟨O',g⟩:=h.kY (i:=1) rfl;have g:u.holds w' O':=g;rw [hu] at g;exact⟨O',g⟩
 have YZ: ∀{w':World} {t:aa} {l:List aa},Hp O w w' (t :: u.ro :: l)-> ∃o,bO w' was 2 df ys o:=fun{w' t l} h=>by
  obtain⟨O',_,⟨o,g,_⟩,_⟩:=Ac h;exact⟨o,g⟩
 obtain⟨OL,hOL⟩:=h.kY (i:=0) rfl;obtain⟨OR,hOR⟩:=Ac h;have Y0:ys.length=was.len:=by obtain⟨o,g⟩:=YZ h;exact g.1
 have cO:xs.length=ys.length:=by have:=congrArg List.length hk;simpa [kinds] using this
 have QY: ∀(k:Nat) (y:KS),ys[k]? =some y->y.2.2.length=y.2.1.len /\ ∃x:KS,xs[k]? =some x /\ x.2.2=y.2.2:=fun k y hy=>by
  refine⟨?_,?_⟩
  ·obtain⟨_,_,g⟩:=hOR;obtain⟨_,o,g,_⟩:=g y (ala hy);exact g.1
  ·have av:=(ak6.1 hy).1;have e:=congrArg (fun L=>L[k]?) hk;simp only [kinds,alc,hy,al8] at e;obtain⟨x,hx,he⟩:=alH.1 e;exact⟨x,hx,(amx he).2⟩
 refine o9 (ye (AX hOL ja nY)) (ye hOR) (by simp [kinds];omega) (fun x hx=>?_) fun w1 yH=>?_
 ·obtain⟨y,hy,rfl⟩:=alu.1 hx;have:=hv y hy;show y.2.2.length<=_;omega
 rw [decide_eq_true hk];have h:=h.cn yH;have h:=h.split (i:=0) rfl rfl (aM _);have h:Hp O w w1 [aj ⟨s.a,s.len+2,s.cap⟩ 107 2 df (xs++ [bh,bh]),u.ro,ak (xs.map Bf)]:=h;refine HM h 0 (s:=s) (s0:=⟨s.a,s.len+2,s.cap⟩) (b:=i64.wrap ((was.len:Int)+2)) (m:=(s.cap:Nat)) rfl rfl (by rw [aI (by omega) (by omega)];omega) (by rw [aI (by omega) (by omega)];omega) (al4 _) ?_;have e0:(i64.wrap ((was.len:Int)+2)).toNat=s.len+2:=by rw [aI (by omega) (by omega)];omega
 rw [e0,ak7];refine⟨fun ok t mm w'=> ∃(k:Nat) (zs:List KS) (ts:List aa),ok=true /\ t=k /\ k<=s.len+2 /\ mm=s.len+2 - k /\ zs.length=s.len+2 /\ zs.drop k=(xs++ [bh,bh]).drop k /\ ts.drop k=(xs.map Bf).drop k /\ Hp O w w' [aj ⟨s.a,s.len+2,s.cap⟩ 107 2 df zs,u.ro,ak ts],
  ⟨s.len+2,0,xs++ [bh,bh],xs.map Bf,rfl,rfl,by omega,rfl,by simp [ja],rfl,rfl,h⟩,?_⟩
 clear h;rintro ok t mm w2 ⟨k,zs,ts,rfl,rfl,uX,rfl,Wi,hzd,Iu,h⟩;by_cases av:k < s.len+2
 ·refine aL (by simp;omega) ?_;have hz:zs[k]? =(xs++ [bh,bh])[k]? :=by
   have e:=congrArg (fun L=>L[0]?) hzd
   simpa using e
  by_cases lK:s.len<=k
  ·refine aL (by simp;omega) (aL rfl ?_);have hz:zs[k]? =some bh:=by
    rw [hz,ak8 (by omega)]
    rcases(by omega:k - xs.length=0 \/ k - xs.length=1) with e | e
    ·rw [e];rfl
    ·rw [e];rfl
   refine h.rf (s:=⟨s.a,s.len+2,s.cap⟩) (l:=zs) (f:=df) (n:=2) (e:=107) 0 rfl (by omega) (by rw [ak7];exact hz) bn fun ad hc=>?_;refine dG (k:=.s) (x:=cd) (hc 0 (by omega)) rfl ?_;refine⟨s.len+2 - (k+1),by omega,k+1,zs,ts,yd cd,by rw [aI (by omega) (by omega)];omega,by omega,rfl,Wi,by rw [<-al3,hzd,al3],by rw [<-al3,Iu,al3],h⟩
  ·refine aJ (by simp;omega) ?_;have hky:ys[k]? =some (ys[k]'(by omega)):=alf _;generalize ys[k]'(by omega)=y at hky;obtain⟨vA,x,hx,MB⟩:=QY k y hky;have fI:=ala hx;have CM:=hv x fI;have ML:=nY x fI;rw [ak9 (by omega),hx] at hz;have ht:ts[k]? =some (Bf x):=by
    have e:=congrArg (fun L=>L[0]?) Iu
    simpa [hx] using e
   have hfc:x.2.1.len+2<=x.2.1.cap:=by
    have h2:=h.pick (i:=2) (k:=k) rfl ht rfl;exact h2.cap (s:=⟨x.2.1.a,x.2.1.len+2,x.2.1.cap⟩) (e:=9) (n:=1) (f:=sv) (l:=x.2.2++ [cd,cd]) 3 rfl
   have rdz: ∀{w':World} {l:List aa} {K:Sl->Prop},Hp O w w' (aj ⟨s.a,s.len+2,s.cap⟩ 107 2 df zs :: l)->K x.2.1->Ix s.a (s.len+2) ((k:Nat):Int) 2 fun(a:Addr)=>Ld .sl w' (a.add 1) K:=fun{w' l K} h hK=>by
    refine h.rf (s:=⟨s.a,s.len+2,s.cap⟩) (l:=zs) (f:=df) (n:=2) (e:=107) 0 rfl (by omega) (by rw [ak7];exact hz) bn fun ad hc=>?_;exact jB (k:=.sl) (x:=x.2.1) (hc 1 (by omega)) rfl hK
   have Vj: ∀{w':World} {t:aa} {l:List aa} {K:Sl->Prop},Hp O w w' (t :: u.ro :: l)->K y.2.1->Ix was.a was.len ((k:Nat):Int) 2 fun(a:Addr)=>Ld .sl w' (a.add 1) K:=fun{w' t l K} h hK=>by
    obtain⟨o,hR⟩:=YZ h;refine bO.ix bn hR (by omega) (x:=y) (by rw [ak7];exact hky) fun ad hc=>?_;exact jB (k:=.sl) (x:=y.2.1) (hc 1 (by omega)) rfl hK
   have aep:y.2.1.len=x.2.1.len:=by rw [<-vA,<-ML,MB]
   refine h.dr fun w3 h=>?_;refine rdz h (Vj h ?_);refine aJ (by rw [aI (by omega) (by omega)];simp;omega) ?_;refine h.dr fun w4 h=>?_;refine rdz h (Vj h ?_);have h:=h.pick (i:=2) (k:=k) rfl ht rfl;have h:Hp O w w4 [aj ⟨s.a,s.len+2,s.cap⟩ 107 2 df zs,u.ro,ak (ts.set k ao),aj ⟨x.2.1.a,x.2.1.len+2,x.2.1.cap⟩ 9 1 sv (x.2.2++ [cd,cd])]:=h;have e1:i64.wrap ((y.2.1.len:Int)+2)=((x.2.1.len+2:Nat):Int):=by rw [aI (by omega) (by omega)];omega
   rw [e1];refine HM h 3 (s:=x.2.1) (s0:=⟨x.2.1.a,x.2.1.len+2,x.2.1.cap⟩) (b:=((x.2.1.len+2:Nat):Int)) (m:=(x.2.1.cap:Nat)) rfl rfl (by omega) (by omega) (al4 _) ?_;rw [ak7,ak7];refine⟨fun ok w'=>ok=true /\ Hp O w w' [aj ⟨s.a,s.len+2,s.cap⟩ 107 2 df zs,u.ro,ak (ts.set k ao),aj ⟨x.2.1.a,x.2.1.len+2,x.2.1.cap⟩ 9 1 sv (x.2.2++ [cd,cd])],?_,?_⟩
   ·refine aL rfl (Vj h ?_);refine h.fz (k:=.s) (s:=⟨x.2.1.a,x.2.1.len+2,x.2.1.cap⟩) (y:=cd) (x:=cd) 3 rfl (by omega) (by rw [ak7,ak8 (by omega),aep,ML,alK];rfl) cW rfl ?_;refine aL (yd cd) (Vj h ?_);refine h.fz (k:=.s) (s:=⟨x.2.1.a,x.2.1.len+2,x.2.1.cap⟩) (y:=cd) (x:=cd) 3 rfl (by rw [aI (by omega) (by omega)];omega) (by
     have e2:(i64.wrap ((y.2.1.len:Int)+1)).toNat=x.2.2.length+1:=by rw [aI (by omega) (by omega)];omega
     rw [e2,ak8 (by omega),amn];rfl) cW rfl ?_
    exact⟨yd cd,h⟩
   clear h;rintro ok3 w5 ⟨rfl,h⟩;refine⟨fun t mm w'=> ∃(q:Nat) (fs:List ByteArray),t=q /\ q<=x.2.1.len+2 /\ mm=x.2.1.len+2 - q /\ fs.length=x.2.1.len+2 /\ Hp O w w' [aj ⟨s.a,s.len+2,s.cap⟩ 107 2 df zs,u.ro,ak (ts.set k ao),aj ⟨x.2.1.a,x.2.1.len+2,x.2.1.cap⟩ 9 1 sv fs],⟨x.2.1.len+2,0,x.2.2++ [cd,cd],rfl,by omega,rfl,by simp [ML],h⟩,?_⟩;clear h;rintro t mm w6 ⟨q,fs,rfl,hq,rfl,dh,h⟩;by_cases E4:q < x.2.1.len+2
   ·refine aL (by simp;omega) ?_;refine h.mW (s:=⟨x.2.1.a,x.2.1.len+2,x.2.1.cap⟩) (y:=LB) 3 rfl (by omega) (by rw [ak7];omega) cW rfl rfl fun w7 h=>?_;exact⟨x.2.1.len+2 - (q+1),by omega,q+1,fs.set _ LB,by rw [aI (by omega) (by omega)];omega,by omega,rfl,by simpa using dh,h⟩
   ·refine aJ (by simp;omega) ?_;refine h.FL (s:=⟨s.a,s.len+2,s.cap⟩) (y:=ov) 0 rfl (by omega) (by rw [ak7];omega) bn rfl rfl rfl fun w7 h=>?_;rw [ak7] at h;refine⟨s.len+2 - (k+1),by omega,k+1,zs.set k ov,ts.set k ao,rfl,by rw [aI (by omega) (by omega)];omega,by omega,rfl,by simpa using Wi,by
     rw [amo (by omega),<-al3,hzd,al3],by
     rw [amo (by omega),<-al3,Iu,al3],h.trim 3⟩
 ·refine aJ (by simp;omega) ?_;have h:=(h.HB).ic (ts:= [ao]) [0] (by decide) rfl;have:=back (rest:= []) rfl rfl h;rw [alh] at this;exact hK w2 this
theorem Gn (h:Hp S w0 w ae) (i:Nat) {b:Nat} {a:WA} (hi:ae[i]? =some (tW b a)) {K:Sl->World->Prop}
  (hK: ∀r w',Hp S w0 w' (ae++ [aK r a.ks])->K r w'):c45 (some ⟨b,0,none⟩) w K:=by
 refine Tz ?_;unfold f45;obtain⟨O,h1,back⟩:=h.f1 hi rfl;clear h;obtain⟨q,aT,ht,hk,h⟩:=gf h1;have ig:=aT.len;have cO:(kinds q.xs).length=q.xs.length:=by simp [kinds]
 have uV:q.xs.length<=12:=by rw [hk] at cO;omega
 have h4: ∀x∈q.xs,x.2.2.length<=4:=fun x hx=>aT.four (x.1,x.2.2) (by rw [<-hk];exact alu.2 ⟨x,hx,rfl⟩);refine aS ?_;refine h.bE (k:=.sl) (x:=q.sk) 0 rfl rfl ?_;refine oK h 2 3 (s:=q.sk) (xs:=q.xs) rfl rfl (by omega) (fun x hx=>by have:=h4 x hx;omega) fun r ys w3 sJ h=>?_;have h:Hp O w w3 [q.ra b,ao,aj q.sk 107 2 df q.xs,ak (q.xs.map tF),aD 149 q.pb a.m.ar,dW q.ms ct (Value.int .i64) a.m.aE,dW q.mt (Value.int .i64) pv (cz q.T),ak (q.T.map tT),aj r 107 2 df ys,ak (ys.map tF)]:=h;have h:=h.dv (i:=8) (j:=9) (e:=107) (n:=2) (cells:=df) (sub:=tF) (vis:=mw) (s:=r) (xs:=ys) (l:=a.ks) (by decide) rfl rfl (by rw [<-hk];exact sJ);have h:Hp O w w3 (q.all b a.m ao++ [aK r a.ks]++ [ao]):=h;have h:=h.front;exact hK r w3 (qu hi back (rest:= [aK r a.ks]) rfl (dT (u:=ao) (m:=a.m) (q:=q) (rest:= [_]) aT ht hk rfl rfl h))
theorem CN {w:World} {O:List Nat} {s:Sl} {l:KD} (h:(aK s l).holds w O):yc w s l:=by
 obtain⟨xs,hx,O1,O2,h1,h2,h3,h4⟩:=h;refine⟨xs,O,hx,fun k hk=>?_,⟨O1,cq.toR h1,fun k hk=>(h4 k).2 (.inl hk)⟩,fun x fI=>?_⟩
 ·rcases(h4 k).1 hk with hk | hk
  ·exact(aj s 107 2 df xs).lt h1 k hk
  ·exact(ak (xs.map tF)).lt h2 k hk
 ·obtain⟨k,hk,rfl⟩:=amd.1 fI;obtain⟨O3,O4,g1,_,_,g3⟩:=dk (k:=k) (t:=tF xs[k]) (by simp [hk]) h2;have g1:cq w xs[k].2.1 9 1 sv xs[k].2.2 O3:=g1;refine⟨?_,O3,cq.toR g1,fun q hq=>(h4 q).2 (.inr ((g3 q).2 (.inl hq)))⟩
  rcases g1.2 with ⟨_,q1,q2,_⟩ | ⟨_,_,_,_,_,_,q,_⟩
  ·omega
  ·exact q
abbrev uf (x:Int×Int):List Value:= [.int .i64 x.1,.int .i64 x.2]
theorem pT (x:Int×Int):(uf x).length=2:=rfl
theorem CO {l:List (Int×Int)} {k:Int}:k∈l.map (·.1)↔(ib l k).isSome=true:=by
 rw [jN,Option.isSome_map,List.find?_isSome];constructor
 ·intro h;obtain⟨x,hx,rfl⟩:=alu.1 h;exact⟨x,hx,by simp⟩
 ·rintro⟨x,hx,he⟩;exact alu.2 ⟨x,hx,by simpa using he⟩
theorem Y1 (h:Hp S w0 w ae) (i:Nat) {b:Nat} {g:Int->Option Int} {mt ty kt vt:TypeId} {K:Int->Prop} (hi:(ae[i]?).map aa.holds=some (dW b (Value.int .i64) (Value.int .i64) g).holds) (hm:Tryz.prog.underlying mt=some (.map kt vt))
  {xs:List (Int×Int)} (bJ:(xs.map (·.1)).Nodup) (hg: ∀s,g s=ib xs s) (hK:K (xs.length:Nat)):iH (.i .i64) Tryz.prog (Builtin.len_ #[mt] ty #[.map (some b)]) w K:=by
 obtain⟨O,l,⟨⟨es,clock,hb,p6,_⟩,_⟩,lL,tN⟩:=h.de hi;have j7: ∀w',Ext w w'->w'.heap[b]? =some (.map es clock):=fun w' he=>(he.2 b (als.1 hb).1).trans hb;have hk: ∀s,s∈l.map (·.1)↔s∈xs.map (·.1):=fun s=>by rw [CO,CO,tN,hg]
 have e1:=my _ _ lL (fun s hs=>(hk s).1 hs);have e2:=my _ _ bJ (fun s hs=>(hk s).2 hs);have e3:es.size=l.length:=by
  have:=congrArg List.length p6
  simpa using this
 simp only [alr] at e1 e2;refine⟨(xs.length:Nat),fun w' he=>?_,hK⟩;have:es.size=xs.length:=by omega
 simp [Builtin.len_,Sem.run_bind,run_underlying hm,Result.andThen_ok,MapKept.run_getObj_map (j7 w' he),Sem.run_pure,goInt,this,Kd.inj]
theorem nO (h:Hp S w0 w ae) (i j:Nat) {b:Nat} {g:Int->Option Int} {s:Sl} {xs:List (Int×Int)} {u:aa} (hi:(ae[i]?).map aa.holds=some (dW b (Value.int .i64) (Value.int .i64) g).holds) (hj:(ae[j]?).map aa.holds=some u.holds) (hu:Hp.Reads u s 2 uf xs)
  (hl:xs.length<=1000000000) (bJ:(xs.map (·.1)).Nodup) (hg: ∀s,g s=ib xs s) {K:Bool->World->Prop} (hK: ∀w',Hp S w0 w' ae->K true w'):c48 (some b) s w K:=by
 refine TD ?_;unfold f48;have fB:=h.dR j hj hu;refine Y1 h i hi qm bJ hg ?_;refine aJ (by simp;omega) ?_;refine⟨fun t mm w'=> ∃k:Nat,t=k /\ k<=xs.length /\ mm=xs.length - k /\ Hp S w0 w' ae,⟨xs.length,0,rfl,by omega,rfl,h⟩,?_⟩;clear h;rintro t mm w2 ⟨k,rfl,hk,rfl,h⟩;by_cases av:k < xs.length
 ·refine aL (by simp;omega) ?_;have hx:xs[k]? =some xs[k]:=by simp [av]
  have QK:g xs[k].1=some xs[k].2:=by
   rw [hg,jN];have:xs.find? (fun p=>decide (p.1=xs[k].1))=some xs[k]:=by
    rw [List.find?_eq_some_iff_getElem];refine⟨by simp,k,av,rfl,fun q hq=>?_⟩;simp only [Bool.not_eq_eq_eq_not,anK,decide_eq_false_iff_not];intro he;have hn:=amG.1 bJ q k (by simp;omega) (by simpa using av) hq;exact hn (by simpa using he)
   rw [this];rfl
  generalize xs[k]=x at hx QK;obtain⟨O,hO⟩:=h.de hj;obtain⟨o,hR⟩:=hu.rd hO;refine bO.ix pT hR (by omega) (x:=x) (by rw [ak7];exact hx) fun ad hc=>?_;refine dG (k:=.i .i64) (x:=x.1) (hc 0 (by omega)) rfl ?_;refine h.lookup (kd:=.i .i64) (vk:=fun x=>x) (z:=(0:Int)) i (k:=x.1) rfl hi qm tw nW.choose_spec.1 nW.choose_spec.2.1 (fun _=>rfl) ?_;rw [QK];refine aJ (by simp) ?_;refine bO.ix pT hR (by omega) (x:=x) (by rw [ak7];exact hx) fun ad hc=>?_;refine jB (k:=.i .i64) (x:=x.2) (hc 1 (by omega)) rfl ?_;refine aJ (by simp) ?_;exact⟨xs.length - (k+1),by omega,k+1,by rw [aI (by omega) (by omega)];omega,by omega,rfl,h⟩
 ·exact aJ (by simp;omega) (hK w2 h)
end
open FI (pk gK)
open FP (bu gL tU bV bQ tB bx dO eW gM Acc bH nq dJ jv kH)
theorem LC {m:ai} (hm:m.Ok) {e:bw}:e∈m.iG m.au.length↔m.is e.1 e.2=true:=by
 constructor
 ·intro he;obtain⟨h1,_⟩:=FI.mh m m.au.length;obtain⟨_,_,h2,h3⟩:=h1 e he;exact ai.kC.2 ⟨h2,h3⟩
 ·intro he;obtain⟨h1,h2⟩:=ai.kC.1 he;obtain⟨h3,h4⟩:=FI.jW hm h1;exact ya m h1 h2 h3 _ h4
theorem PW {n:Int} (h0:0<=n) (h1:n < 18446744073709551616): -9223372036854775808<=tU n /\ tU n<=9223372036854775807:=by
 unfold tU;split <;> omega
theorem PY {s:Nat} (h1:s < 18446744073709551616):u64.wrap ((BitVec.ofInt 64 (s:Int) &&& BitVec.ofInt 64 1).toNat:Nat)=((s % 2:Nat):Int):=by
 have e2:(BitVec.ofInt 64 (s:Int) &&& BitVec.ofInt 64 1).toNat=s % 2:=by
  rw [anI];have a1:(BitVec.ofInt 64 (s:Int)).toNat=s:=by rw [am5];omega
  have a2:(BitVec.ofInt 64 1).toNat=1:=by decide
  rw [a1,a2,Nat.and_one_is_mod]
 rw [e2,FP.rh];omega
section
variable {S:List Nat} {w0 w:World} {ae:List aa}
set_option maxHeartbeats 8000000 in
theorem Vk (h:Hp S w0 w ae) (j:Nat) {s:Sl} {l:KD} (hr:yc w s l) (hl:l.length<=10000000) (dL: ∀x∈l,x.1.size<=1000000000000 /\ ∀y∈x.2,y.size<=1000000000000)
  {u:aa} {b:Sl} {bs:List Int} (hj:ae[j]? =some u) (hu:Hp.Reads u b 1 ky bs) (hb:Bytes bs) (yM:bs.length<=9000000000000000) (eN:b.len<=b.cap) {K:Option Addr->Int->World->Prop}
  (hK:(cY l->gM bs 200 (dq bs 200).1 (dq bs 200).2 /\ ∀r1,qX bs=some r1->gM r1.2 200 (dq r1.2 200).1 (dq r1.2 200).2)->
   (∀a wb w',load l bs=(some a,0)->Hp S w0 w' (ae++ [tW wb a])->K (some ⟨wb,0,none⟩) 0 w') /\ (∀e w',load l bs=(none,e)->Hp S w0 w' ae->K none e w')):c19 s b w K:=by
 refine SY ?_;unfold f19;obtain⟨inf,q1,q2,q3,q4⟩:=FT.ku;have aiY:=hr.len;have gQ:=(ak6.1 hj).1;refine Rf h hr hl dL (fun hm wb w1 h=>?_) (fun hm w1 h=>?_)
 case refine_2=>
  refine aL rfl ((hK fun gG=>absurd gG hm).2 65 w1 ?_ h);unfold load;rw [if_pos hm]
 refine aJ (by simp) ?_;have hlen:1<=l.length /\ l.length<=12:=⟨hm.2.1,hm.2.2.1⟩;have gj: ∀{l':List aa},(ae++l')[j]? =some u:=fun{l'}=>by rw [ak9 gQ];exact hj
 refine sB h j gj hu hb yM eN fun au b2 one w2 l1 bs1 hR1 h hu1 Y2 n9 ai1 A7 Y3=>?_;refine sB h j (by rw [ale];exact gj) hu1 n9 (by omega) Y2 fun free b3 two w3 l2 Wo Y4 h hu2 Lw gO ai3 Ii aeq=>?_;have fin:=hK fun _=>⟨hR1,fun r1 ze=>by
  cases one with
  | true=>
   rw [(A7 rfl).1] at ze;rw [<-alm ze];exact Y4
  | false=>rw [Y3 rfl] at ze;cases ze⟩
 cases one with
 | false=>
  refine aL rfl (fin.2 64 w3 ?_ h.front.front.front);unfold load;rw [if_neg (by simpa using hm),Y3 rfl]
 | true=>
 obtain⟨A7,Bw⟩:=A7 rfl
 cases two with
 | false=>
  refine aL rfl (fin.2 64 w3 ?_ h.front.front.front);unfold load;rw [if_neg (by simpa using hm),A7];dsimp only;rw [aeq rfl]
 | true=>
 obtain⟨Ii,F8⟩:=Ii rfl;refine aJ (by simp) ?_;have g0: ∀{l:List aa} (k:Nat),(ae++l)[ae.length+k]? =l[k]? :=fun{l} k=>by rw [ak8 (by omega)];simp
 have s0: ∀{l:List aa} (k:Nat) (t:aa),(ae++l).set (ae.length+k) t=ae++l.set k t:=fun{l} k t=>by rw [alj _ _ (by omega)];simp
 have h:Hp S w0 w3 (ae++ [tW wb (WA.new l),aj au 3 1 iv l1,aj free 3 1 iv l2]):=by simpa using h
 have qx: ∀x,gK 200 l1 l2=x->load l bs=(match x with
   | none=>(none,64)
   | some m=>match eY l (m.iG m.au.length) Wo (fun _=>none) with
    | none=>(none,64)
    | some r=>if r.2= [] then (some ⟨l,m,r.1⟩,0) else (none,64)):=fun x hx=>by
  unfold load;rw [if_neg (by simpa using hm),A7];dsimp only;rw [Ii];dsimp only;rw [hx];try rfl
 refine FI.UZ h (ae.length+1) (ae.length+2) (u:=aj au 3 1 iv l1) (v:=aj free 3 1 iv l2) (by rw [g0];rfl) (by rw [g0];rfl) Hp.bZ Hp.bZ (by omega) (fun w4 QO h=>?_) (fun m Rn w4 QO h=>?_)
 ·-- no pool
  obtain⟨O,h1,back⟩:=h.f1 (i:=ae.length+0) (by rw [g0];rfl) rfl;obtain⟨q,aT,ht,hk,h2⟩:=gf h1;refine aS ?_;refine h2.st (n:=1) 0 rfl (by simp) rfl fun w5 h2=>?_;refine aL rfl (fin.2 64 w5 (by rw [qx _ QO]) ?_);have:=back (t':=ao) (rest:= []) rfl rfl (h2.HB.trim 1);rw [alh,s0] at this;exact this.front
 have h:Hp S w0 w4 (ae++ [tW wb (WA.new l)]++ [aj au 3 1 iv l1,aj free 3 1 iv l2]++ [aD 149 Rn m]):=by simpa using h
 have h:=h.cZ;have h:Hp S w0 w4 (ae++ [tW wb (WA.new l),aD 149 Rn m]):=by simpa using h
 obtain⟨O,h1,back⟩:=h.f2r (i:=ae.length+0) (i':=ae.length+1) (j:=j) (by omega) (by omega) (by omega) (by rw [g0];rfl) (by rw [g0];rfl) gj rfl rfl;clear h;obtain⟨PZ,KA⟩:=FI.KN QO;obtain⟨q,ai4,ht0,Es,h⟩:=gf h1;have qx:=qx _ QO;dsimp only at qx;have E6:Hp.Reads u.ro b3 1 ky Wo:=⟨fun{w O} h=>hu2.rd h⟩;refine aS ?_;refine h.st (n:=1) 0 rfl (by simp) rfl fun w5 h=>?_;refine aJ (by simp) ?_;have h:=h.ic [0,1,2,3,8,5,6,7,9] (by decide) (ts:=({ q with pb:=Rn}:WH).all wb ⟨l,m,fun _=>none,[]⟩ ao++ [u.ro]) rfl;refine aS ?_;refine h.ld (n:=1) (k:=.p) (x:=some ⟨Rn,0,none⟩) 0 rfl rfl ?_;refine FI.QT h 4 (m:=m) PZ.toOk rfl fun r2 w6 h=>?_;have h:=h.up (A:=({ q with pb:=Rn}:WH).all wb ⟨l,m,fun _=>none,[]⟩ ao);have zG:=h.len (s:=r2) 8 rfl;have Vl:(m.iG m.au.length).length<=200:=by
  have h1:=ai.kz m m.au.length;have h2:=PZ.toOk.fZ;omega
 have bJ:(m.iG m.au.length).Nodup:=by
  rw [amq];refine List.Pairwise.imp (fun{x y} h e=>?_) (FI.mh m m.au.length).2;rw [e] at h;omega
 have dF: ∀e,e∈m.iG m.au.length↔m.is e.1 e.2=true:=fun e=>LC PZ.toOk;generalize m.iG m.au.length=es at qx h zG Vl bJ dF ⊢;have E7:kinds ({ q with pb:=Rn}:WH).xs=l:=Es;have WX:dS l (fun _=>none) (fun e=>((fun _=>none:bw->Option PL) e).map aA) ({ q with pb:=Rn}:WH).bS:=ht0;generalize ({ q with pb:=Rn}:WH)=q' at h E7 WX;refine⟨fun b4 t62 mm w'=> ∃(k:Nat) (cur:List Int) (row:bw->Option PL) (q:WH),t62=k /\ k<=es.length /\ mm=es.length - k /\ eY l (es.drop k) cur row=eY l es Wo (fun _=>none) /\ dS l row (fun e=>(row e).map aA) q.bS /\ kinds q.xs=l /\ (∀e,(row e).isSome=true↔e∈es.take k) /\ (∀e p,row e=some p->eW (flat p)) /\
   Hp.Reads u.ro b4 1 ky cur /\ b4.len<=b4.cap /\ Bytes cur /\ cur.length<=bs.length /\ Hp O w4 w' (q.all wb ⟨l,m,fun e=>(row e).map aA,[]⟩ ao++ [aj r2 33 2 fo es,u.ro]),
  ⟨es.length,0,Wo,fun _=>none,q',rfl,by omega,rfl,rfl,WX,E7,by simp,by simp,E6,Lw,gO,by omega,h⟩,?_⟩
 clear h WX E7;rintro b4 t62 mm w7 ⟨k,cur,row,q',rfl,hk,rfl,gH,ht,E7,e9,PJ,Be,agr,F4,vy,h⟩;have bad: ∀{w':World} {ts:List aa},Hp O w4 w' ts->eY l es Wo (fun _=>none)=none \/ (∃r,eY l es Wo (fun _=>none)=some r /\ r.2≠ [])->K none 64 w':=fun{w' ts} h rW=>by
  refine fin.2 64 w' ?_ ?_
  ·rw [qx]
   rcases rW with rW | ⟨r,hr,aW⟩
   ·rw [rW]
   ·rw [hr];dsimp only;rw [if_neg aW]
  ·have h2:=h.HB.HB.trim 2;have:=back (t':=ao) (u':=ao) (rest:= []) rfl rfl rfl h2;rw [alh,s0,s0] at this;exact this.front
 have Ro:=h.dR (u:=u.ro) 9 rfl Be;have cO:(kinds q'.xs).length=q'.xs.length:=by simp [kinds]
 have uV:q'.xs.length<=12:=by rw [E7] at cO;omega
 have mJ: ∀x∈l,x.2.length<=4:=fun x hx=>(hm.1 x hx).1;have h4: ∀x∈q'.xs,x.2.2.length<=4:=fun x hx=>mJ (x.1,x.2.2) (by rw [<-E7];exact alu.2 ⟨x,hx,rfl⟩);by_cases av:k < es.length
 ·refine aL (by simp;omega) ?_;have hx:es[k]? =some es[k]:=by simp [av]
  have Cf:es.drop k=es[k] :: es.drop (k+1):=al0 av;have dU:es.take (k+1)=es.take k++ [es[k]]:=alp av;have Aq:es[k] ∉ es.take k:=fun QZ=>by
   obtain⟨j0,Y5⟩:=aly QZ;have Y6:=(ak6.1 Y5).1;rw [alU] at Y5
   split at Y5
   ·have:=(amh (i:=j0) (j:=k) (l:=es) (by simp at Y6;omega) bJ).1 (by rw [Y5,hx]);simp at Y6;omega
   ·cases Y5
  generalize es[k]=e at hx Cf dU Aq;rw [Cf] at gH;refine h.rf (s:=r2) (l:=es) (f:=fo) (n:=2) (e:=33) 8 rfl (by omega) (by rw [ak7];exact hx) cu fun ad hc=>?_;refine dG (k:=.i .i64) (x:=e.1) (hc 0 (by omega)) rfl ?_;refine jB (k:=.i .i64) (x:=e.2) (hc 1 (by omega)) rfl ?_;refine h.nw (c:= [_,_]) fun xb w8 h=>?_;have h:=h.up (A:=q'.all wb ⟨l,m,fun e=>(row e).map aA,[]⟩ ao);refine h.gz 8 rfl (by simp) rfl fun w9 h=>?_;refine h.st (n:=1) 8 rfl (by simp) rfl fun nK h=>?_;have h:Hp O w4 nK (q'.all wb ⟨l,m,fun e=>(row e).map aA,[]⟩ ao++ [af xb 33 [.int .i64 e.1,.int .i64 e.2],aj r2 33 2 fo es,u.ro]):=h;refine FP.xI h 10 (u:=u.ro) rfl Be F4 (by omega) ?_;have hgr:=dJ F4;have aes:=gH;rw [eY] at gH;generalize hgu:bH cur=gu at hgr gH ⊢;obtain⟨set,sz⟩:=gu;dsimp only at hgr gH ⊢;obtain⟨s0',s1',z0,z1,z10,_⟩:=hgr;refine⟨fun w'=> ¬(sz=0 \/ set % 2=1 \/ set / 2 ^ (l.length+1)≠0) /\ w'=nK,?_,?_⟩
  ·by_cases hz:sz=0
   ·refine aL (by simp [hz]) (bad h (.inl ?_));rw [<-gH,if_pos (.inl hz)]
   refine aJ (by simpa using hz) ?_;obtain⟨sn,rfl⟩: ∃sn:Nat,set=sn:=⟨set.toNat,by omega⟩;rw [PY (by omega)];by_cases aet:sn % 2=1
   ·refine aL (by simp [aet]) (bad h (.inl ?_));rw [<-gH,if_pos (.inr (.inl (by omega)))]
   refine aJ (by simp;omega) ?_;have Wp:i64.wrap ((s.len:Int)+1)=((l.length+1:Nat):Int):=by rw [aI (by omega) (by omega)];omega
   rw [Wp,ak7,show min (l.length+1) 64=l.length+1 by omega];refine⟨by omega,?_⟩;have hfd:Int.fdiv (sn:Int) (2 ^ (l.length+1))=(sn:Int) / 2 ^ (l.length+1):=am3 _ (by exact_mod_cast Nat.zero_le _);rw [hfd];by_cases AS:(sn:Int) / 2 ^ (l.length+1)=0
   ·refine aJ (by simp [AS]) ⟨?_,rfl⟩;rintro(h | h | h)
    ·exact hz h
    ·omega
    ·exact h AS
   ·refine aL (by simpa using AS) (bad h (.inl ?_));rw [<-gH,if_pos (.inr (.inr AS))]
  rintro w' ⟨oJ,rfl⟩;rw [if_neg oJ] at gH;simp only [not_or,Decidable.not_not] at oJ;obtain⟨hz,hev,AS⟩:=oJ;have aeu:set < 8192:=by
   obtain⟨sn,rfl⟩: ∃sn:Nat,set=sn:=⟨set.toNat,by omega⟩;have e:((sn:Int) / 2 ^ (l.length+1))=((sn / 2 ^ (l.length+1):Nat):Int):=by simp
   rw [e] at AS;have:sn < 2 ^ (l.length+1):=by
    rcases anA sn (2 ^ (l.length+1)) with h | h
    ·exact h
    ·have:=Nat.div_pos h (Nat.two_pow_pos _);omega
   have:=amV this (am0 (n:=2) (by omega) (show l.length+1<=13 by omega));omega
  refine Hp.nU (s:=b4) Be Ro cE (by omega) (by omega) (by omega) (al4 _) (by omega) fun b5 Y7 E8 Y8=>?_;have e1:(cur.take ((b4.len:Nat):Int).toNat).drop sz.toNat=cur.drop sz.toNat:=by rw [ak7,aln (by omega)]
  rw [e1] at Y7;have Y9:b5.len<=b5.cap:=by rw [E8,Y8];omega
  have Wp:i64.wrap ((s.len:Int)+1)=((q'.xs.length+1:Nat):Int):=by rw [<-cO,E7,aI (by omega) (by omega)];omega
  rw [Wp,aI (n:=set) (by omega) (by omega)];refine jQ h 0 2 3 (cells:= [_,_,_]) rfl rfl rfl uV h4 s0' (by omega) (q:=q'.xs.length) (alA _) ?_;rw [E7,<-cO,E7];have ai6:=fD mJ set l.length;have h:=(h.nil 2 1 iv).up (A:=q'.all wb ⟨l,m,fun e=>(row e).map aA,[]⟩ ao);refine⟨fun b6 values t96 m3 w'=> ∃(n:Nat) (fa vs:List Int),t96=n /\ n<=gd l set l.length /\ m3=gd l set l.length - n /\ vs.length=n /\ iC (gd l set l.length) (cur.drop sz.toNat)=(iC (gd l set l.length - n) fa).map (fun r=>(vs++r.1,r.2)) /\ eW vs /\
    Hp.Reads u.ro b6 1 ky fa /\ b6.len<=b6.cap /\ Bytes fa /\ fa.length<=bs.length /\ Hp O w4 w' (q'.all wb ⟨l,m,fun e=>(row e).map aA,[]⟩ ao++ [aj values 2 1 iv vs,af xb 33 [.int .i64 e.1,.int .i64 e.2],aj r2 33 2 fo es,u.ro]),
   ⟨gd l set l.length,0,cur.drop sz.toNat,[],rfl,by omega,rfl,rfl,by simp,(fun x hx=>by cases hx),Y7,Y9,(fun x hx=>F4 x (anJ hx)),by rw [alT];omega,h⟩,?_⟩
  clear h;rintro b6 values t96 m3 qo ⟨n,fa,vs,rfl,hn,rfl,gJ,k6,qv,P0,Za,hb6,aev,h⟩;have Vm:=h.dR (u:=u.ro) 11 rfl P0;have ai7:=h.len (s:=values) 8 rfl;by_cases ai8:n < gd l set l.length
  ·refine aL (by simp;omega) ?_;refine FP.Cs h 11 (u:=u.ro) rfl P0 hb6 (by omega) ?_;have aew:=dJ hb6;obtain⟨aex,aey,y0,y1,y10,_⟩:=aew;have hgi:nq fa=(tU (bH fa).1,(bH fa).2):=rfl;have RM:gd l set l.length - n=(gd l set l.length - (n+1))+1:=by omega
   rw [RM,iC] at k6;by_cases Wq:(nq fa).2=0
   ·refine aL (by simp [Wq]) (bad h (.inl ?_));rw [if_pos Wq] at k6;rw [<-gH,k6];rfl
   ·refine aJ (by simpa using Wq) ?_;rw [if_neg Wq] at k6;refine h.dr fun vB h=>?_;have hy:(nq fa).2=(bH fa).2:=rfl;refine Hp.nU (s:=b6) P0 Vm cE (by omega) (by omega) (by omega) (al4 _) (by omega) fun b7 Zb Zc hc7=>?_;have e2:(fa.take ((b6.len:Nat):Int).toNat).drop (nq fa).2.toNat=fa.drop (nq fa).2.toNat:=by rw [ak7,aln (by omega)]
    rw [e2] at Zb;refine h.cj 8 ((nq fa).1) (c:= [_]) rfl aB FT.eS q1 q3 q2 rfl rfl (by simp [iv,Value.oneCell']) (by rw [q4];omega) (by omega) fun vO Dm h _ _=>?_;refine⟨gd l set l.length - (n+1),by omega,n+1,fa.drop (nq fa).2.toNat,vs++ [(nq fa).1],by rw [aI (by omega) (by omega)];omega,by omega,rfl,by simp [gJ],?_,?_,Zb,by rw [Zc,hc7];omega,(fun x hx=>hb6 x (anJ hx)),by rw [alT];omega,h⟩
    ·rw [k6,Option.map_map];congr 1
     funext r
     simp
    ·intro x hx
     rcases alg.1 hx with hx | hx
     ·exact qv x hx
     ·simp only [ali] at hx;subst hx;rw [hgi];exact PW aex aey
  ·refine aJ (by simp;omega) ?_;obtain rfl:n=gd l set l.length:=by omega
   rw [alK,iC] at k6;have k6:iC (gd l set l.length) (cur.drop sz.toNat)=some (vs,fa):=by rw [k6];simp
   rw [k6] at gH;dsimp only at gH;have yR:=Ls gJ;have yw:=Lt gJ;have Wf:=Lu (v:=vs) hlen.2 s0' (by omega) AS;generalize vF l set vs=p at gH yR yw Wf;refine h.bE (k:=.i .i64) (x:=e.1) 9 rfl rfl ?_;refine h.ld (n:=1) (k:=.i .i64) (x:=e.2) 9 rfl rfl ?_;have Lj:row e=none:=by
    cases hr:row e with
    | none=>rfl
    | some p0=>exact absurd ((e9 e).1 (by rw [hr];rfl)) Aq
   have Lk: ∀L:List bw,L.Nodup->(∀x∈L,(row x).isSome=true)->L.length < 200:=fun L V8 hL=>by
    have:=xO PZ.toOk (L:=e :: L) (by
     rw [al6];exact⟨fun QZ=>(by have:=hL _ QZ;rw [Lj] at this;cases this),V8⟩) (fun x hx=>by
     rcases alF.1 hx with rfl | hx
     ·exact(dF _).1 (ala (by assumption))
     ·exact(dF x).1 (ank ((e9 x).1 (hL x hx))))
    simp only [alQ] at this;omega
   have h:=kJ h;rw [<-yR] at h;rw [<-Wf];refine pS h (row:=row) (e:=e) (p:=p) (by rw [E7];exact ht) (by rw [E7];exact hm) Lj (by rw [E7];exact yw) Lk Hp.bZ fun T' vB BM h=>?_;have h:Hp O w4 vB (({ q' with T:=T'}:WH).all wb ⟨l,m,aG (fun e=>(row e).map aA) e (some (aA p)),[]⟩ (aj values 2 1 iv (flat p))++(ao :: [af xb 33 [.int .i64 e.1,.int .i64 e.2],aj r2 33 2 fo es,u.ro])):=h;have h:=kJ h;have h:Hp O w4 vB (({ q' with T:=T'}:WH).all wb ⟨l,m,aG (fun e=>(row e).map aA) e (some (aA p)),[]⟩ ao++ [aj values 2 1 iv (flat p),af xb 33 [.int .i64 e.1,.int .i64 e.2]]++ [aj r2 33 2 fo es,u.ro]):=h;have h:=h.cZ;have Dh:aG (fun e=>(row e).map aA) e (some (aA p))=fun x=>(aG row e (some p) x).map aA:=(eX row e (some p)).symm;rw [Dh] at h;refine⟨es.length - (k+1),by omega,k+1,fa,aG row e (some p),{ q' with T:=T'},by rw [aI (by omega) (by omega)];omega,by omega,rfl,?_,?_,E7,fun x=>?_,fun x p' Mq=>?_,P0,Za,hb6,aev,h⟩
   ·rw [<-gH]
   ·rw [<-Dh];have:=BM;rw [E7] at this;exact this
   ·rw [dU];unfold aG;by_cases KY:x=e
    ·rw [if_pos KY];simp [KY]
    ·rw [if_neg KY,e9 x];simp [KY]
   ·unfold aG at Mq
    split at Mq
    ·obtain rfl:=alm Mq;rw [yR];exact qv
    ·exact PJ x p' Mq
 ·refine aJ (by simp;omega) ?_;have bL:k=es.length:=by omega
  subst bL;rw [amb (alA _),eY] at gH;rw [amB] at e9;by_cases hcz:cur= []
  ·refine aJ (by simp;rw [<-Ro,hcz];rfl) ?_;have aeA:load l bs=(some ⟨l,m,row⟩,0):=by rw [qx,<-gH];dsimp only;rw [if_pos hcz]
   have aeB:WA.Ok ⟨l,m,row⟩:=⟨PZ,KA,hm,(fun e=>by
    have h1:=e9 e;have h2:=dF e;show (row e).isSome=m.is e.1 e.2
    cases ha:(row e).isSome with
    | true=>exact(h2.1 (h1.1 ha)).symm
    | false=>
     cases hb:m.is e.1 e.2 with
     | false=>rfl
     | true=>rw [h1.2 (h2.2 hb)] at ha;cases ha),PJ⟩
   refine fin.1 _ wb w7 aeA ?_;have h:Hp O w4 w7 (q'.all wb ⟨l,m,fun e=>(row e).map aA,[]⟩ ao++ [aj r2 33 2 fo es,u.ro]):=h;have h2:=dT (u:=ao) (m:=⟨l,m,fun e=>(row e).map aA,[]⟩) (q:=q') (b:=wb) (a:=⟨l,m,row⟩) (rest:= []) aeB ht E7 rfl rfl (by rw [alh];exact h.front);have h3:=h2.grow (Fr.refl _ _) (t:=ao) (O:= []) rfl (by simp) rfl;have:=back (t':=tW wb ⟨l,m,row⟩) (u':=ao) (rest:= []) rfl rfl rfl h3;rw [alh,s0,s0] at this;have this:Hp S w0 w7 (ae++ [tW wb ⟨l,m,row⟩]++ [ao]):=by simpa using this
   exact this.front
  ·have jK:0 < cur.length:=List.length_pos_iff.2 hcz;refine aL (by simp;omega) (bad h (.inr ⟨(row,cur),gH.symm,hcz⟩))
end
end Go.Proofs.YtcccjgmekakabaaGreat.FW
end

section
namespace Go.Proofs.YtcccjgmekakabaaGreat.FI
open F
open Go Go.Den Go.Proofs
section
variable {S:List Nat} {w0 w:World} {ae:List aa}
theorem Vn (h:Hp S w0 w ae) {n:Int} (h1:1<=n) (h2:n<=200) {K:Option Addr->Int->World->Prop} (hK: ∀b w',Hp S w0 w' (ae++ [aD 177 b ⟨n,[],[],[]⟩])->K (some ⟨b,0,none⟩) 0 w'):c77 n w K:=by
 refine T9 ?_;unfold f77;have n1: ¬n < 1:=by omega
 have n2: ¬n > 200:=by omega
 refine aJ (by simp [n1,n2]) ?_;refine(Hp.oE w).nw (c:= [_,_,_,_]) fun b w1 h1=>?_;have h1:=h1.nil 3 1 iv;have h1:=h1.nil 4 1 bv;have h1:=h1.nil 3 1 iv;exact hK b w1 (h.r0 rfl (gX (m:=⟨n,[],[],[]⟩) (sg:=⟨none,0,0⟩) (sa:=⟨none,0,0⟩) (sf:=⟨none,0,0⟩) (rest:= []) h1))
theorem zS {m:ai} (hm:m.Ok) {i:Int} (h0:0<=i) (h1:i < m.au.length):m.alive[i.toNat]? =some (m.bD i):=by
 have hl:i.toNat < m.alive.length:=by rw [hm.len];omega
 simp [ai.bD,h0,hl]
theorem yf {m:ai} {i:Int} (h0:0<=i) (h1:i < m.au.length):m.au[i.toNat]? =some (m.gen i):=by
 have hl:i.toNat < m.au.length:=by omega
 simp [ai.gen,hl]
theorem zT {m:ai} (hm:m.Ok) {i:Int} (h: ¬(0<=i /\ i < m.au.length)):m.bD i=false:=by
 cases hl:m.bD i with
 | false=>rfl
 | true=>exact absurd (jW hm hl) h
theorem LF (h:Hp S w0 w ae) (i:Nat) {b:Nat} {m:ai} (hm:m.Ok) (hi:(ae[i]?).map aa.holds=some (aD 177 b m).holds) {x g:Int} {K:Bool->World->Prop}
  (hK: ∀w',Hp S w0 w' ae->K (m.is x g) w'):Sf (some ⟨b,0,none⟩) x g w K:=by
 refine Oc ?_;unfold f129;obtain⟨sg,sa,sf,h1⟩:=rX h i hi;have hl:=h1.len 1 rfl;have fin: ∀{w':World} {q:Bool},Hp [] w w' []->q=m.is x g->K q w':=fun hf hq=>by
  rw [hq];exact hK _ (h.cn hf.fr)
 refine h1.nw (c:= [_,_]) fun e w1 h1=>?_;refine h1.dr fun w1 h1=>?_;refine h1.bE (x:=x) 4 rfl rfl ?_;by_cases c0:0<=x
 ·refine aL (by simpa using c0) ?_;refine h1.bE (x:=x) 4 rfl rfl ?_;refine aS ?_;refine h1.ld (x:=sg) 0 rfl rfl ?_;by_cases c1:x < (m.au.length:Int)
  ·refine aL (by simp;omega) ?_;refine aS ?_;refine h1.ld (x:=sa) 0 rfl rfl ?_;refine h1.bE (x:=x) 4 rfl rfl ?_;refine h1.fz (k:=.b) (x:=m.bD x) 2 rfl c0 (zS hm c0 c1) oL rfl ?_
   cases k6:m.bD x with
   | true=>
    refine aL rfl ?_;refine aS ?_;refine h1.ld (x:=sg) 0 rfl rfl ?_;refine h1.bE (x:=x) 4 rfl rfl ?_;refine h1.fz (k:=.i .i64) (x:=m.gen x) 1 rfl c0 (yf c0 c1) aB rfl ?_;refine h1.ld (x:=g) 4 rfl rfl ?_;exact fin (h1.trim 0) (by simp [ai.is,k6])
   | false=>exact aJ (by simp) (fin (h1.trim 0) (by simp [ai.is,k6]))
  ·exact aJ (by simp;omega) (fin (h1.trim 0) (by simp [ai.is,zT hm (i:=x) (by omega)]))
 ·exact aJ (by simpa using c0) (fin (h1.trim 0) (by simp [ai.is,zT hm (i:=x) (by omega)]))
theorem P3 (h:Hp S w0 w ae) (i:Nat) {b:Nat} {m:ai} (hl:m.free.length<=1000000000) (hi:(ae[i]?).map aa.holds=some (aD 177 b m).holds) {x:Int} {K:Bool->World->Prop}
  (hK:K (decide (x∈m.free)) w):Sz (some ⟨b,0,none⟩) x w K:=by
 refine OJ ?_;unfold f158;obtain⟨sg,sa,sf,h1⟩:=rX h i hi;have dQ:=h1.len 3 rfl;refine⟨fun t mm w'=> ∃k:Nat,t=k /\ k<=m.free.length /\ mm=m.free.length - k /\ x ∉ m.free.take k /\ w'=w,⟨m.free.length,0,rfl,by omega,rfl,by simp,rfl⟩,?_⟩;rintro t mm w2 ⟨k,rfl,hk,rfl,dz,rfl⟩;refine aS ?_;refine h1.ld (x:=sf) 0 rfl rfl ?_;by_cases av:k < m.free.length
 ·refine aL (by simp;omega) ?_;refine aS ?_;refine h1.ld (x:=sf) 0 rfl rfl ?_;refine h1.fz (k:=.i .i64) (y:=m.free[k]) (x:=m.free[k]) 3 rfl (by omega) (by simp [av]) aB rfl ?_;by_cases he:m.free[k]=x
  ·refine aL (by simpa using he) ?_;have:x∈m.free:=he ▸ alz av;rw [decide_eq_true this] at hK;exact hK
  ·refine aJ (by simpa using he) ?_;refine⟨m.free.length - (k+1),by omega,k+1,by rw [aI (by omega) (by omega)];omega,by omega,rfl,?_,rfl⟩;rw [amH,alf av];simp only [Option.toList_some,alg,ali,not_or];exact⟨dz,fun h=>he h.symm⟩
 ·refine aJ (by simp;omega) ?_;rw [aln (by omega)] at dz;rw [decide_eq_false dz] at hK;exact hK
end
section
variable {S:List Nat} {w0 w:World} {ae:List aa}
theorem P4 (h:Hp S w0 w ae) (i:Nat) {b:Nat} {m:ai} (hm:m.Ok) (hi:ae[i]? =some (aD 177 b m)) {K:Int->Int->Int->World->Prop}
  (hK: ∀w',Hp S w0 w' (ae.set i (aD 177 b m.bG.1))->K m.bG.2.1.1 m.bG.2.1.2 m.bG.2.2 w'):Sg (some ⟨b,0,none⟩) w K:=by
 refine Og ?_;unfold f133;obtain⟨O,h1,back⟩:=h.f1 hi rfl;obtain⟨sg,sa,sf,h1⟩:=zA h1 (i:=0) rfl;have tN:=h1.len 1 rfl;have ig:=h1.len 2 rfl;have dh:=h1.len 3 rfl;have hfc:=h1.cap 3 rfl;have Ce:=hm.fZ;have hlen:=hm.len;unfold ai.bG at hK;refine h1.nw (c:= [_,_]) fun a w1 h1=>?_;refine aS ?_;refine h1.ld (x:=sf) 0 rfl rfl ?_
 cases hf:m.free with
 | cons x rest=>
  simp only [hf] at hK;rw [hf] at h1 dh;simp only [alQ] at dh;obtain⟨x0,x1,x2,x3⟩:=hm.free x (by rw [hf];simp);refine aL (by simp;omega) ?_;refine aS ?_;refine h1.ld (x:=sf) 0 rfl rfl ?_;refine h1.fz (k:=.i .i64) (y:=x) (x:=x) 3 rfl (by omega) rfl aB rfl ?_;refine aS ?_;refine h1.ld (x:=sf) 0 rfl rfl ?_;refine h1.cut 3 (s:=sf) rfl aB (by omega) (by omega) (by omega) (by omega) (by omega) fun s h1 fB Mz _=>?_;have e0:((x :: rest).take ((sf.len:Int)).toNat).drop (1:Int).toNat=rest:=by
   rw [aln (by simp;omega)];rfl
  rw [e0] at h1;refine aS ?_;refine h1.st 0 rfl (by simp) rfl fun w1 h1=>?_;refine aS ?_;refine h1.ld (x:=sg) 0 rfl rfl ?_;refine h1.fz (k:=.i .i64) (x:=m.gen x) 1 rfl x0 (yf x0 x1) aB rfl ?_;refine h1.mW 1 rfl x0 (by omega) aB (y:=i64.wrap (m.gen x+1)) rfl rfl fun w1 h1=>?_;have lK:=hm.gen x0 x1;have ew:i64.wrap (m.gen x+1)=m.gen x+1:=aI (by omega) (by omega);rw [ew] at h1;refine aS ?_;refine h1.ld (x:=sa) 0 rfl rfl ?_;refine h1.mW 2 rfl x0 (by omega) oL (y:=true) rfl rfl fun w1 h1=>?_;refine aS ?_;refine h1.ld (x:=sg) 0 rfl rfl ?_;refine h1.fz (k:=.i .i64) (y:=m.gen x+1) (x:=m.gen x+1) 1 rfl x0 (by rw [alx (by omega)]) aB rfl ?_;simp only [alI,alO,alq,alG] at h1;refine h1.gz 4 rfl (by simp) rfl fun w1 h1=>?_;refine h1.st 4 rfl (by simp) rfl fun w1 h1=>?_;refine h1.bE (x:=x) 4 rfl rfl ?_;refine h1.ld (x:=m.gen x+1) 4 rfl rfl ?_;have h3:=back (t':=aD 177 b (m.cS x rest)) (rest:= []) rfl rfl (gX (m:=m.cS x rest) (rest:= []) (h1.GZ 0 1 2 3 (by decide) rfl rfl rfl rfl));rw [alh] at h3;exact hK _ h3
 | nil=>
  simp only [hf] at hK;rw [hf] at dh;simp only [amF] at dh;refine aJ (by simp;omega) ?_;refine h1.dr fun w1 h1=>?_;refine aS ?_;refine h1.ld (x:=sg) 0 rfl rfl ?_;refine aS ?_;refine h1.bE (x:=m.aO) 0 rfl rfl ?_;by_cases hl:(m.au.length:Int) < m.aO
  ·simp only [if_pos hl] at hK;refine aJ (by simp;omega) ?_;obtain⟨inf,q1,q2,q3,q4⟩:=nW;obtain⟨KI,r1,r2,r3,r4⟩:=Ev;refine aS ?_;refine h1.ld (x:=sg) 0 rfl rfl ?_;refine h1.cj (c:= [_]) 1 1 rfl aB eM q1 q3 q2 rfl rfl (by simp [iv,Value.oneCell']) (by rw [q4];omega) (by omega) fun s2 w1 h1 pM _=>?_;refine aS ?_;refine h1.st 0 rfl (by simp) rfl fun w1 h1=>?_;refine aS ?_;refine h1.ld (x:=sa) 0 rfl rfl ?_;refine h1.cj (c:= [_]) 2 true rfl oL qm r1 r3 r2 rfl rfl (by simp [bv,Value.oneCell']) (by rw [r4];omega) (by omega) fun s3 w1 h1 US _=>?_;refine aS ?_;refine h1.st 0 rfl (by simp) rfl fun w1 h1=>?_;refine aS ?_;refine h1.ld (x:=s2) 0 rfl rfl ?_;simp only [alI,alO,alq,alG] at h1;have ew:i64.wrap ((s2.len:Int) - 1)=m.au.length:=by rw [aI (by omega) (by omega)];omega
   rw [ew];refine h1.gz 4 rfl (by simp) rfl fun w1 h1=>?_;refine h1.st 4 rfl (by simp) rfl fun w1 h1=>?_;refine h1.bE (x:=(m.au.length:Int)) 4 rfl rfl ?_;refine h1.ld (x:=(1:Int)) 4 rfl rfl ?_;have h4:=h1.GZ 0 1 2 3 (by decide) rfl rfl rfl rfl;have h3:=back (t':=aD 177 b m.dy) (rest:= []) rfl rfl (gX (m:=m.dy) (rest:= []) h4);rw [alh] at h3;exact hK _ h3
  ·simp only [if_neg hl] at hK;refine aL (by simp;omega) ?_;refine h1.gz 4 rfl (by simp) rfl fun w1 h1=>?_;refine h1.st 4 rfl (by simp) rfl fun w1 h1=>?_;refine h1.bE (x:=(0:Int)) 4 rfl rfl ?_;refine h1.ld (x:=(0:Int)) 4 rfl rfl ?_;simp only [alI,alO,alq,alG] at h1;have h4:=h1.GZ 0 1 2 3 (by decide) rfl rfl rfl rfl;have h3:=back (t':=aD 177 b m) (rest:= []) rfl rfl (gX (m:=m) (rest:= []) h4);rw [alh] at h3;exact hK _ h3
theorem P5 (h:Hp S w0 w ae) (i:Nat) {b:Nat} {m:ai} (hm:m.Ok) (hi:ae[i]? =some (aD 177 b m)) {x g:Int} {K:Int->World->Prop}
  (hK: ∀w',Hp S w0 w' (ae.set i (aD 177 b (m.mi x g).1))->K (m.mi x g).2 w'):c73 (some ⟨b,0,none⟩) x g w K:=by
 refine T5 ?_;unfold f73;have Ce:=hm.fZ;have hlen:=hm.len;have Zd:=Ok.vY hm;obtain⟨O,h1,back⟩:=h.f1 hi rfl;refine h1.nw (c:= [_,_]) fun e w1 h1=>?_;refine h1.bE (x:=x) 1 rfl rfl ?_;refine h1.ld (x:=g) 1 rfl rfl ?_;refine LF h1 0 hm rfl fun w1 h1=>?_;unfold ai.mi at hK
 cases sW:m.is x g with
 | false=>
  simp only [sW,amk,if_false] at hK;refine aL rfl ?_;have h3:=back (rest:= []) rfl rfl (h1.rQ 0 rfl);rw [alh] at h3;exact hK _ h3
 | true=>
  simp only [sW,if_true] at hK;refine aJ (by simp) ?_;obtain⟨k6,hg⟩:=ai.kC.1 sW;obtain⟨x0,x1⟩:=jW hm k6;refine h1.dr fun w1 h1=>?_;obtain⟨sg,sa,sf,h1⟩:=zA h1 (i:=0) rfl;have dh:=h1.len 4 rfl;simp only [alI,alO,alq,alG] at h1;refine aS ?_;refine h1.ld (x:=sa) 0 rfl rfl ?_;refine h1.bE (x:=x) 1 rfl rfl ?_;refine h1.mW 3 rfl x0 (by omega) oL (y:=false) rfl rfl fun w1 h1=>?_;refine h1.ld (x:=g) 1 rfl rfl ?_;by_cases hgm:g < 1000000
  ·refine aL (by simpa using hgm) ?_;refine aS ?_;refine h1.ld (x:=sf) 0 rfl rfl ?_;have h1:=h1.nil 3 1 iv;obtain⟨inf,q1,q2,q3,q4⟩:=nW;refine h1.gq 5 4 (s:=⟨none,0,0⟩) rfl rfl Hp.bZ aB eM q1 q3 q2 rfl (by simp [iv,Value.oneCell']) (by rw [q4];show (0+sf.len)*8<=_;omega) (by show 0+sf.len<=_;omega) fun r w1 h1 eT _=>?_;have ai9:r.len=sf.len:=by rw [eT];exact aml _
   refine h1.bE (x:=x) 1 rfl rfl ?_;refine h1.cj (c:= [_]) 5 x rfl aB eM q1 q3 q2 rfl rfl (by simp [iv,Value.oneCell']) (by rw [q4];omega) (by omega) fun s w1 h1 _ _=>?_;refine aS ?_;refine h1.st 0 rfl (by simp) rfl fun w1 h1=>?_;simp only [alI,alO,alq,alG] at h1;have h4:=h1.GZ 0 2 3 5 (by decide) rfl rfl rfl rfl;have em:(m.dN x g).free=m.free++ [x]:=by unfold ai.dN;rw [if_pos hgm]
   have h4:Hp O w w1 [af b 177 [.int .i64 (m.dN x g).aO,.slice sg.a sg.len sg.cap,.slice sa.a sa.len sa.cap,.slice s.a s.len s.cap],aj sg 3 1 iv (m.dN x g).au,aj sa 4 1 bv (m.dN x g).alive,aj s 3 1 iv (m.dN x g).free]:=by
    rw [em];exact h4
   have h3:=back (rest:= []) rfl rfl (gX (m:=m.dN x g) (rest:= []) h4);rw [alh] at h3;exact hK _ h3
  ·refine aJ (by simpa using hgm) ?_;have h4:=h1.GZ 0 2 3 4 (by decide) rfl rfl rfl rfl;have em:(m.dN x g).free=m.free:=by unfold ai.dN;rw [if_neg hgm]
   have h4:Hp O w w1 [af b 177 [.int .i64 (m.dN x g).aO,.slice sg.a sg.len sg.cap,.slice sa.a sa.len sa.cap,.slice sf.a sf.len sf.cap],aj sg 3 1 iv (m.dN x g).au,aj sa 4 1 bv (m.dN x g).alive,aj sf 3 1 iv (m.dN x g).free]:=by
    rw [em];exact h4
   have h3:=back (rest:= []) rfl rfl (gX (m:=m.dN x g) (rest:= []) h4);rw [alh] at h3;exact hK _ h3
theorem LG (h:Hp S w0 w ae) (i:Nat) {b:Nat} {m:ai} (hm:m.MD) (hi:(ae[i]?).map aa.holds=some (aD 177 b m).holds) {K:Sl->Sl->World->Prop}
  (hK: ∀g f w',Hp S w0 w' (ae++ [aj g 3 1 iv m.aH,aj f 3 1 iv m.free])->K g f w'):Sq (some ⟨b,0,none⟩) w K:=by
 refine Ox ?_;unfold f144;have Ce:=hm.fZ;have hlen:=hm.len;have Zd:=Ok.vY hm.toOk;obtain⟨sg,sa,sf,h1⟩:=rX h i hi;have tN:=h1.len 1 rfl;have dh:=h1.len 3 rfl;have h1:=h1.nil 3 1 iv;obtain⟨inf,q1,q2,q3,q4⟩:=nW;refine⟨fun s t mm w'=> ∃k:Nat,t=k /\ k<=m.au.length /\ mm=m.au.length - k /\ Hp [] w w' [(af b 177 [.int .i64 m.aO,.slice sg.a sg.len sg.cap,.slice sa.a sa.len sa.cap,.slice sf.a sf.len sf.cap]).ro,(aj sg 3 1 iv m.au).ro,(aj sa 4 1 bv m.alive).ro,(aj sf 3 1 iv m.free).ro,aj s 3 1 iv (m.aH.take k)],⟨m.au.length,0,rfl,by omega,rfl,h1⟩,?_⟩;rintro s t mm w2 ⟨k,rfl,hk,rfl,h1⟩;refine aS ?_;refine h1.ld (x:=sg) 0 rfl rfl ?_;by_cases av:k < m.au.length
 ·refine aL (by simp;omega) ?_;refine aS ?_;refine h1.ld (x:=sg) 0 rfl rfl ?_;refine h1.fz (k:=.i .i64) (x:=m.gen k) 1 rfl (by omega) (yf (by omega) (by omega)) aB rfl ?_;refine P3 (h.cn h1.fr) i (by omega) hi ?_;refine aS ?_;refine h1.ld (x:=sa) 0 rfl rfl ?_;refine h1.fz (k:=.b) (x:=m.bD k) 2 rfl (by omega) (zS hm.toOk (by omega) (by omega)) oL rfl ?_;have fB:=h1.len 4 rfl;simp only [alv,qP] at fB;have dU: ∀x,m.aH[k]? =some x->m.aH.take (k+1)=m.aH.take k++ [x]:=fun x hx=>by rw [amH,hx];rfl
  have hsg:=xG av;have lK:=hm.toOk.gen (i:=(k:Int)) (by omega) (by omega);by_cases hc:m.bD k=false /\ (k:Int) ∉ m.free
  ·refine aL (by rw [hc.1,decide_eq_false hc.2];rfl) ?_;have hg:m.gen k=1000000:=by
    refine Classical.byContradiction fun aW=>hc.2 (hm.dead k (by omega) (by omega) hc.1 (by omega))
   rw [if_pos ⟨hg,hc.1⟩,hg] at hsg;refine h1.cj (c:= [_]) 4 1000001 rfl aB eM q1 q3 q2 rfl rfl (by simp [iv,Value.oneCell']) (by rw [q4];omega) (by omega) fun s2 w1 h1 _ _=>?_;refine⟨m.au.length - (k+1),by omega,k+1,by rw [aI (by omega) (by omega)];omega,by omega,rfl,?_⟩;rw [dU _ hsg];exact h1
  ·refine aJ ?_ ?_
   ·cases k6:m.bD k with
    | true=>simp
    | false=>
     have:(k:Int)∈m.free:=Classical.byContradiction fun hn=>hc ⟨k6,hn⟩;rw [decide_eq_true this];simp
   rw [if_neg] at hsg
   ·refine h1.cj (c:= [_]) 4 (m.gen k) rfl aB eM q1 q3 q2 rfl rfl (by simp [iv,Value.oneCell']) (by rw [q4];omega) (by omega) fun s2 w1 h1 _ _=>?_;refine⟨m.au.length - (k+1),by omega,k+1,by rw [aI (by omega) (by omega)];omega,by omega,rfl,?_⟩;rw [dU _ hsg];exact h1
   ·rintro⟨g1,g2⟩;refine hc ⟨g2,fun vC=>?_⟩;have:=(hm.free _ vC).2.2.2;omega
 ·refine aJ (by simp;omega) ?_;have bL:m.aH.take k=m.aH:=aln (by rw [qP];omega);rw [bL] at h1;refine aS ?_;refine h1.ld (x:=sf) 0 rfl rfl ?_;have h1:=h1.nil 3 1 iv;refine h1.gq 5 3 (s:=⟨none,0,0⟩) rfl rfl (⟨Hp.bZ.rd⟩:Hp.Reads (aj sf 3 1 iv m.free).ro sf 1 iv m.free) aB eM q1 q3 q2 rfl (by simp [iv,Value.oneCell']) (by rw [q4];show (0+sf.len)*8<=_;omega) (by show 0+sf.len<=_;omega) fun s' w' h1 _ _=>?_;exact hK s s' w' (h.r0 (rest:= [_,_]) rfl (h1.Uz 4 5 (by omega) rfl rfl))
end
end Go.Proofs.YtcccjgmekakabaaGreat.FI
end

section
namespace Go.Proofs.YtcccjgmekakabaaGreat.FW
open F
open Go Go.Den Go.Proofs
open FI (ai aD)
open FT (az fA bw ct fo cu jV dH iv aB)
structure RH where
 K:Sl
 p:Nat
 L:Sl
abbrev RH.cells (q:RH):List Value:= [.slice q.K.a q.K.len q.K.cap,.pointer (some ⟨q.p,0,none⟩),.slice q.L.a q.L.len q.L.cap]
def WA.fits (a:WA):Prop:=a.Ok /\ ∀e p,a.row e=some p->p.fit a.ks
def fE (b:Nat) (a:WA):aa:=Mx fun q:RH=>kZ a.fits (bo (af b 73 q.cells) (bo (aK q.K a.ks) (bo (aD 177 q.p a.ar) (bF q.L a.rows))))
theorem P6 {k:Nat} {c:Int} (hc: ¬mf k c):(cond (!(cond (cond (decide (c>=97)) (decide (c<=122)) false) true (cond (decide (c>=65)) (decide (c<=90)) false))) (cond (((k:Nat):Int) ==0) true (!(cond (cond (decide (c>=48)) (decide (c<=57)) false) true (c ==95)))) false)=true:=by
 unfold mf at hc;have h1: ¬(c>=97 /\ c<=122):=fun h=>hc (.inl (.inl h));have h2: ¬(c>=65 /\ c<=90):=fun h=>hc (.inl (.inr h));have e1:(cond (decide (c>=97)) (decide (c<=122)) false)=false:=by by_cases g:c>=97 <;> simp [g] <;> omega
 have e2:(cond (decide (c>=65)) (decide (c<=90)) false)=false:=by by_cases g:c>=65 <;> simp [g] <;> omega
 rw [e1,e2];by_cases Es:k=0
 ·simp [Es]
 ·have h3: ¬(c=95 \/ (48<=c /\ c<=57)):=fun h=>hc (.inr ⟨Es,h⟩);have:(((k:Nat):Int) ==0)=false:=by simpa using Es
  have h4:(c ==95)=false:=by simp;omega
  have e3:(cond (decide (c>=48)) (decide (c<=57)) false)=false:=by by_cases g:c>=48 <;> simp [g] <;> omega
  simp [this,h4,e3]
theorem LH {k:Nat} {c:Int} (hc:mf k c): ¬(cond (!(cond (cond (decide (c>=97)) (decide (c<=122)) false) true (cond (decide (c>=65)) (decide (c<=90)) false))) (cond (((k:Nat):Int) ==0) true (!(cond (cond (decide (c>=48)) (decide (c<=57)) false) true (c ==95)))) false)=true:=by
 unfold mf at hc;by_cases h1:c>=97 /\ c<=122
 ·simp [h1.1,h1.2]
 ·by_cases h2:c>=65 /\ c<=90
  ·simp [h2.1,h2.2]
  ·obtain⟨Es,hc⟩:k≠0 /\ (c=95 \/ (48<=c /\ c<=57)):=by omega
   have:(((k:Nat):Int) ==0)=false:=by simpa using Es
   rcases hc with rfl | ⟨h3,h4⟩
   ·simp [this]
   ·simp [this,h3,h4]
theorem E9 {s:ByteArray} {w:World} {K:Bool->World->Prop} (hs:s.size<=1000000000000) (hK:K (decide (eU (cJ s))) w):Sx s w K:=by
 refine OH ?_;unfold f155;have fB:=oI s;refine⟨fun t m w'=> ∃k:Nat,t=k /\ k<=s.size /\ m=s.size - k /\ (∀i,(hi:i < (cJ s).length)->i < k->mf i (cJ s)[i]) /\ w'=w,⟨s.size,0,rfl,by omega,rfl,fun i _ h=>by omega,rfl⟩,?_⟩;rintro t m w2 ⟨k,rfl,hk,rfl,bz,rfl⟩;by_cases av:k < s.size
 ·refine aL (by simp;omega) ?_;have cO:k < (cJ s).length:=by omega
  have hb:s[((k:Nat):Int).toNat]? =some (s[k]'av):=by rw [ak7];exact getElem?_pos s k av
  have lT:(((s[k]'av).toNat:Nat):Int)=(cJ s)[k]:=by simp [cJ];rfl
  refine⟨by omega,s[k]'av,hb,?_⟩;rw [lT]
  ·by_cases hc:mf k (cJ s)[k]
   ·refine aJ (LH hc) ⟨s.size - (k+1),by omega,k+1,by rw [aI (by omega) (by omega)];omega,by omega,rfl,fun i hi Ig=>?_,rfl⟩;by_cases Et:i < k
    ·exact bz i hi Et
    ·obtain rfl:i=k:=by omega
     exact hc
   ·refine aL (P6 hc) ?_;have dz: ¬eU (cJ s):=fun hw=>hc (hw.1 k cO)
    rwa [decide_eq_false dz] at hK
 ·refine aJ (by simp;omega) ?_;have e:(cond (decide ((s.size:Int)>=1)) (decide ((s.size:Int)<=16)) false)=decide (eU (cJ s)):=by
   by_cases he:1<=s.size
   ·by_cases h16:s.size<=16
    ·have:eU (cJ s):=⟨fun i hi=>bz i hi (by omega),fun e=>by rw [e] at fB;simp at fB;omega,by omega⟩;simp [this];omega
    ·have: ¬eU (cJ s):=fun hw=>h16 (by have:=hw.2.2;omega);simp [this];omega
   ·have: ¬eU (cJ s):=fun hw=>hw.2.1 (alL (by omega));simp [this];omega
  rw [e];exact hK
section
variable {S:List Nat} {w0 w:World} {ae:List aa}
theorem vd (h:Hp S w0 w ae) (j:Nat) {u:aa} {s:Sl} {L:List ByteArray} (hj:(ae[j]?).map aa.holds=some u.holds) (hu:Hp.Reads u s 1 sv L) (hl:L.length<=1000000000) (dL: ∀x∈L,x.size<=1000000000000) {K:Bool->World->Prop}
  (hK: ∀w',Hp S w0 w' ae->K (decide (bB L)) w'):Nd s w K:=by
 refine Oa ?_;unfold f123;have fB:=h.dR j hj hu;refine⟨fun t m w'=> ∃k:Nat,t=k /\ k<=L.length /\ m=L.length - k /\ (∀i,(hi:i < L.length)->i < k->eU (cJ L[i]) /\ L[i] ∉ L.take i) /\ Hp S w0 w' ae,⟨L.length,0,rfl,by omega,rfl,fun i _ h=>by omega,h⟩,?_⟩;clear h;rintro t m w2 ⟨k,rfl,hk,rfl,bz,h⟩;by_cases av:k < L.length
 ·refine aL (by simp;omega) ?_;refine h.fH (k:=.s) (u:=u) (y:=L[k]) (x:=L[k]) j hj hu (by omega) (by simp [av]) cW rfl ?_;refine E9 (dL _ (alz av)) ?_;by_cases hw:eU (cJ L[k])
  ·refine aJ (by simpa using hw) ?_;refine⟨fun t m w'=> ∃q:Nat,t=q /\ q<=k /\ m=k - q /\ L[k] ∉ L.take q /\ Hp S w0 w' ae,⟨k,0,rfl,by omega,rfl,by simp,h⟩,?_⟩;clear h;rintro t m w3 ⟨q,rfl,hq,rfl,hnq,h⟩;by_cases Wb:q < k
   ·refine aL (by simp;omega) ?_;refine h.dr fun w4 h=>?_;have E4:q < L.length:=by omega
    refine h.fH (k:=.s) (u:=u) (y:=L[q]) (x:=L[q]) j hj hu (by omega) (by simp [E4]) cW rfl ?_;refine h.fH (k:=.s) (u:=u) (y:=L[k]) (x:=L[k]) j hj hu (by omega) (by simp [av]) cW rfl ?_;by_cases he:L[q]=L[k]
    ·refine aL (by rw [he];exact yd _) ?_;have:=hK _ h;have dz: ¬bB L:=fun hw=>(hw k av).2 (by rw [<-he];exact List.mem_take_iff_getElem.2 ⟨q,by omega,rfl⟩)
     rwa [decide_eq_false dz] at this
    ·refine aJ (by rw [FZ];simpa using he) ⟨k - (q+1),by omega,q+1,by rw [aI (by omega) (by omega)];omega,by omega,rfl,fun hm=>?_,h⟩;rw [alp E4] at hm
     rcases alg.1 hm with hm | hm
     ·exact hnq hm
     ·simp only [ali] at hm;exact he hm.symm
   ·refine aJ (by simp;omega) ⟨L.length - (k+1),by omega,k+1,by rw [aI (by omega) (by omega)];omega,by omega,rfl,fun i hi Ig=>?_,h⟩;by_cases Et:i < k
    ·exact bz i hi Et
    ·obtain rfl:i=k:=by omega
     obtain rfl:q=i:=by omega
     exact⟨hw,hnq⟩
  ·refine aL (by simpa using hw) ?_;have:=hK _ h;have dz: ¬bB L:=fun h=>hw (h k av).1
   rwa [decide_eq_false dz] at this
 ·refine aJ (by simp;omega) ?_;have:=hK _ h;have tK:bB L:=fun i hi=>bz i hi (by omega)
  rwa [decide_eq_true tK] at this
set_option maxHeartbeats 2000000 in
theorem HN {s:Sl} {l:KD} (hr:yc w s l) (hl:l.length<=10000000) (dL: ∀x∈l,x.2.length<=10000000 /\ x.1.size<=1000000000000 /\ ∀y∈x.2,y.size<=1000000000000) {K:Bool->World->Prop}
  (hK: ∀w',Fr [] w w'->K (decide (cY l)) w'):c68 s w K:=by
 refine T3 ?_;unfold f68;obtain⟨xy,i1,i2,i3,i4⟩:=xy;obtain⟨ys,O,rfl,hO⟩:=hr;have h:Hp [] w w [(dK s ys).ro]:=(Hp.init w).dC hO (by simp);have fB:=h.dR (u:=dK s ys) (s:=s) (l:=ys) (f:=df) (n:=2) 0 rfl o5;have cO:(kinds ys).length=ys.length:=by simp [kinds]
 have ma:=AT h (s:=s) (xs:=ys) 0 rfl;rw [cO] at hl;have h:=h.nil 9 1 sv;refine⟨fun names t mm w'=> ∃k:Nat,t=k /\ k<=ys.length /\ mm=ys.length - k /\ (∀q,(hq:q < ys.length)->q < k->(ys[q]).2.2.length<=4 /\ bB (ys[q]).2.2) /\ Hp [] w w' [(dK s ys).ro,aj names 9 1 sv ((ys.take k).map (·.1))],⟨ys.length,0,rfl,by omega,rfl,fun q _ h=>by omega,h⟩,?_⟩;clear h;rintro names t mm w2 ⟨k,rfl,hk,rfl,bz,h⟩;by_cases av:k < ys.length
 ·refine aL (by simp;omega) ?_;have hx:ys[k]? =some ys[k]:=by simp [av]
  have dF:ys[k]∈ys:=alz av;have Pd:=dL (ys[k].1,ys[k].2.2) (alu.2 ⟨_,dF,rfl⟩);have dU:ys.take (k+1)=ys.take k++ [ys[k]]:=alp av;have uU: ∀q,(hq:q < ys.length)->q=k->((ys[k]).2.2.length<=4 /\ bB (ys[k]).2.2)->(ys[q]).2.2.length<=4 /\ bB (ys[q]).2.2:=fun q hq e h=>by subst e;exact h
  have eN:=ma _ dF;generalize ys[k]=x at hx Pd dU dF uU eN;have aja:x.2.2.length<=10000000:=Pd.1;have no: ¬(x.2.2.length<=4 /\ bB x.2.2)-> ¬cY (kinds ys):=fun dz hm=>dz (hm.1 (x.1,x.2.2) (alu.2 ⟨x,dF,rfl⟩));have E5: ∀{w':World} {l:List aa},Hp [] w w' ((dK s ys).ro :: l)-> ∃o,bO w' s 2 df ys o:=fun{w' l} h=>by
   obtain⟨O,_,⟨o,g,_⟩,_⟩:=h.kY (i:=0) rfl;exact⟨o,g⟩
  obtain⟨o,hR⟩:=E5 h;refine bO.ix bn hR (by omega) (x:=x) (by rw [ak7];exact hx) fun ad hc=>?_;refine jB (k:=.sl) (x:=x.2.1) (hc 1 (by omega)) rfl ?_;refine vd h 0 (u:=dK s ys) rfl (zQ hx) (by omega) Pd.2.2 fun w3 h=>?_;refine⟨fun w'=>(x.2.2.length<=4 /\ bB x.2.2) /\ Hp [] w w' [(dK s ys).ro,aj names 9 1 sv ((ys.take k).map (·.1))],?_,?_⟩
  ·by_cases hw:bB x.2.2
   ·refine aJ (by simpa using hw) ?_;obtain⟨o,hR⟩:=E5 h;refine bO.ix bn hR (by omega) (x:=x) (by rw [ak7];exact hx) fun ad hc=>?_;refine jB (k:=.sl) (x:=x.2.1) (hc 1 (by omega)) rfl ?_;by_cases h4:x.2.1.len > 4
    ·refine aL (by simp;omega) ?_;have:=hK _ h.1
     rwa [decide_eq_false (no fun hh=>by omega)] at this
    ·exact aJ (by simp;omega) ⟨⟨by omega,hw⟩,h⟩
   ·refine aL (by simpa using hw) ?_;have:=hK _ h.1
    rwa [decide_eq_false (no fun hh=>hw hh.2)] at this
  clear h hR;rintro w6 ⟨oJ,h⟩;obtain⟨o,hR⟩:=E5 h;refine bO.ix bn hR (by omega) (x:=x) (by rw [ak7];exact hx) fun ad hc=>?_;refine dG (k:=.s) (x:=x.1) (hc 0 (by omega)) rfl ?_;have lL:=h.len (s:=names) (e:=9) (n:=1) (f:=sv) (l:=(ys.take k).map (·.1)) 1 rfl;rw [alr,alv] at lL;refine h.cj (c:= [_]) 1 x.1 rfl cW ql i1 i3 i2 rfl rfl (by simp [sv,Value.oneCell']) (by rw [i4];omega) (by omega) fun oD w7 h _ _=>?_;refine⟨ys.length - (k+1),by omega,k+1,by rw [aI (by omega) (by omega)];omega,by omega,rfl,fun q hq Wb=>?_,?_⟩
  ·by_cases OT:q < k
   ·exact bz q hq OT
   ·exact uU q hq (by omega) oJ
  ·rw [dU,alW];exact h
 ·refine aJ (by simp;omega) ?_;rw [aln (by omega)] at h;have yF:(kinds ys).map (·.1)=ys.map (·.1):=by simp [kinds]
  refine vd h 1 (u:=aj names 9 1 sv (ys.map (·.1))) rfl Hp.bZ (by simp;omega) (fun y hy=>by
   obtain⟨x,hx,rfl⟩:=alu.1 hy;exact(dL (x.1,x.2.2) (alu.2 ⟨x,hx,rfl⟩)).2.1) fun w3 h=>?_
  have:=hK _ h.1;have e:(cond (cond (decide (bB (ys.map (·.1)))) (decide ((s.len:Int)>=1)) false) (decide ((s.len:Int)<=12)) false)=decide (cY (kinds ys)):=by
   by_cases hm:cY (kinds ys)
   ·have h1:=hm.2.1;have h2:=hm.2.2.1;have h3:=hm.2.2.2;rw [yF] at h3;rw [decide_eq_true hm,decide_eq_true h3];simp;omega
   ·rw [decide_eq_false hm];by_cases hw:bB (ys.map (·.1))
    ·have: ¬(1<=ys.length /\ ys.length<=12):=fun hh=>hm ⟨fun y hy=>by
      obtain⟨x,hx,rfl⟩:=alu.1 hy;obtain⟨q,hq,rfl⟩:=amd.1 hx;exact bz q hq (by omega),by omega,by omega,by rw [yF];exact hw⟩
     rw [decide_eq_true hw];by_cases h1:1<=ys.length
     ·have: ¬ys.length<=12:=fun h=>this ⟨h1,h⟩;simp;omega
     ·simp;omega
    ·rw [decide_eq_false hw];rfl
  rw [e];exact this
end
def fJ (s:Sl) (xs:List PV):aa:=
  { holds:=fun w O=>(∀k∈O,k < w.heap.size) /\ (∃o,bO w s 2 ck xs o /\ ∀k∈o,k∈O) /\ ∀x∈xs,∃o,bO w x.2.1 1 iv x.2.2 o /\ ∀k∈o,k∈O
    fr:=fun{S w w' O} h hf hn=>⟨fun k hk=>by have:=h.1 k hk;have:=hf.size;omega,by
      obtain⟨_,⟨o,h1,h2⟩,h3⟩:=h;refine⟨⟨o,h1.fr hf (fun k hk=>hn k (h2 k hk)),h2⟩,fun x hx=>?_⟩;obtain⟨o,h4,h5⟩:=h3 x hx;exact⟨o,h4.fr hf (fun k hk=>hn k (h5 k hk)),h5⟩⟩
    lt:=fun h=>h.1}
theorem cl {u:aa} {s:Sl} {xs:List PV} (hu:u.holds=(fJ s xs).holds):Hp.Reads u s 2 ck xs:=⟨fun{w O} h=>by
 rw [hu] at h;obtain⟨_,⟨o,h1,_⟩,_⟩:=h;exact⟨o,h1⟩⟩
theorem mC {u:aa} {s:Sl} {xs:List PV} (hu:u.holds=(fJ s xs).holds) {x:PV} (hx:x∈xs):Hp.Reads u x.2.1 1 iv x.2.2:=⟨fun{w O} h=>by
 rw [hu] at h;obtain⟨_,_,h2⟩:=h;obtain⟨o,h3,_⟩:=h2 x hx;exact⟨o,h3⟩⟩
theorem ri.Gp {w:World} {s:Sl} {l:List Part} (h:ri w s l): ∃(xs:List PV) (O:List Nat),xs.map bq=l /\ (fJ s xs).holds w O:=by
 obtain⟨xs,h1,⟨o,h2⟩,h3⟩:=h;refine⟨xs,List.range w.heap.size,h1,fun k hk=>al5.1 hk,⟨o,h2,fun k hk=>al5.2 (h2.lt k hk)⟩,fun x hx=>?_⟩;obtain⟨o,h4⟩:=h3 x hx;exact⟨o,h4,fun k hk=>al5.2 (h4.lt k hk)⟩
theorem ri.len {w:World} {s:Sl} {l:List Part} (h:ri w s l):l.length=s.len:=by
 obtain⟨xs,h1,⟨o,h2⟩,_⟩:=h;rw [<-h1,alr];exact h2.1
section
variable {S:List Nat} {w0 w:World} {ae:List aa}
theorem qZ (h:Hp S w0 w ae) {s:Sl} {l:List Int} (hr: ∃o,bO w s 1 iv l o) (hl:l.length<=1000000000) {K:Sl->World->Prop} (hK: ∀r w',Hp S w0 w' (ae++ [aj r 2 1 iv l])->K r w'):W7 s w K:=by
 refine Ub ?_;unfold f79;obtain⟨inf,q1,q2,q3,q4⟩:=FT.ku;obtain⟨o,hR⟩:=hr;have fB:=hR.1;have h1:Hp [] w w [(sM s 1 iv l).ro]:=(Hp.init w).dC hR (by simp);have h1:=h1.nil 2 1 iv;refine h1.gq 1 0 (s:=⟨none,0,0⟩) (s2:=s) (u:=(sM s 1 iv l).ro) rfl rfl ⟨fun{w O} h=>⟨O,h⟩⟩ aB FT.eS q1 q3 q2 rfl (by simp [iv,Value.oneCell']) (by rw [q4];show (0+s.len)*8<=_;omega) (by show 0+s.len<=_;omega) fun r w2 h1 _ _=>?_;exact hK r w2 (h.r0 (rest:= [aj r 2 1 iv l]) rfl (h1.ic [1] (by decide) rfl))
theorem ve (h:Hp S w0 w ae) (j:Nat) {u:aa} {s:Sl} {l:List Int} (hj:ae[j]? =some u) (hu:Hp.Reads u s 1 iv l) (hl:l.length<=1000000000) {K:Sl->World->Prop} (hK: ∀r w',Hp S w0 w' (ae++ [aj r 2 1 iv l])->K r w'):Nj s w K:=by
 refine Oz ?_;unfold f146;obtain⟨inf,q1,q2,q3,q4⟩:=FT.ku;have Vc:=(ak6.1 hj).1;have fB:=h.dR j (by rw [hj];rfl) hu;have h:=h.nil 2 1 iv;refine⟨fun out t8 mm w'=> ∃k:Nat,t8=k /\ k<=l.length /\ mm=l.length - k /\ Hp S w0 w' (ae++ [aj out 2 1 iv (l.take k)]),⟨l.length,0,rfl,by omega,rfl,h⟩,?_⟩;clear h;rintro out t8 mm w2 ⟨k,rfl,hk,rfl,h⟩;have lq:=h.len (s:=out) ae.length (by rw [alw];rfl);rw [alv] at lq;by_cases av:k < l.length
 ·refine aL (by simp;omega) ?_;refine h.fH (k:=.i .i64) (u:=u) (y:=l[k]) (x:=l[k]) j (by rw [ak9 Vc,hj];rfl) hu (by omega) (by simp [av]) aB rfl ?_;refine h.cj ae.length (l[k]) (c:= [_]) alw aB FT.eS q1 q3 q2 rfl rfl (by simp [iv,Value.oneCell']) (by rw [q4];omega) (by omega) fun bR w3 h _ _=>?_;rw [cM,<-alp av] at h;exact⟨l.length - (k+1),by omega,k+1,by rw [aI (by omega) (by omega)];omega,by omega,rfl,h⟩
 ·refine aJ (by simp;omega) ?_;rw [aln (by omega)] at h;exact hK out w2 h
set_option maxHeartbeats 2000000 in
theorem gy (h:Hp S w0 w ae) {s:Sl} {l:List Part} (hr:ri w s l) (hl:l.length<=1000000000) (hv: ∀x∈l,x.2.length<=1000000000) {K:Sl->World->Prop} (hK: ∀r w',Hp S w0 w' (ae++ [aN r l])->K r w'):VW s w K:=by
 refine S8 ?_;unfold f27;obtain⟨inf,i1,i2,i3,i4⟩:=xT;obtain⟨xs,O,rfl,hO⟩:=hr.Gp;have h1:Hp [] w w [(fJ s xs).ro]:=(Hp.init w).dC hO (by simp);have fB:=h1.dR (u:=fJ s xs) (s:=s) (l:=xs) (f:=ck) (n:=2) 0 rfl (cl rfl);have h1:=h1.gN 36 2 ck tV bq;rw [alr] at hl;refine⟨fun out t mm w'=> ∃k:Nat,t=k /\ k<=xs.length /\ mm=xs.length - k /\ Hp [] w w' [(fJ s xs).ro,aN out ((xs.take k).map bq)],⟨xs.length,0,rfl,by omega,rfl,h1⟩,?_⟩;clear h1;rintro out t mm w2 ⟨k,rfl,hk,rfl,h1⟩;have lq:=(h1.mo (s:=out) (l:=(xs.take k).map bq) 1 rfl).1;rw [alr,alv] at lq;by_cases av:k < xs.length
 ·refine aL (by simp;omega) ?_;refine h1.dr fun w3 h1=>?_;have hx:xs[k]? =some xs[k]:=by simp [av]
  have dU:xs.take (k+1)=xs.take k++ [xs[k]]:=alp av;have fI:xs[k]∈xs:=alz av;generalize xs[k]=x at hx dU fI;have CM:x.2.2.length<=1000000000:=hv (bq x) (am2 fI);have hu:(fJ s xs).ro.holds=(fJ s xs).holds:=rfl;refine h1.uP (s:=s) (l:=xs) (f:=ck) (n:=2) 0 rfl (cl hu) (by omega) (by rw [ak7];exact av) fun ad Ae=>?_;rw [ak7];refine h1.qL (k:=.i .i64) (v:=x.1) 0 rfl (cl hu) Ae aR hx rfl ?_;refine h1.uP (s:=s) (l:=xs) (f:=ck) (n:=2) 0 rfl (cl hu) (by omega) (by rw [ak7];exact av) fun Is Vo=>?_;rw [ak7];refine h1.uQ (m:=1) (k:=.sl) (v:=x.2.1) 0 rfl (cl hu) Vo aR hx rfl ?_;have hRx: ∃o,bO w3 x.2.1 1 iv x.2.2 o:=by
   obtain⟨O',gD⟩:=h1.kY (i:=0) rfl;exact(mC (u:=(fJ s xs).ro) hu fI).rd gD
  refine qZ h1 hRx CM fun r w4 h1=>?_;refine⟨h1.BO 0 rfl (cl hu) Ae aR hx rfl,?_⟩;have h1:Hp [] w w4 [(fJ s xs).ro,aN out ((xs.take k).map bq),tV (x.1,r,x.2.2)]:=h1;refine h1.oT 1 2 (by decide) (x.1,r,x.2.2) (c:= [_,_]) rfl rfl rfl aR nL i1 i3 i2 rfl rfl (by simp [ck,Value.oneCell']) (by rw [i4];omega) (by omega) fun bR w5 h1 QI=>?_;have h1:Hp [] w w5 ([(fJ s xs).ro,aN bR ((xs.take k).map bq++ [bq (x.1,r,x.2.2)])]++ [ao]):=h1;have h1:=h1.front;refine⟨xs.length - (k+1),by omega,k+1,by rw [aI (by omega) (by omega)];omega,by omega,rfl,?_⟩;rw [dU,alW];exact h1
 ·refine aJ (by simp;omega) ?_;rw [aln (by omega)] at h1;exact hK out w2 (h.r0 (rest:= [aN out (xs.map bq)]) rfl (h1.ic [1] (by decide) rfl))
set_option maxHeartbeats 2000000 in
theorem AY (h:Hp S w0 w ae) {s:Sl} {l:KD} (hr:yc w s l) (hl:l.length<=1000000000) (hv: ∀x∈l,x.2.length<=1000000000) {K:Sl->World->Prop} (hK: ∀r w',Hp S w0 w' (ae++ [aK r l])->K r w'):c78 s w K:=by
 refine Ua ?_;unfold f78;obtain⟨xy,j1,j2,j3,j4⟩:=xy;obtain⟨inf,i1,i2,i3,i4⟩:=zv;obtain⟨xs,O,rfl,hO⟩:=hr;have h1:Hp [] w w [(dK s xs).ro]:=(Hp.init w).dC hO (by simp);have hu:(dK s xs).ro.holds=(dK s xs).holds:=rfl;have fB:=h1.dR (u:=dK s xs) (s:=s) (l:=xs) (f:=df) (n:=2) 0 rfl o5;have ma:=AT h1 (s:=s) (xs:=xs) 0 rfl;have cO:(kinds xs).length=xs.length:=by simp [kinds]
 rw [cO] at hl;have h1:=h1.gN 107 2 df tF mw;refine⟨fun out t mm w'=> ∃k:Nat,t=k /\ k<=xs.length /\ mm=xs.length - k /\ Hp [] w w' [(dK s xs).ro,aK out ((xs.take k).map mw)],⟨xs.length,0,rfl,by omega,rfl,h1⟩,?_⟩;clear h1;rintro out t mm w2 ⟨k,rfl,hk,rfl,h1⟩;have lq:=(h1.mo (s:=out) (l:=(xs.take k).map mw) 1 rfl).1;rw [alr,alv] at lq;by_cases av:k < xs.length
 ·refine aL (by simp;omega) ?_;have hx:xs[k]? =some xs[k]:=by simp [av]
  have dU:xs.take (k+1)=xs.take k++ [xs[k]]:=alp av;have fI:xs[k]∈xs:=alz av;generalize xs[k]=x at hx dU fI;have CM:x.2.2.length<=1000000000:=hv (x.1,x.2.2) (alu.2 ⟨x,fI,rfl⟩);have ML:=(ma x fI).2;have E5: ∀{w':World} {l:List aa},Hp [] w w' ((dK s xs).ro :: l)-> ∃o,bO w' s 2 df xs o:=fun{w' l} h=>by
   obtain⟨O,_,⟨o,g,_⟩,_⟩:=h.kY (i:=0) rfl;exact⟨o,g⟩
  obtain⟨o,hR⟩:=E5 h1;refine bO.ix bn hR (by omega) (x:=x) (by rw [ak7];exact hx) fun ad hc=>?_;refine dG (k:=.s) (x:=x.1) (hc 0 (by omega)) rfl ?_;refine h1.nw (c:= [_,_]) fun kb w3 h1=>?_;refine h1.gz 2 rfl (by simp) rfl fun w4 h1=>?_;refine h1.st (n:=1) 2 rfl (by simp) rfl fun w5 h1=>?_;refine h1.dr fun w6 h1=>?_;have h1:Hp [] w w6 [(dK s xs).ro,aK out ((xs.take k).map mw),af kb 107 [.string x.1,.slice none 0 0]]:=h1;refine h1.ld (n:=1) (k:=.sl) (x:=⟨none,0,0⟩) 2 rfl rfl ?_;obtain⟨o,hR⟩:=E5 h1;refine bO.ix bn hR (by omega) (x:=x) (by rw [ak7];exact hx) fun ad hc=>?_;refine jB (k:=.sl) (x:=x.2.1) (hc 1 (by omega)) rfl ?_;have h1:=h1.nil 9 1 sv;have h1:Hp [] w w6 [(dK s xs).ro,aK out ((xs.take k).map mw),af kb 107 [.string x.1,.slice none 0 0],aj ⟨none,0,0⟩ 9 1 sv []]:=h1;refine h1.gq 3 0 (s:=⟨none,0,0⟩) (s2:=x.2.1) (u:=(dK s xs).ro) rfl rfl (nu hu hx) cW ql j1 j3 j2 rfl (by simp [sv,Value.oneCell']) (by rw [j4];show (0+x.2.1.len)*16<=_;omega) (by show 0+x.2.1.len<=_;omega) fun f w7 h1 dh _=>?_;refine h1.st (n:=1) 2 rfl (by simp) rfl fun w8 h1=>?_;have h1:Hp [] w w8 [(dK s xs).ro,aK out ((xs.take k).map mw),af kb 107 [.string x.1,.slice f.a f.len f.cap],tF (x.1,f,x.2.2)]:=h1;refine h1.bE (k:=.s) (x:=x.1) 2 rfl rfl ?_;refine h1.ld (n:=1) (k:=.sl) (x:=f) 2 rfl rfl ?_;refine h1.oT 1 3 (by decide) (x.1,f,x.2.2) (c:= [_,_]) rfl rfl rfl bn eM i1 i3 i2 rfl rfl (by simp [df,Value.oneCell']) (by rw [i4];omega) (by omega) fun bR w9 h1 QI=>?_;have h1:Hp [] w w9 ([(dK s xs).ro,aK bR ((xs.take k).map mw++ [mw (x.1,f,x.2.2)])]++ [af kb 107 [.string x.1,.slice f.a f.len f.cap],ao]):=h1;have h1:=h1.front;refine⟨xs.length - (k+1),by omega,k+1,by rw [aI (by omega) (by omega)];omega,by omega,rfl,?_⟩;rw [dU,alW];exact h1
 ·refine aJ (by simp;omega) ?_;rw [aln (by omega)] at h1;exact hK out w2 (h.r0 (rest:= [aK out (kinds xs)]) rfl (h1.ic [1] (by decide) rfl))
theorem pU {b:Nat} {a:WA} {rest:List aa} (h:Hp S w0 w (fE b a :: rest)):
  ∃q:RH,a.fits /\ Hp S w0 w (af b 73 q.cells :: aK q.K a.ks :: aD 177 q.p a.ar :: bF q.L a.rows :: rest):=by
 obtain⟨q,h⟩:=h.nf (i:=0) rfl (fun _=>rfl);obtain⟨hf,h⟩:=h.lp (i:=0) rfl rfl;refine⟨q,hf,?_⟩;have h:=h.split (i:=0) rfl rfl rfl;have h:Hp S w0 w ([af b 73 q.cells]++rest++ [bo (aK q.K a.ks) (bo (aD 177 q.p a.ar) (bF q.L a.rows))]):=h;have h:=h.up;have h:=h.split (i:=1) rfl rfl rfl;have h:Hp S w0 w ([af b 73 q.cells,aK q.K a.ks]++rest++ [bo (aD 177 q.p a.ar) (bF q.L a.rows)]):=h;have h:=h.up;have h:=h.split (i:=2) rfl rfl rfl;have h:Hp S w0 w ([af b 73 q.cells,aK q.K a.ks,aD 177 q.p a.ar]++rest++ [bF q.L a.rows]):=h;exact h.up
theorem jS {b:Nat} {a:WA} (q:RH) {rest:List aa} (hf:a.fits) (h:Hp S w0 w (af b 73 q.cells :: aK q.K a.ks :: aD 177 q.p a.ar :: bF q.L a.rows :: rest)):Hp S w0 w (fE b a :: rest):=by
 have h:=h.aV (i:=2) (j:=3) (by omega) rfl rfl rfl rfl;have h:=h.aV (i:=1) (j:=2) (by omega) rfl rfl rfl rfl;have h:=h.aV (i:=0) (j:=1) (by omega) rfl rfl rfl rfl;have h:=h.kq (i:=0) hf rfl rfl;have h:=h.nH (f:=fun q:RH=>kZ a.fits (bo (af b 73 q.cells) (bo (aK q.K a.ks) (bo (aD 177 q.p a.ar) (bF q.L a.rows))))) (i:=0) q rfl rfl;have h:Hp S w0 w (fE b a :: ao :: ao :: ao :: rest):=h;exact h.fY.fY.fY
theorem LI {l:KD} (hm:cY l):(WA.new l).fits:=⟨WA.EV hm,fun e p hp=>by cases hp⟩
theorem LJ (h:Hp S w0 w ae) {s:Sl} {l:KD} (hr:yc w s l) (hl:l.length<=10000000) (dL: ∀x∈l,x.2.length<=10000000 /\ x.1.size<=1000000000000 /\ ∀y∈x.2,y.size<=1000000000000) {K:Option Addr->Int->World->Prop}
  (aT:cY l-> ∀b w',Hp S w0 w' (ae++ [fE b (WA.new l)])->K (some ⟨b,0,none⟩) 0 w') (dz: ¬cY l-> ∀w',Hp S w0 w' ae->K none 65 w'):c25 s w K:=by
 refine S6 ?_;unfold f25;refine HN hr hl dL fun w1 hf=>?_;have h:=h.cn hf;have hr:=hr.cn hf;by_cases hm:cY l
 ·rw [decide_eq_true hm];refine aJ (by simp) ?_;have h1:Hp [] w1 w1 []:=Hp.init w1;refine FI.Vn h1 (n:=200) (by omega) (by omega) fun pb w2 h1=>?_;refine AY h1 (hr.cn h1.1) (by omega) (fun x hx=>by have:=(dL x hx).1;omega) fun r w3 h1=>?_;have h1:=h1.gN 75 3 rdv gA dX;have h1:Hp [] w1 w3 [aD 177 pb ⟨200,[],[],[]⟩,aK r l,bF ⟨none,0,0⟩ []]:=h1;refine h1.nw (c:= [_,_,_]) fun b w4 h1=>?_;have h1:Hp [] w1 w4 [af b 73 (RH.cells ⟨r,pb,⟨none,0,0⟩⟩),aK r (WA.new l).ks,aD 177 pb (WA.new l).ar,bF ⟨none,0,0⟩ (WA.new l).rows]:=h1.ic [3,1,0,2] (by decide) rfl;have h1:=jS ⟨r,pb,⟨none,0,0⟩⟩ (LI hm) h1;exact aT hm b w4 (h.r0 (rest:= [fE b (WA.new l)]) rfl h1)
 ·rw [decide_eq_false hm];exact aL rfl (dz hm w1 h)
end
open FP (eW)
theorem q6 (p:PL): ∀k,∀y∈cF p k,∃i:Nat,y.1=((i+1:Nat):Int) /\ i < k /\ p[i]? =some (some y.2)
 | 0,y,hy=>by simp [cF] at hy
 | k+1,y,hy=>by
  rw [cF] at hy
  rcases alg.1 hy with hy | hy
  ·obtain⟨i,h1,h2,h3⟩:=q6 p k y hy;exact⟨i,h1,by omega,h3⟩
  ·split at hy
   ·rename_i v hv
    simp only [ali] at hy;subst hy;exact⟨k,rfl,by omega,getD_some hv⟩
   ·cases hy
theorem kQ {a:WA} {p:PL} (hl:a.ks.length<=12) (h4: ∀x∈a.ks,x.2.length<=4) (hf:p.fit a.ks) (hr:eW (flat p)):(partsOf p).length<=12 /\ ∀y∈partsOf p,y.2.length<=4 /\ eW y.2 /\ 1<=y.1 /\ y.1<=12:=by
 have si:=hf.1;refine⟨by have:=kI p p.length;unfold partsOf;omega,fun y hy=>?_⟩;obtain⟨i,h1,h2,h3⟩:=q6 p _ y hy;have hk:a.ks[i]? =some (a.ks[i]'(by omega)):=alf _;refine⟨?_,fun z hz=>hr z (amt.2 ⟨some y.2,ala h3,hz⟩),by omega,by omega⟩;have:=hf.2 i y.2 _ h3 hk;have:=h4 _ (ala hk);omega
def dc (l:List Part):Int:=(l.map fun x=>(2:Int) ^ x.1.toNat).sum
theorem yg (l m:List Part):dc (l++m)=dc l+dc m:=by simp [dc]
theorem LK (p:PL) (o:Option (List Int)):ju (p++ [o])=ju p+if o.isSome=true then 2 ^ p.length else 0:=by
 induction p with
 | nil=>cases o <;> simp [ju]
 | cons x p ih=>
  rw [alI];simp only [ju,ih,alQ,Nat.pow_succ]
  cases o <;> simp <;> omega
theorem qy (p:PL): ∀k,k<=p.length->dc (cF p k)=(ju (none :: p.take k):Nat)
 | 0,_=>by simp [cF,dc,ju]
 | k+1,hk=>by
  have ih:=qy p k (by omega);have hp:p[k]? =some p[k]:=by simp [show k < p.length by omega]
  have hg:p.getD k none=p[k]:=by rw [alk,hp];rfl
  rw [cF,yg,ih,alp (by omega),<-alI,LK,hg]
  cases p[k] with
  | none=>simp [dc]
  | some v=>
   have hl:(p.take k).length=k:=by rw [alv];omega
   simp [dc,hl]
theorem nz (p:PL):dc (partsOf p)=aA p:=by
 unfold partsOf aA;rw [qy p p.length (alA _),amB]
theorem HO {l:List Part} (h: ∀y∈l,1<=y.1 /\ y.1<=12):0<=dc l /\ dc l<=4096*l.length:=by
 induction l with
 | nil=>simp [dc]
 | cons x l ih=>
  have:=ih (fun y hy=>h y (by simp [hy]));have hx:=h x (by simp);have e:dc (x :: l)=2 ^ x.1.toNat+dc l:=by simp [dc]
  have h1:(2:Nat) ^ x.1.toNat<=2 ^ 12:=am0 (by omega) (by omega);have h2:((2:Int) ^ x.1.toNat)=((2 ^ x.1.toNat:Nat):Int):=by simp
  rw [e,h2,alQ];generalize 2 ^ x.1.toNat=q at h1;omega
theorem jT {a:WA} (aT:a.Ok):a.all.length<=200:=by
 have h1:=ai.kz a.ar a.ar.au.length;have h2:=aT.qa.fZ;show (a.ar.iG a.ar.au.length).length<=200;omega
theorem pV {a:WA} (hf:a.fits) {r:gF} (hr:r∈a.rows): ∃p,r.1∈a.all /\ a.row r.1=some p /\ r.2=partsOf p /\ p.fit a.ks /\ eW (flat p):=by
 obtain⟨e,he,rfl⟩:=alu.1 hr;obtain⟨p,hp⟩:=gw hf.1 he;refine⟨p,he,hp,?_,hf.2 _ p hp,hf.1.Gf _ p hp⟩;unfold WA.ns;rw [hp];rfl
section
variable {S:List Nat} {w0 w:World} {ae:List aa}
theorem yh {s:Sl} {l:List Part} (hr:ri w s l) (hl:l.length<=12) (hk: ∀y∈l,1<=y.1 /\ y.1<=12) {K:Int->World->Prop} (hK:K (dc l) w):M8 s w K:=by
 refine NS ?_;unfold f104;have fB:=hr.len;obtain⟨xs,rfl,⟨o,hR⟩,_⟩:=hr;rw [alr] at hl fB;refine⟨fun n t mm w'=> ∃k:Nat,n=dc ((xs.map bq).take k) /\ t=k /\ k<=xs.length /\ mm=xs.length - k /\ w'=w,⟨xs.length,0,by simp [dc],rfl,by omega,rfl,rfl⟩,?_⟩;rintro n t mm w2 ⟨k,rfl,rfl,cO,rfl,rfl⟩;by_cases av:k < xs.length
 ·refine aL (by simp;omega) ?_;have hx:xs[k]? =some xs[k]:=by simp [av]
  have dU:(xs.map bq).take (k+1)=(xs.map bq).take k++ [bq xs[k]]:=by
   rw [alp (by simpa using av)];simp
  have HC:=hk (bq xs[k]) (am2 (alz av));generalize xs[k]=x at hx dU HC;have HC:1<=x.1 /\ x.1<=12:=HC;refine bO.ix aR hR (by omega) (x:=x) (by rw [ak7];exact hx) fun ad hc=>?_;refine dG (k:=.i .i64) (x:=x.1) (hc 0 (by omega)) rfl ?_;refine⟨by omega,xs.length - (k+1),by omega,k+1,?_,by rw [aI (by omega) (by omega)];omega,by omega,rfl,rfl⟩;have hb:=HO (l:=(xs.map bq).take k) (fun y hy=>hk y (ank hy));rw [alv] at hb;have e:dc ((xs.map bq).take (k+1))=dc ((xs.map bq).take k)+2 ^ x.1.toNat:=by
   rw [dU,yg];simp [dc,bq]
  rw [e];have hm:min (Int.toNat x.1) 64=x.1.toNat:=by omega
  rw [hm];have h1:(2:Nat) ^ x.1.toNat<=2 ^ 12:=am0 (by omega) (by omega);have h2:((2:Int) ^ x.1.toNat)=((2 ^ x.1.toNat:Nat):Int):=by simp
  rw [h2];generalize 2 ^ x.1.toNat=q at h1;generalize dc ((xs.map bq).take k)=z at hb;rw [aI (n:=(1:Int)*(q:Int)) (by omega) (by omega),aI (by omega) (by omega)];omega
 ·refine aJ (by simp;omega) ?_;rw [aln (by simp;omega)];exact hK
set_option maxHeartbeats 2000000 in
theorem P7 (h:Hp S w0 w ae) (i:Nat) {b:Nat} {a:WA} (hi:ae[i]? =some (fE b a)) {K:Sl->World->Prop} (hK: ∀r w',Hp S w0 w' (ae++ [bF r a.rows])->K r w'):c42 (some ⟨b,0,none⟩) w K:=by
 refine Tw ?_;unfold f42;obtain⟨inf,i1,i2,i3,i4⟩:=CB;obtain⟨O,h1,back⟩:=h.f1 hi rfl;clear h;obtain⟨q,hf,h⟩:=pU h1;clear h1;have eT:a.rows.length<=200:=by have:=jT hf.1;unfold WA.rows;rw [alr];exact this
 obtain⟨xs,fx,h⟩:=h.du (i:=3) rfl;have h:=h.gN 75 3 rdv gA dX;have h:Hp O w w [af b 73 q.cells,aK q.K a.ks,aD 177 q.p a.ar,aj q.L 75 3 rdv xs,ak (xs.map gA),bF ⟨none,0,0⟩ []]:=h;have ja:xs.length=a.rows.length:=by rw [<-fx,alr]
 have hLl:=h.len (s:=q.L) 3 rfl;refine⟨fun out t mm w'=> ∃k:Nat,t=k /\ k<=xs.length /\ mm=xs.length - k /\ Hp O w w' [af b 73 q.cells,aK q.K a.ks,aD 177 q.p a.ar,aj q.L 75 3 rdv xs,ak (xs.map gA),bF out ((xs.take k).map dX)],⟨xs.length,0,rfl,by omega,rfl,h⟩,?_⟩;clear h;rintro out t mm w2 ⟨k,rfl,hk,rfl,h⟩;have lq:=(h.mo (s:=out) (l:=(xs.take k).map dX) (e:=75) (n:=3) (cells:=rdv) (sub:=gA) (vis:=dX) 5 rfl).1;rw [alr,alv] at lq;refine aS ?_;refine h.ld (n:=2) (k:=.sl) (x:=q.L) 0 rfl rfl ?_;by_cases av:k < xs.length
 ·refine aL (by simp;omega) ?_;have hx:xs[k]? =some xs[k]:=by simp [av]
  have dU:xs.take (k+1)=xs.take k++ [xs[k]]:=alp av;have fI:xs[k]∈xs:=alz av;generalize xs[k]=x at hx dU fI;obtain⟨p,_,_,kT,Iv,kU⟩:=pV hf (r:=dX x) (by rw [<-fx];exact am2 fI);have kT:x.2.2=partsOf p:=kT;obtain⟨yR,yw⟩:=kQ hf.1.len.2 hf.1.four Iv kU;refine h.dr fun w3 h=>?_;refine aS ?_;refine h.ld (n:=2) (k:=.sl) (x:=q.L) 0 rfl rfl ?_;refine h.uP (s:=q.L) (l:=xs) (f:=rdv) (n:=3) (u:=aj q.L 75 3 rdv xs) 3 rfl Hp.bZ (by omega) (by rw [ak7];exact av) fun ad Ae=>?_;rw [ak7];refine h.qL (k:=.i .i64) (v:=x.1.1) (u:=aj q.L 75 3 rdv xs) 3 rfl Hp.bZ Ae cc hx rfl ?_;refine h.uQ (m:=1) (k:=.i .i64) (v:=x.1.2) (u:=aj q.L 75 3 rdv xs) 3 rfl Hp.bZ Ae cc hx rfl ?_;refine aS ?_;refine h.ld (n:=2) (k:=.sl) (x:=q.L) 0 rfl rfl ?_;refine h.uP (s:=q.L) (l:=xs) (f:=rdv) (n:=3) (u:=aj q.L 75 3 rdv xs) 3 rfl Hp.bZ (by omega) (by rw [ak7];exact av) fun Is Vo=>?_;rw [ak7];refine h.uQ (m:=2) (k:=.sl) (v:=x.2.1) (u:=aj q.L 75 3 rdv xs) 3 rfl Hp.bZ Vo cc hx rfl ?_;have hRx:ri w3 x.2.1 x.2.2:=by
   obtain⟨O',gD⟩:=h.kY (i:=4) rfl;obtain⟨O2,h4⟩:=sx gD (alu.2 ⟨x,fI,rfl⟩);exact ue h4
  refine gy h hRx (by rw [kT];omega) (fun y hy=>by rw [kT] at hy;have:=(yw y hy).1;omega) fun r w4 h=>?_;refine⟨h.BO (u:=aj q.L 75 3 rdv xs) 3 rfl Hp.bZ Ae cc hx rfl,h.UE (m:=1) (u:=aj q.L 75 3 rdv xs) 3 rfl Hp.bZ Ae cc hx rfl,h.xl (n:=2) 0 rfl rfl,?_⟩;have h:Hp O w w4 [af b 73 q.cells,aK q.K a.ks,aD 177 q.p a.ar,aj q.L 75 3 rdv xs,ak (xs.map gA),bF out ((xs.take k).map dX),gA (x.1,r,x.2.2)]:=h;refine h.oT 5 6 (by decide) (x.1,r,x.2.2) (c:= [_,_,_]) rfl rfl rfl cc vc i1 i3 i2 rfl rfl (by simp [rdv,Value.oneCell']) (by rw [i4];omega) (by omega) fun bR w5 h QI=>?_;have h:Hp O w w5 ([af b 73 q.cells,aK q.K a.ks,aD 177 q.p a.ar,aj q.L 75 3 rdv xs,ak (xs.map gA),bF bR ((xs.take k).map dX++ [dX (x.1,r,x.2.2)])]++ [ao]):=h;have h:=h.front;refine⟨xs.length - (k+1),by omega,k+1,by rw [aI (by omega) (by omega)];omega,by omega,rfl,?_⟩;rw [dU,alW];exact h
 ·refine aJ (by simp;omega) ?_;rw [aln (by omega),fx] at h;have h:=h.dv (i:=3) (j:=4) (e:=75) (n:=3) (cells:=rdv) (sub:=gA) (vis:=dX) (s:=q.L) (xs:=xs) (l:=a.rows) (by decide) rfl rfl fx;have h:Hp O w w2 (af b 73 q.cells :: aK q.K a.ks :: aD 177 q.p a.ar :: bF q.L a.rows :: [bF out a.rows]):=h.ic [0,1,2,3,5] (by decide) rfl;have h:=jS q hf h;have:=back (rest:= [bF out a.rows]) rfl rfl h;rw [Hp.bN hi] at this;exact hK out w2 this
end
open FP (tB bu gL bQ bV bx dO)
theorem Ze:Tryz.prog.underlying 101=some (.slice 157):=by kernel_rfl
theorem Vp: ∃inf:TypeInfo,Tryz.prog.info? 157=some inf /\ inf.zero=some (.agg #[.int .i64 0,.int .i64 0]) /\ inf.size=2 /\ inf.bytes=16:=fU (by kernel_rfl)
abbrev RX:=bw×Sl×List PV
abbrev Dp (x:RX):List Value:= [.int .i64 x.1.1,.int .i64 x.1.2,.slice x.2.1.a x.2.1.len x.2.1.cap]
theorem Gq (x:RX):(Dp x).length=3:=rfl
def Dq (x:RX):gF:=(x.1,x.2.2.map bq)
def Zf (w:World) (O:List Nat) (x:RX):Prop:=(∃o,bO w x.2.1 2 ck x.2.2 o /\ ∀k∈o,k∈O) /\ ∀y∈x.2.2,∃o,bO w y.2.1 1 iv y.2.2 o /\ ∀k∈o,k∈O
def j5 (L:Sl) (xs:List RX):aa:=
  { holds:=fun w O=>(∀k∈O,k < w.heap.size) /\ (∃o,bO w L 3 Dp xs o /\ ∀k∈o,k∈O) /\ ∀x∈xs,Zf w O x
    fr:=fun{S w w' O} h hf hn=>⟨fun k hk=>by have:=h.1 k hk;have:=hf.size;omega,by
      obtain⟨_,⟨o,h1,h2⟩,h3⟩:=h;refine⟨⟨o,h1.fr hf (fun k hk=>hn k (h2 k hk)),h2⟩,fun x hx=>?_⟩;obtain⟨⟨o,h4,h5⟩,h6⟩:=h3 x hx;refine⟨⟨o,h4.fr hf (fun k hk=>hn k (h5 k hk)),h5⟩,fun y hy=>?_⟩;obtain⟨o,h7,h8⟩:=h6 y hy;exact⟨o,h7.fr hf (fun k hk=>hn k (h8 k hk)),h8⟩⟩
    lt:=fun h=>h.1}
theorem ug {α β:Type} {P:α->β->Prop}: ∀l:List α,(∀x∈l,∃y,P x y)-> ∃m:List β,m.length=l.length /\ ∀(i:Nat) (x:α),l[i]? =some x-> ∃y,m[i]? =some y /\ P x y
 | [],_=>⟨[],rfl,fun i x h=>by simp at h⟩
 | x :: l,h=>by
  obtain⟨y,hy⟩:=h x (by simp);obtain⟨m,h1,h2⟩:=ug l (fun z hz=>h z (by simp [hz]));refine⟨y :: m,by simp [h1],fun i z hz=>?_⟩
  cases i with
  | zero=>simp only [alo,ald] at hz;subst hz;exact⟨y,rfl,hy⟩
  | succ i=>simpa using h2 i z (by simpa using hz)
theorem Gr {w:World} {L:Sl} {l:List gF} (h:YU w L l): ∃(xs:List RX) (O:List Nat),xs.map Dq=l /\ (j5 L xs).holds w O:=by
 obtain⟨xs,rfl,⟨o,h2⟩,h3⟩:=h;obtain⟨m,h4,h5⟩:=ug (P:=fun(x:RV) (z:RX)=>z.1=x.1 /\ z.2.1=x.2.1 /\ z.2.2.map bq=x.2.2 /\ Zf w (List.range w.heap.size) z) xs fun x hx=>by
  obtain⟨ys,q1,⟨o,q2⟩,q3⟩:=h3 x hx;refine⟨(x.1,x.2.1,ys),rfl,rfl,q1,⟨o,q2,fun k hk=>al5.2 (q2.lt k hk)⟩,fun y hy=>?_⟩;obtain⟨o,q4⟩:=q3 y hy;exact⟨o,q4,fun k hk=>al5.2 (q4.lt k hk)⟩
 have eL: ∀(i:Nat) (z:RX),m[i]? =some z-> ∃x,xs[i]? =some x /\ z.1=x.1 /\ z.2.1=x.2.1 /\ z.2.2.map bq=x.2.2 /\ Zf w (List.range w.heap.size) z:=fun i z hz=>by
  have jD:=(ak6.1 hz).1;have hx:xs[i]? =some (xs[i]'(by omega)):=alf _;obtain⟨z',Dk,hp⟩:=h5 i _ hx;obtain rfl:z=z':=alm (hz.symm.trans Dk);exact⟨_,hx,hp⟩
 refine⟨m,List.range w.heap.size,?_,fun k hk=>al5.1 hk,⟨o,?_,fun k hk=>al5.2 (h2.lt k hk)⟩,fun z hz=>?_⟩
 ·apply alM;intro i;rw [alc,alc]
  cases hm:m[i]? with
  | none=>
   have:xs[i]? =none:=by rw [am7] at hm ⊢;omega
   rw [this];rfl
  | some z=>
   obtain⟨x,hx,q1,_,q3,_⟩:=eL i z hm;rw [hx];show some (z.1,z.2.2.map bq)=some (x.1,x.2.2);rw [q1,q3]
 ·have e:m.flatMap Dp=xs.flatMap rdv:=by
   have:m.map Dp=xs.map rdv:=by
    apply alM;intro i;rw [alc,alc]
    cases hm:m[i]? with
    | none=>
     have:xs[i]? =none:=by rw [am7] at hm ⊢;omega
     rw [this];rfl
    | some z=>
     obtain⟨x,hx,q1,q2,_,_⟩:=eL i z hm;rw [hx];show some (Dp z)=some (rdv x);unfold Dp rdv;rw [q1,q2]
   rw [an1,an1,this]
  unfold bO at h2 ⊢;rw [e,h4];exact h2
 ·obtain⟨i,hi,rfl⟩:=amd.1 hz;obtain⟨_,_,_,_,_,q⟩:=eL i _ (alf hi);exact q
theorem dP {u:aa} {L:Sl} {xs:List RX} (hu:u.holds=(j5 L xs).holds):Hp.Reads u L 3 Dp xs:=⟨fun{w O} h=>by
 rw [hu] at h;obtain⟨_,⟨o,h1,_⟩,_⟩:=h;exact⟨o,h1⟩⟩
theorem mD {u:aa} {L:Sl} {xs:List RX} (hu:u.holds=(j5 L xs).holds) {x:RX} (hx:x∈xs):Hp.Reads u x.2.1 2 ck x.2.2:=⟨fun{w O} h=>by
 rw [hu] at h;obtain⟨_,_,h2⟩:=h;obtain⟨⟨o,h3,_⟩,_⟩:=h2 x hx;exact⟨o,h3⟩⟩
theorem pW {u:aa} {L:Sl} {xs:List RX} (hu:u.holds=(j5 L xs).holds) {x:RX} (hx:x∈xs) {y:PV} (hy:y∈x.2.2):Hp.Reads u y.2.1 1 iv y.2.2:=⟨fun{w O} h=>by
 rw [hu] at h;obtain⟨_,_,h2⟩:=h;obtain⟨_,h3⟩:=h2 x hx;obtain⟨o,h4,_⟩:=h3 y hy;exact⟨o,h4⟩⟩
theorem AZ {u:aa} {L:Sl} {xs:List RX} (hu:u.holds=(j5 L xs).holds) {x:RX} (hx:x∈xs) {w:World} {O:List Nat} (h:u.holds w O):ri w x.2.1 (x.2.2.map bq):=
 ⟨x.2.2,rfl,(mD hu hx).rd h,fun y hy=>(pW hu hx hy).rd h⟩
section
variable {S:List Nat} {w0 w:World} {ae:List aa}
theorem A0 (h:Hp S w0 w ae) (i:Nat) {b:Nat} {a:WA} (hi:(ae[i]?).map aa.holds=some (fE b a).holds):
  ∃(q:RH) (xs:List RX),a.fits /\ xs.map Dq=a.rows /\ Hp [] w w [(af b 73 q.cells).ro,(aD 177 q.p a.ar).ro,(j5 q.L xs).ro]:=by
 obtain⟨O,q,hf,O1,O2,h1,⟨O3,O4,h2,⟨O5,O6,h3,h4,_⟩,_⟩,_⟩:=h.de hi;obtain⟨xs,O7,h5,h6⟩:=Gr (AR h4);exact⟨q,xs,hf,h5,(((Hp.init w).dC h1 (by simp)).dC h3 (by simp)).dC h6 (by simp)⟩
def ui (a:WA) (L:List bw) (s:Int):Option Int:=
 if (L.filter fun e=>decide ((a.row e).map aA=some s)).length=0 then none else some (((L.filter fun e=>decide ((a.row e).map aA=some s)).length:Nat):Int)
theorem Gs {l:List (Int×Int)} {q:Nat} {k v:Int} (hq:q < l.length) (aW: ∀(j:Nat) (hj:j < l.length),j < q->(l[j]).1≠k) (hk:(l[q]).1=k):qM l k v=l.set q (k,v) /\ ib l k=some (l[q]).2:=by
 have hf:(l.map (·.1)).findIdx? (fun b=>decide (b=k))=some q:=by
  rw [amj];refine⟨by simpa using hq,by simpa using hk,fun j hj=>?_⟩
  simpa using aW j (by omega) hj
 unfold qM ib;rw [hf];exact⟨rfl,by simp [hq]⟩
theorem CP {l:List (Int×Int)} {k v:Int} (aW: ∀(j:Nat) (hj:j < l.length),(l[j]).1≠k):qM l k v=l++ [(k,v)] /\ ib l k=none:=by
 have hf:(l.map (·.1)).findIdx? (fun b=>decide (b=k))=none:=by
  rw [am6];intro x hx;obtain⟨y,hy,rfl⟩:=alu.1 hx;obtain⟨j,hj,rfl⟩:=amd.1 hy
  simpa using aW j hj
 unfold qM ib;rw [hf];exact⟨rfl,rfl⟩
theorem CQ {a:WA} {L:List bw} {e:bw} {p:PL} (hp:a.row e=some p) {f:Int->Option Int} (hf: ∀s,f s=ui a L s) (s:Int):ui a (L++ [e]) s=if s=aA p then some ((f (aA p)).getD 0+1) else f s:=by
 rw [hf,hf];unfold ui;rw [List.filter_append];by_cases hs:s=aA p
 ·subst hs;have e1: [e].filter (fun e=>decide ((a.row e).map aA=some (aA p)))= [e]:=by simp [hp]
  rw [e1,if_pos rfl,alb,if_neg (by simp)]
  split
  ·rename_i h0
   rw [h0];rfl
  ·simp
 ·have e1: [e].filter (fun e=>decide ((a.row e).map aA=some s))= []:=by simp [hp];exact fun h=>hs h.symm
  rw [e1,if_neg hs,alh]
set_option maxHeartbeats 4000000 in
theorem HP (h:Hp S w0 w ae) (i:Nat) {b:Nat} {a:WA} (hi:(ae[i]?).map aa.holds=some (fE b a).holds) {K:Sl->World->Prop}
  (hK: ∀r zs w',(zs.map (·.1)).Nodup->(∀s,a.shape s=ib zs s)->zs.length<=200->Hp S w0 w' (ae++ [aj r 157 2 uf zs])->K r w'):c44 (some ⟨b,0,none⟩) w K:=by
 refine Ty ?_;unfold f44;obtain⟨inf,i1,i2,i3,i4⟩:=Vp;obtain⟨q,xs,hf,fx,h1⟩:=A0 h i hi;have ig:=jT hf.1;have eT:xs.length=a.all.length:=by
  have:=congrArg List.length fx;rw [alr] at this;unfold WA.rows at this;rw [alr] at this;exact this
 have hu:(j5 q.L xs).ro.holds=(j5 q.L xs).holds:=rfl;have hLl:=h1.dR (u:=j5 q.L xs) (s:=q.L) (l:=xs) (f:=Dp) (n:=3) 2 rfl (dP rfl);have h1:=h1.nil 157 2 uf;refine⟨fun out t mm w'=> ∃(k:Nat) (zs:List (Int×Int)),t=k /\ k<=xs.length /\ mm=xs.length - k /\ zs.length<=k /\ (zs.map (·.1)).Nodup /\ (∀s,ib zs s=ui a (a.all.take k) s) /\ Hp [] w w' [(af b 73 q.cells).ro,(aD 177 q.p a.ar).ro,(j5 q.L xs).ro,aj out 157 2 uf zs],⟨xs.length,0,[],rfl,by omega,rfl,by simp,by simp,fun s=>by simp [ui,J1],h1⟩,?_⟩;clear h1;rintro out t mm w2 ⟨k,zs,rfl,hk,rfl,hzk,LL,P8,h1⟩;have lq:=h1.len (s:=out) 3 rfl;refine aS ?_;refine h1.ld (n:=2) (k:=.sl) (x:=q.L) 0 rfl rfl ?_;by_cases av:k < xs.length
 ·refine aL (by simp;omega) ?_;have hx:xs[k]? =some xs[k]:=by simp [av]
  have fI:xs[k]∈xs:=alz av;have HQ:a.rows[k]? =some (Dq xs[k]):=by rw [<-fx,alc,hx];rfl
  generalize xs[k]=x at hx fI HQ;obtain⟨p,hpa,hp,kT,Iv,kU⟩:=pV hf (r:=Dq x) (ala HQ);have kT:x.2.2.map bq=partsOf p:=kT;have hp:a.row x.1=some p:=hp;have hae:a.all[k]? =some x.1:=by
   unfold WA.rows at HQ;rw [alc] at HQ;obtain⟨e,he,h3⟩:=alH.1 HQ;have:e=x.1:=(amx h3).1;rw [he,this]
  have aeE:a.all.take (k+1)=a.all.take k++ [x.1]:=by
   rw [amH,hae];rfl
  obtain⟨yR,yw⟩:=kQ hf.1.len.2 hf.1.four Iv kU;refine aS ?_;refine h1.ld (n:=2) (k:=.sl) (x:=q.L) 0 rfl rfl ?_;refine h1.uP (s:=q.L) (l:=xs) (f:=Dp) (n:=3) 2 rfl (dP hu) (by omega) (by rw [ak7];exact av) fun ad Ae=>?_;rw [ak7];refine h1.uQ (m:=2) (k:=.sl) (v:=x.2.1) 2 rfl (dP hu) Ae Gq hx rfl ?_;obtain⟨O',gD⟩:=h1.kY (i:=2) rfl;refine yh (AZ (u:=(j5 q.L xs).ro) hu fI gD) (by rw [kT];exact yR) (fun y hy=>by rw [kT] at hy;exact(yw y hy).2.2) ?_;rw [kT,nz];have rJ:=CQ (L:=a.all.take k) hp P8;rw [<-aeE] at rJ;generalize aA p=set at rJ;refine⟨fun k2 w'=> ∃r:Nat,k2=r /\ r<=zs.length /\ (∀(j:Nat) (hj:j < zs.length),j < r->(zs[j]).1≠set) /\ (∀hr:r < zs.length,(zs[r]).1=set) /\ Hp [] w w' [(af b 73 q.cells).ro,(aD 177 q.p a.ar).ro,(j5 q.L xs).ro,aj out 157 2 uf zs],?_,?_⟩
  ·refine⟨fun t mm w'=> ∃r:Nat,t=r /\ r<=zs.length /\ mm=zs.length - r /\ (∀(j:Nat) (hj:j < zs.length),j < r->(zs[j]).1≠set) /\ Hp [] w w' [(af b 73 q.cells).ro,(aD 177 q.p a.ar).ro,(j5 q.L xs).ro,aj out 157 2 uf zs],⟨zs.length,0,rfl,by omega,rfl,fun j _ h=>by omega,h1⟩,?_⟩;clear h1;rintro t mm w3 ⟨r,rfl,hr,rfl,dz,h1⟩;by_cases eT:r < zs.length
   ·refine aL (by simp;omega) ?_;have hz:zs[r]? =some zs[r]:=by simp [eT]
    refine h1.rf (s:=out) (l:=zs) (f:=uf) (n:=2) (e:=157) 3 rfl (by omega) (by rw [ak7];exact hz) pT fun Is lF=>?_;refine dG (k:=.i .i64) (x:=(zs[r]).1) (lF 0 (by omega)) rfl ?_;by_cases he:(zs[r]).1=set
    ·exact aJ (by simpa using he) ⟨r,rfl,hr,dz,fun _=>he,h1⟩
    ·refine aL (by simpa using he) ⟨zs.length - (r+1),by omega,r+1,by rw [aI (by omega) (by omega)];omega,by omega,rfl,fun j hj Mp=>?_,h1⟩;by_cases Ah:j < r
     ·exact dz j hj Ah
     ·obtain rfl:j=r:=by omega
      exact he
   ·exact aJ (by simp;omega) ⟨r,rfl,hr,dz,fun h=>absurd h eT,h1⟩
  clear h1;rintro k2 w3 ⟨r,rfl,hr,dz,tK,h1⟩;refine⟨fun fV w'=> ∃(Zg:List (Int×Int)) (n:Nat),Zg[r]? =some (set,(n:Int)) /\ Zg.set r (set,(n:Int)+1)=qM zs set ((ib zs set).getD 0+1) /\ n<=200 /\ Hp [] w w' [(af b 73 q.cells).ro,(aD 177 q.p a.ar).ro,(j5 q.L xs).ro,aj fV 157 2 uf Zg],?_,?_⟩
  ·by_cases eT:r < zs.length
   ·obtain⟨e1,e2⟩:=Gs (v:=(ib zs set).getD 0+1) eT dz (tK eT);have hn: ∃n:Nat,(zs[r]).2=n /\ n<=200:=by
     have:=P8 set;rw [e2] at this;unfold ui at this
     split at this
     ·cases this
     ·have hle:=anC (fun e=>decide ((a.row e).map aA=some set)) (a.all.take k);rw [alv] at hle;exact⟨_,alm this,by omega⟩
    obtain⟨n,A7,Ii⟩:=hn;have hz:zs[r]? =some (set,(n:Int)):=by rw [alf eT,<-A7,<-tK eT]
    refine aJ (by simp;omega) ⟨zs,n,hz,?_,Ii,h1⟩;rw [e1,e2,amu,A7]
   ·obtain rfl:r=zs.length:=by omega
    obtain⟨e1,e2⟩:=CP (v:=(ib zs set).getD 0+1) (fun j hj=>dz j hj hj);refine aL (by simp;omega) ?_;refine h1.cj 3 ((set,(0:Int)):Int×Int) (c:= [_,_]) rfl pT Ze i1 i3 i2 rfl rfl (by simp [uf,Value.oneCell']) (by rw [i4];omega) (by omega) fun bR w4 h1 _ _=>?_;exact⟨zs++ [(set,0)],0,by simp,by rw [e1,e2];simp,by omega,h1⟩
  clear h1;rintro fV w4 ⟨Zg,n,hz,jE,hn,h1⟩;refine h1.rf (s:=fV) (l:=Zg) (f:=uf) (n:=2) (e:=157) 3 rfl (by omega) (by rw [ak7];exact hz) pT fun Is lF=>?_;refine jB (k:=.i .i64) (x:=(n:Int)) (lF 1 (by omega)) rfl ?_;have hwn:i64.wrap ((n:Int)+1)=(n:Int)+1:=aI (by omega) (by omega);rw [hwn];refine h1.zt 3 (y:=((set,(n:Int)):Int×Int)) (y':=(set,(n:Int)+1)) (m:=1) rfl (by omega) (by rw [ak7];exact hz) pT (by omega) rfl rfl fun w5 h1=>?_;rw [ak7,jE] at h1;have KM:(qM zs set ((ib zs set).getD 0+1)).length<=zs.length+1:=by
   rw [<-jE,alV];by_cases eT:r < zs.length
   ·obtain⟨e1,e2⟩:=Gs (v:=(ib zs set).getD 0+1) eT dz (tK eT);have:=congrArg List.length jE;rw [e1,alV,alV] at this;omega
   ·obtain rfl:r=zs.length:=by omega
    obtain⟨e1,e2⟩:=CP (v:=(ib zs set).getD 0+1) (fun j hj=>dz j hj hj);have:=congrArg List.length jE;rw [e1,alV,alb] at this;simp at this;omega
  refine⟨xs.length - (k+1),by omega,k+1,qM zs set ((ib zs set).getD 0+1),by rw [aI (by omega) (by omega)];omega,by omega,rfl,by omega,zl _ _ _ LL,fun s=>?_,h1⟩;rw [BS,rJ]
 ·refine aJ (by simp;omega) ?_;have U6: ∀s,a.shape s=ib zs s:=fun s=>by
   rw [P8,aln (by omega)];rfl
  exact hK out zs w2 LL U6 (by omega) (h.r0 (rest:= [aj out 157 2 uf zs]) rfl (h1.ic [3] (by decide) rfl))
end
end Go.Proofs.YtcccjgmekakabaaGreat.FW
end
