/-
  Part 9 of the proof:WorldPlays of layer 6 is true of the given program for every input that its guards let in (of bulk at most 1048576).
-/
import Derived.Test.YtcccjgmekakabaaGreatPkH
import Derived.Laws.AppendOwn
set_option linter.unusedSimpArgs false
set_option linter.unusedVariables false
set_option maxRecDepth 100000
open Go.IntKind (i64 u64 u8)
section
namespace Go.Proofs.YtcccjgmekakabaaGreat.FW
open F
open Go Go.Den Go.Proofs
open FI (ai aD)
open FT (bw fo cu iv aB)
section
variable {S:List Nat} {w0 w:World} {ae:List aa}
theorem Gv {a:WA} {e:bw} {p:PL} {r:Nat} {kk:ByteArray×List ByteArray} {v:List Int} (hp:a.row e=some p) (uX:a.ks[r]? =some kk) (qR:p[r]? =some (some v)):a.ask e ((r+1:Nat):Int)=((p,r,kk.2.length),0) /\ p.getD r none=some v:=⟨mu hp uX,by rw [alk,qR];rfl⟩
theorem Zs {ks:KD} {r:Nat} {kk:ByteArray×List ByteArray} (uX:ks[r]? =some kk):fl ks ((r+1:Nat):Int)=some kk.2.length:=by
 unfold fl;rw [if_pos (by omega),show (((r+1:Nat):Int) - 1).toNat=r by omega,uX];rfl
theorem L8 {a:WA} {e:bw} {p:PL} {r n:Nat} (hp:a.row e=some p) (dh:fl a.ks ((r+1:Nat):Int)=some n):a.ask e ((r+1:Nat):Int)=((p,r,n),0):=by
 unfold WA.ask;rw [hp];dsimp only;rw [dh];dsimp only;rw [show (((r+1:Nat):Int) - 1).toNat=r by omega]
set_option maxHeartbeats 8000000 in
theorem Vz (h:Hp S w0 w ae) (i j:Nat) (iZ:i≠j) {b:Nat} {a:WA} {e:bw} {kind:Int} {u:aa} {sv:Sl} {v:List Int} (hi:ae[i]? =some (fE b a)) (hj:ae[j]? =some u) (hu:Hp.Reads u sv 1 iv v) (k1: -9223372036854775808<=kind) (k2:kind<=9223372036854775807) (qv:FP.eW v) {K:Int->World->Prop}
  (hK: ∀w',Hp S w0 w' (ae.set i (fE b (a.set e (kind,v)).1))->K (a.set e (kind,v)).2 w'):c82 (some ⟨b,0,none⟩) e.1 e.2 kind sv w K:=by
 refine Ue ?_;unfold f82;obtain⟨inf,i1,i2,i3,i4⟩:=xT;obtain⟨O,h1,back⟩:=h.XM iZ hi hj rfl;clear h;have h:=h1;clear h1;have same: ∀{w':World} {ts:List aa} {err:Int},a.set e (kind,v)=(a,err)->Hp O w w' (fE b a :: ts)->K err w':=fun{w' ts err} ha h=>by
  rw [ha] at hK;have:=back (rest:= []) rfl rfl (h.trim 1);rw [alh] at this;exact hK w' this
 have E6:Hp.Reads u.ro sv 1 iv v:=CV hu;have gJ:=h.dR (u:=u.ro) 1 rfl E6;refine h.nw (c:= [_,_]) fun eb w1 h=>?_;refine h.nw (c:= [_,_]) fun pb w2 h=>?_;have h:Hp O w w2 [fE b a,u.ro,af eb 33 [.int .i64 e.1,.int .i64 e.2],af pb 36 [.int .i64 kind,.slice sv.a sv.len sv.cap]]:=h;refine h.bE (k:=.i .i64) (x:=e.1) 2 rfl rfl ?_;refine h.ld (n:=1) (k:=.i .i64) (x:=e.2) 2 rfl rfl ?_;refine h.bE (k:=.i .i64) (x:=kind) 3 rfl rfl ?_;refine Fj h 0 (b:=b) (a:=a) rfl k1 k2 (fun w3 h=>⟨fun hn=>?_,fun p hp dh=>?_,fun p r n hp dh vD hg=>?_⟩) (fun q k r p kk v0 w3 h hp vD uX qR hq hk=>?_)
 ·exact aL (by simp) (same (by unfold WA.set;rw [kK hn,if_pos (by simp)]) h)
 ·exact aL (by simp) (same (by unfold WA.set;rw [kL hp dh,if_pos (by simp)]) h)
 ·subst vD;refine aL (by simp) (same ?_ h);unfold WA.set;dsimp only;rw [L8 hp dh,if_neg (by simp),if_pos hg]
 subst vD;obtain⟨kM,MS⟩:=Gv hp uX qR;obtain⟨_,_,hf,_⟩:=fw h 0 (b:=b) (a:=a) rfl;obtain⟨l1,l2,l3⟩:=iX hf hp;have fk:=yq hf;refine aJ (by simp) ?_;refine h.dr fun w4 h=>?_;refine h.ld (n:=1) (k:=.sl) (x:=sv) 3 rfl rfl ?_;refine h.bE (k:=.i .i64) (x:=((r+1:Nat):Int)) 3 rfl rfl ?_;refine yp h 0 (b:=b) (a:=a) rfl k1 k2 ?_;rw [Zs uX];dsimp only;refine⟨h.xl (n:=1) 3 rfl rfl,?_⟩;by_cases hn:v.length=kk.2.length
 case neg=>
  refine aL (by simp;omega) (same ?_ h);unfold WA.set;dsimp only;rw [kM,if_neg (by simp),if_neg (by dsimp only;rw [MS];simp),if_pos (by dsimp only;omega)]
 refine aJ (by simp;omega) (aS ?_);have Gg:=hf.1.four _ (ala uX);obtain⟨qh,_,h⟩:=pU h;have E4:=(ak6.1 hq).1;obtain⟨xs,x,fx,hx,CM,h⟩:=h.v8 (i:=3) (k:=q) rfl hq (fun _=>rfl);have h:Hp O w w4 [af b 73 qh.cells,aK qh.K a.ks,aD 177 qh.p a.ar,aj qh.L 75 3 rdv xs,u.ro,af eb 33 [.int .i64 e.1,.int .i64 e.2],af pb 36 [.int .i64 ((r+1:Nat):Int),.slice sv.a sv.len sv.cap],ak ((xs.map gA).set q ao),aN x.2.1 x.2.2]:=h;have Gb:x.1=e:=congrArg Prod.fst CM;have qp:x.2.2=partsOf p:=congrArg Prod.snd CM;have Vw:xs.length=a.rows.length:=by rw [<-fx,alr]
 obtain⟨ys,sJ,h⟩:=h.du (i:=8) rfl;have h:=h.nil 36 2 ck;have h:Hp O w w4 [af b 73 qh.cells,aK qh.K a.ks,aD 177 qh.p a.ar,aj qh.L 75 3 rdv xs,u.ro,af eb 33 [.int .i64 e.1,.int .i64 e.2],af pb 36 [.int .i64 ((r+1:Nat):Int),.slice sv.a sv.len sv.cap],ak ((xs.map gA).set q ao),aj x.2.1 36 2 ck ys,ak (ys.map tV),aj ⟨none,0,0⟩ 36 2 ck []]:=h;have aeW:ys.length=(partsOf p).length:=by rw [<-qp,<-sJ,alr]
 have vA:=h.len (s:=x.2.1) (l:=ys) (e:=36) (n:=2) (f:=ck) 8 rfl;have cO:=(ak6.1 hk).1;refine h.ld (n:=2) (k:=.sl) (x:=qh.L) 0 rfl rfl ?_;refine h.rf (s:=qh.L) (l:=xs) (f:=rdv) (n:=3) (e:=75) 3 rfl (by omega) (by rw [ak7];exact hx) cc fun ad hc=>?_;refine jB (k:=.sl) (x:=x.2.1) (hc 2 (by omega)) rfl ?_;refine h.gq 10 8 (s:=⟨none,0,0⟩) (s2:=x.2.1) (u:=aj x.2.1 36 2 ck ys) rfl rfl Hp.bZ aR nL i1 i3 i2 rfl (by simp [ck,Value.oneCell']) (by rw [i4];show (0+x.2.1.len)*32<=_;omega) (by show 0+x.2.1.len<=_;omega) fun l w5 h p5 _=>?_;refine h.dr fun w6 h=>?_;refine h.bE (k:=.i .i64) (x:=((r+1:Nat):Int)) 6 rfl rfl ?_;refine h.ld (n:=1) (k:=.sl) (x:=sv) 6 rfl rfl ?_;have Vy: ∃o,bO w6 sv 1 iv v o:=by
  obtain⟨O',gD⟩:=h.kY (i:=4) rfl;exact E6.rd gD
 refine qZ h Vy (by omega) fun r2 w7 h=>?_;have h:Hp O w w7 [af b 73 qh.cells,aK qh.K a.ks,aD 177 qh.p a.ar,aj qh.L 75 3 rdv xs,u.ro,af eb 33 [.int .i64 e.1,.int .i64 e.2],af pb 36 [.int .i64 ((r+1:Nat):Int),.slice sv.a sv.len sv.cap],ak ((xs.map gA).set q ao),aj x.2.1 36 2 ck ys,ak (ys.map tV),aj l 36 2 ck ys,aj r2 2 1 iv v]:=h;refine⟨h.vw 6 rfl rfl,?_⟩;refine h.FL (s:=l) (y:=((((r+1:Nat):Int),r2,v):PV)) 10 rfl (by omega) (by rw [ak7];omega) aR rfl rfl rfl fun w8 h=>?_;rw [ak7] at h;refine aS (h.ld (n:=2) (k:=.sl) (x:=qh.L) 0 rfl rfl ?_);refine h.zt (s:=qh.L) (l:=xs) (f:=rdv) (n:=3) (e:=75) 3 (y:=x) (y':=(x.1,l,partsOf (p.set r (some v)))) (m:=2) rfl (by omega) (by rw [ak7];exact hx) cc (by omega) rfl rfl fun w9 h=>?_;rw [ak7] at h;have h:Hp O w w9 [af b 73 qh.cells,aK qh.K a.ks,aD 177 qh.p a.ar,aj qh.L 75 3 rdv (xs.set q (x.1,l,partsOf (p.set r (some v)))),u.ro,af eb 33 [.int .i64 e.1,.int .i64 e.2],af pb 36 [.int .i64 ((r+1:Nat):Int),.slice sv.a sv.len sv.cap],ak ((xs.map gA).set q ao),aj x.2.1 36 2 ck ys,ak (ys.map tV),aj l 36 2 ck (ys.set k (((r+1:Nat):Int),r2,v)),tV (((r+1:Nat):Int),r2,v)]:=h;have yO:ys[k]? =some (ys[k]'(by omega)):=alf _;generalize ys[k]'(by omega)=y0 at yO;have h:=h.pick (i:=9) (k:=k) (t:=tV y0) rfl (by rw [alc,yO];rfl) rfl;have HC:k < (ys.map tV).length:=by rw [alr];omega
 have h:=h.iT (i:=9) (j:=11) (k:=k) (ts:=(ys.map tV).set k ao) (t:=tV (((r+1:Nat):Int),r2,v)) (by decide) rfl rfl (by rw [alx HC]) rfl;rw [al2,<-amm] at h;have e2:(ys.set k (((r+1:Nat):Int),r2,v)).map bq=partsOf (p.set r (some v)):=by
  have MV:(partsOf p)[k]? =some (((r+1:Nat):Int),v0):=hk;rw [amm,sJ,qp,Fa qR MV v];rfl
 have h:=h.dv (i:=10) (j:=9) (s:=l) (e:=36) (n:=2) (cells:=ck) (sub:=tV) (vis:=bq) (xs:=ys.set k (((r+1:Nat):Int),r2,v)) (by omega) rfl rfl e2;have h:=h.pX (i:=3) (j:=7) (m:=10) (k:=q) (cells:=rdv) (sub:=gA) (vis:=dX) (xs:=xs) (x':=(x.1,l,partsOf (p.set r (some v)))) (s:=qh.L) (e:=75) (n:=3) (by omega) (by omega) (by omega) (by omega) rfl rfl rfl rfl;have ha:a.set e (((r+1:Nat):Int),v)=(a.put e (p.set r (some v)),0):=by
  unfold WA.set;dsimp only;rw [kM,if_neg (by simp),if_neg (by dsimp only;rw [MS];simp),if_neg (by dsimp only;omega)]
 rw [ha] at hK;have eJ:=yr hf (e:=e) (by rw [hp];rfl) (p:=p.set r (some v)) (mq (hf.1.Gf e p hp) r qv) ((hf.2 e p hp).set uX (by omega));have e0:(xs.map dX).set q (dX (x.1,l,partsOf (p.set r (some v))))=(a.put e (p.set r (some v))).rows:=by
  rw [fx,ym hf.1 eJ.1 hq rfl rfl];show a.rows.set q (x.1,partsOf (p.set r (some v)))=_;rw [Gb]
 rw [e0] at h;have h:=jS (b:=b) (a:=a.put e (p.set r (some v))) qh (rest:= [u.ro,af eb 33 [.int .i64 e.1,.int .i64 e.2],af pb 36 [.int .i64 ((r+1:Nat):Int),.slice sv.a sv.len sv.cap],ao,aj x.2.1 36 2 ck ys,ao,ao,ao,tV y0]) eJ h;have:=back (rest:= []) rfl rfl (h.trim 1);rw [alh] at this;exact hK w9 this
set_option maxHeartbeats 8000000 in
theorem H2 (h:Hp S w0 w ae) (i:Nat) {b:Nat} {a:WA} {e:bw} {kind:Int} (hi:ae[i]? =some (fE b a)) (k1: -9223372036854775808<=kind) (k2:kind<=9223372036854775807) {K:Int->World->Prop}
  (hK: ∀w',Hp S w0 w' (ae.set i (fE b (a.remove e kind).1))->K (a.remove e kind).2 w'):c31 (some ⟨b,0,none⟩) e.1 e.2 kind w K:=by
 refine Td ?_;unfold f31;obtain⟨inf,i1,i2,i3,i4⟩:=xT;obtain⟨O,h1,back⟩:=h.f1 hi rfl;clear h;have h:=h1;clear h1;have same: ∀{w':World} {ts:List aa} {err:Int},a.remove e kind=(a,err)->Hp O w w' (fE b a :: ts)->K err w':=fun{w' ts err} ha h=>by
  rw [ha] at hK;have:=back (rest:= []) rfl rfl (h.trim 1);rw [alh] at this;exact hK w' this
 refine h.nw (c:= [_,_]) fun eb w1 h=>?_;have h:Hp O w w1 [fE b a,af eb 33 [.int .i64 e.1,.int .i64 e.2]]:=h;refine h.bE (k:=.i .i64) (x:=e.1) 1 rfl rfl ?_;refine h.ld (n:=1) (k:=.i .i64) (x:=e.2) 1 rfl rfl ?_;refine Fj h 0 (b:=b) (a:=a) rfl k1 k2 (fun w3 h=>⟨fun hn=>?_,fun p hp dh=>?_,fun p r n hp dh vD hg=>?_⟩) (fun q k r p kk v0 w3 h hp vD uX qR hq hk=>?_)
 ·exact aL (by simp) (same (by unfold WA.remove;rw [kK hn,if_pos (by simp)]) h)
 ·exact aL (by simp) (same (by unfold WA.remove;rw [kL hp dh,if_pos (by simp)]) h)
 ·subst vD;refine aL (by simp) (same ?_ h);unfold WA.remove;rw [L8 hp dh,if_neg (by simp),if_pos hg]
 subst vD;obtain⟨kM,MS⟩:=Gv hp uX qR;obtain⟨_,_,hf,_⟩:=fw h 0 (b:=b) (a:=a) rfl;obtain⟨l1,l2,l3⟩:=iX hf hp;have fk:=yq hf;refine aJ (by simp) (aS ?_);obtain⟨qh,_,h⟩:=pU h;have E4:=(ak6.1 hq).1;obtain⟨xs,x,fx,hx,CM,h⟩:=h.v8 (i:=3) (k:=q) rfl hq (fun _=>rfl);have h:Hp O w w3 [af b 73 qh.cells,aK qh.K a.ks,aD 177 qh.p a.ar,aj qh.L 75 3 rdv xs,af eb 33 [.int .i64 e.1,.int .i64 e.2],ak ((xs.map gA).set q ao),aN x.2.1 x.2.2]:=h;have Gb:x.1=e:=congrArg Prod.fst CM;have qp:x.2.2=partsOf p:=congrArg Prod.snd CM;have Vw:xs.length=a.rows.length:=by rw [<-fx,alr]
 obtain⟨ys,sJ,h⟩:=h.du (i:=6) rfl;have h:=h.nil 36 2 ck;have h:Hp O w w3 [af b 73 qh.cells,aK qh.K a.ks,aD 177 qh.p a.ar,aj qh.L 75 3 rdv xs,af eb 33 [.int .i64 e.1,.int .i64 e.2],ak ((xs.map gA).set q ao),aj x.2.1 36 2 ck ys,ak (ys.map tV),aj ⟨none,0,0⟩ 36 2 ck []]:=h;have aeW:ys.length=(partsOf p).length:=by rw [<-qp,<-sJ,alr]
 have vA:=h.len (s:=x.2.1) (l:=ys) (e:=36) (n:=2) (f:=ck) 6 rfl;have hyc:=h.cap (s:=x.2.1) (l:=ys) (e:=36) (n:=2) (f:=ck) 6 rfl;have cO:=(ak6.1 hk).1;have Vx: ∀{w':World} {ts:List aa} {K':Sl->Prop},Hp O w w' ts->ts[0]? =some (af b 73 qh.cells)->ts[3]? =some (aj qh.L 75 3 rdv xs)->K' x.2.1->(Ld .sl w' ((⟨b,0,none⟩:Addr).add 2) fun L=>Ix L.a L.len (q:Int) 3 fun a=>Ld .sl w' (a.add 2) K'):=fun{w' ts K'} h g0 g3 hk=>by
  refine h.ld (n:=2) (k:=.sl) (x:=qh.L) 0 (by rw [g0];rfl) rfl ?_;refine h.rf (s:=qh.L) (l:=xs) (f:=rdv) (n:=3) (e:=75) 3 (by rw [g3];rfl) (by omega) (by rw [ak7];exact hx) cc fun ad hc=>?_;exact jB (k:=.sl) (x:=x.2.1) (hc 2 (by omega)) rfl hk
 refine Vx h rfl rfl ?_;refine Hp.nU (s:=x.2.1) (u:=aj x.2.1 36 2 ck ys) Hp.bZ vA aR (by omega) (by omega) (by omega) (al4 _) (by omega) fun s5 F5 E8 Y8=>?_;have e1:(ys.take ((k:Nat):Int).toNat).drop (0:Int).toNat=ys.take k:=by rw [ak7];rfl
 rw [e1] at F5;rw [ak7] at E8;have E8:s5.len=k:=by rw [E8];simp
 refine h.gq 8 6 (s:=⟨none,0,0⟩) (s2:=s5) (u:=aj x.2.1 36 2 ck ys) rfl rfl F5 aR nL i1 i3 i2 rfl (by simp [ck,Value.oneCell']) (by rw [i4,E8];show (0+k)*32<=_;omega) (by rw [E8];show 0+k<=_;omega) fun l w5 h p5 _=>?_;have h:Hp O w w5 [af b 73 qh.cells,aK qh.K a.ks,aD 177 qh.p a.ar,aj qh.L 75 3 rdv xs,af eb 33 [.int .i64 e.1,.int .i64 e.2],ak ((xs.map gA).set q ao),aj x.2.1 36 2 ck ys,ak (ys.map tV),aj l 36 2 ck (ys.take k)]:=h;have aeX:=h.len (s:=l) (l:=ys.take k) (e:=36) (n:=2) (f:=ck) 8 rfl;rw [alv] at aeX;refine h.dr fun w6 h=>aS (h.ld (n:=2) (k:=.sl) (x:=qh.L) 0 rfl rfl (aS ?_));refine Vx h rfl rfl ?_;have IY:i64.wrap ((k:Int)+1)=((k+1:Nat):Int):=by rw [aI (by omega) (by omega)];omega
 rw [IY];refine Hp.nU (s:=x.2.1) (u:=aj x.2.1 36 2 ck ys) Hp.bZ vA aR (by omega) (by omega) (by omega) (al4 _) (by omega) fun s7 Ps Zc hc7=>?_;have e2:(ys.take ((x.2.1.len:Nat):Int).toNat).drop ((k+1:Nat):Int).toNat=ys.drop (k+1):=by rw [ak7,ak7,aln (by omega)]
 rw [e2] at Ps;rw [ak7,ak7] at Zc;refine h.gq 8 6 (s:=l) (s2:=s7) (u:=aj x.2.1 36 2 ck ys) rfl rfl Ps aR nL i1 i3 i2 rfl (by simp [ck,Value.oneCell']) (by rw [i4];omega) (by omega) fun l2 w7 h _ _=>?_;have e3:ys.take k++ys.drop (k+1)=ys.eraseIdx k:=(List.eraseIdx_eq_take_drop_succ ys k).symm;rw [e3] at h;refine⟨h.xl (n:=2) 0 rfl rfl,?_⟩;refine h.zt (s:=qh.L) (l:=xs) (f:=rdv) (n:=3) (e:=75) 3 (y:=x) (y':=(x.1,l2,partsOf (p.set r none))) (m:=2) rfl (by omega) (by rw [ak7];exact hx) cc (by omega) rfl rfl fun w9 h=>?_;rw [ak7] at h;have h:Hp O w w9 [af b 73 qh.cells,aK qh.K a.ks,aD 177 qh.p a.ar,aj qh.L 75 3 rdv (xs.set q (x.1,l2,partsOf (p.set r none))),af eb 33 [.int .i64 e.1,.int .i64 e.2],ak ((xs.map gA).set q ao),aj x.2.1 36 2 ck ys,ak (ys.map tV),aj l2 36 2 ck (ys.eraseIdx k)]:=h;have h:=h.LQ k (i:=7) rfl;rw [mE] at h;have e4:(ys.eraseIdx k).map bq=partsOf (p.set r none):=by
  have MV:(partsOf p)[k]? =some (((r+1:Nat):Int),v0):=hk;rw [<-mE,sJ,qp,CU qR MV]
 have h:=h.dv (i:=8) (j:=7) (s:=l2) (e:=36) (n:=2) (cells:=ck) (sub:=tV) (vis:=bq) (xs:=ys.eraseIdx k) (by omega) rfl rfl e4;have h:=h.pX (i:=3) (j:=5) (m:=8) (k:=q) (cells:=rdv) (sub:=gA) (vis:=dX) (xs:=xs) (x':=(x.1,l2,partsOf (p.set r none))) (s:=qh.L) (e:=75) (n:=3) (by omega) (by omega) (by omega) (by omega) rfl rfl rfl rfl;have ha:a.remove e ((r+1:Nat):Int)=(a.put e (p.set r none),0):=by
  unfold WA.remove;rw [kM,if_neg (by simp),if_neg (by dsimp only;rw [MS];simp)]
 rw [ha] at hK;have eJ:=yr hf (e:=e) (by rw [hp];rfl) (p:=p.set r none) (u9 (hf.1.Gf e p hp) r) ((hf.2 e p hp).off r);have e0:(xs.map dX).set q (dX (x.1,l2,partsOf (p.set r none)))=(a.put e (p.set r none)).rows:=by
  rw [fx,ym hf.1 eJ.1 hq rfl rfl];show a.rows.set q (x.1,partsOf (p.set r none))=_;rw [Gb]
 rw [e0] at h;have h:=jS (b:=b) (a:=a.put e (p.set r none)) qh (rest:= [af eb 33 [.int .i64 e.1,.int .i64 e.2],ao,aj x.2.1 36 2 ck ys,ao,ao]) eJ h;have:=back (rest:= []) rfl rfl (h.trim 1);rw [alh] at this;exact hK w9 this
end
structure Qb (w:World) (n:Nat) (g:Int->List Value) (q:Sh):Prop where
 v: ∃o,bO w q.v 1 mz q.cR o
 x: ∃o,bO w q.x 1 nx q.cR o
 all: ∀y∈q.cR,∃o,bO w y.1 n g (List.replicate y.1.len y.2) o
theorem Qb.cn {w w':World} {n:Nat} {g:Int->List Value} {q:Sh} (h:Qb w n g q) (hf:Fr [] w w'):Qb w' n g q:=⟨bO.cn h.v hf,bO.cn h.x hf,fun y hy=>bO.cn (h.all y hy) hf⟩
theorem yt {w:World} {et em e:TypeId} {n:Nat} {g:Int->List Value} {q:Sh} {O:List Nat} (h:(o6 et em e n g q).holds w O) (hn:q.new= []):Qb w n g q:=by
 obtain⟨O1,O2,h1,⟨O3,O4,h3,⟨O5,O6,h5,_⟩,_⟩,_⟩:=h;rw [hn,alh] at h1 h3;exact⟨⟨O1,cq.toR h1⟩,⟨O3,cq.toR h3⟩,fun y hy=>by
  obtain⟨o,g1,_⟩:=h5.2 y hy;exact⟨o,g1⟩⟩
section
variable {S:List Nat} {w0 w:World} {ae:List aa}
set_option maxHeartbeats 8000000 in
theorem Fk (h:Hp S w0 w ae) (i:Nat) {bp N:Nat} {p:PC} (hi:ae[i]? =some (bj bp p N 0)) (hN:N<=1000000000) {K:Bool->World->Prop} (hK: ∀w',Hp S w0 w' ae->K true w'):Z2 (some ⟨bp,6,none⟩) w K:=by
 refine SM ?_;unfold f10;obtain⟨O,hO⟩:=h.kY hi;obtain⟨q,hq,O1,O2,⟨hb,-⟩,⟨O3,O4,hV,⟨O5,O6,hP,hR,_⟩,_⟩,_⟩:=hO;have nV:q.V.new= []:=alL (by have:=hq.1.2.1;omega);have nP:q.P.new= []:=alL (by have:=hq.2.1.2.1;omega);have nR:q.R.new= []:=alL (by have:=hq.2.2.2.1;omega);have okV:=yt hV nV;have cr:=yt hP nP;have okR:=yt hR nR;have lV:=hq.1.1;have lP:=hq.2.1.1;have lR:=hq.2.2.1;have sV:=hq.1.2.2.1;have sP:=hq.2.1.2.2.1;have sR:=hq.2.2.2.2.1;clear hV hP hR nV nP nR hq;have bk: ∀{w':World},Fr [] w w'->fF w' bp 53 (q.cells p):=fun{w'} hf=>hb.fr hf (by simp)
 -- numbers
 refine⟨fun t mm w'=> ∃k:Nat,t=k /\ k<=q.V.cR.length /\ mm=q.V.cR.length - k /\ Fr [] w w',⟨q.V.cR.length,0,rfl,by omega,rfl,Fr.refl _ _⟩,?_⟩;rintro t mm w1 ⟨k,rfl,hk,rfl,f1⟩;have vl:q.V.cR.length=q.V.v.len:=by obtain⟨o,g⟩:=okV.v;exact g.len
 refine aS (Go.Den.ld (k:=.sl) (x:=q.V.v) (bk f1) rfl ?_);by_cases av:k < q.V.cR.length
 ·refine aL (by simp;omega) ?_;have hx:q.V.cR[k]? =some q.V.cR[k]:=by simp [av]
  have fI:q.V.cR[k]∈q.V.cR:=alz av;generalize q.V.cR[k]=x at hx fI;have fx:=sV x fI;have rv: ∀{w':World} {K':Sl->Prop},Fr [] w w'->K' x.1->(Ld .sl w' ⟨bp,6,none⟩ fun v=>Ix v.a v.len (k:Int) 1 fun a=>Ld .sl w' a K'):=fun{w' K'} hf hk=>by
   refine Go.Den.ld (k:=.sl) (x:=q.V.v) (bk hf) rfl ?_;obtain⟨o,g⟩:=(okV.cn hf).v;refine bO.ix gS g (by omega) (x:=x) (by rw [ak7];exact hx) fun ad hc=>?_;exact dG (k:=.sl) (x:=x.1) (hc 0 (by omega)) rfl hk
  refine⟨fun t mm w'=> ∃j:Nat,t=j /\ j<=x.1.len /\ mm=x.1.len - j /\ Fr [] w w',⟨x.1.len,0,rfl,by omega,rfl,f1⟩,?_⟩;rintro t mm w2 ⟨j,rfl,hj,rfl,f2⟩;refine aS (rv f2 ?_);by_cases gQ:j < x.1.len
  ·refine aL (by simp;omega) (MJ fun w3 f3=>?_);have f3:=f2.trans f3 (by simp);refine aS (rv f3 ?_);obtain⟨o,g⟩:=(okV.cn f3).all x fI;refine bO.ix aB g (by omega) (x:=x.2) (by rw [ak7,ams,if_pos gQ]) fun ad hc=>?_;refine dG (k:=.i .i64) (x:=x.2) (hc 0 (by omega)) rfl (aS ?_);refine Go.Den.R2 (k:=.sl) (x:=q.V.x) (bk f3) rfl ?_;obtain⟨o,g⟩:=(okV.cn f3).x;refine bO.ix fj g (by omega) (x:=x) (by rw [ak7];exact hx) fun ad hc=>?_;refine dG (k:=.i .i64) (x:=x.2) (hc 0 (by omega)) rfl ?_;exact aJ (by simp) ⟨x.1.len - (j+1),by omega,j+1,by rw [aI (by omega) (by omega)];omega,by omega,rfl,f3⟩
  ·exact aJ (by simp;omega) ⟨q.V.cR.length - (k+1),by omega,k+1,by rw [aI (by omega) (by omega)];omega,by omega,rfl,f2⟩
 refine aJ (by simp;omega) ?_
 -- parts
 refine⟨fun t mm w'=> ∃k:Nat,t=k /\ k<=q.P.cR.length /\ mm=q.P.cR.length - k /\ Fr [] w w',⟨q.P.cR.length,0,rfl,by omega,rfl,f1⟩,?_⟩;clear f1 av hk;rintro t mm w1 ⟨k,rfl,hk,rfl,f1⟩;have vl:q.P.cR.length=q.P.v.len:=by obtain⟨o,g⟩:=cr.v;exact g.len
 refine aS (Go.Den.R2 (k:=.sl) (x:=q.P.v) (bk f1) rfl ?_);by_cases av:k < q.P.cR.length
 ·refine aL (by simp;omega) ?_;have hx:q.P.cR[k]? =some q.P.cR[k]:=by simp [av]
  have fI:q.P.cR[k]∈q.P.cR:=alz av;generalize q.P.cR[k]=x at hx fI;have fx:=sP x fI;have rv: ∀{w':World} {K':Sl->Prop},Fr [] w w'->K' x.1->(Ld .sl w' ((⟨bp,6,none⟩:Addr).add 1) fun v=>Ix v.a v.len (k:Int) 1 fun a=>Ld .sl w' a K'):=fun{w' K'} hf hk=>by
   refine Go.Den.R2 (k:=.sl) (x:=q.P.v) (bk hf) rfl ?_;obtain⟨o,g⟩:=(cr.cn hf).v;refine bO.ix gS g (by omega) (x:=x) (by rw [ak7];exact hx) fun ad hc=>?_;exact dG (k:=.sl) (x:=x.1) (hc 0 (by omega)) rfl hk
  refine⟨fun t mm w'=> ∃j:Nat,t=j /\ j<=x.1.len /\ mm=x.1.len - j /\ Fr [] w w',⟨x.1.len,0,rfl,by omega,rfl,f1⟩,?_⟩;rintro t mm w2 ⟨j,rfl,hj,rfl,f2⟩;refine aS (rv f2 ?_);by_cases gQ:j < x.1.len
  ·refine aL (by simp;omega) (MJ fun w3 f3=>?_);have f3:=f2.trans f3 (by simp);refine aS (rv f3 ?_);obtain⟨o,g⟩:=(cr.cn f3).all x fI;refine bO.ix E1 g (by omega) (x:=x.2) (by rw [ak7,ams,if_pos gQ]) fun ad hc=>?_;refine dG (k:=.i .i64) (x:=x.2) (hc 0 (by omega)) rfl (aS ?_);refine Go.Den.R2 (k:=.sl) (x:=q.P.x) (bk f3) rfl ?_;obtain⟨o,g2⟩:=(cr.cn f3).x;refine bO.ix fj g2 (by omega) (x:=x) (by rw [ak7];exact hx) fun ad hc=>?_;refine dG (k:=.i .i64) (x:=x.2) (hc 0 (by omega)) rfl ?_;refine aJ (by simp) (aS (rv f3 ?_));refine bO.ix E1 g (by omega) (x:=x.2) (by rw [ak7,ams,if_pos gQ]) fun ad hc=>?_;refine jB (k:=.sl) (x:=⟨none,0,0⟩) (hc 1 (by omega)) rfl ?_;exact aJ (by simp) ⟨x.1.len - (j+1),by omega,j+1,by rw [aI (by omega) (by omega)];omega,by omega,rfl,f3⟩
  ·exact aJ (by simp;omega) ⟨q.P.cR.length - (k+1),by omega,k+1,by rw [aI (by omega) (by omega)];omega,by omega,rfl,f2⟩
 refine aJ (by simp;omega) ?_
 -- rows
 refine⟨fun t mm w'=> ∃k:Nat,t=k /\ k<=q.R.cR.length /\ mm=q.R.cR.length - k /\ Fr [] w w',⟨q.R.cR.length,0,rfl,by omega,rfl,f1⟩,?_⟩;clear f1 av hk;rintro t mm w1 ⟨k,rfl,hk,rfl,f1⟩;have vl:q.R.cR.length=q.R.v.len:=by obtain⟨o,g⟩:=okR.v;exact g.len
 refine aS (Go.Den.R2 (k:=.sl) (x:=q.R.v) (bk f1) rfl ?_);by_cases av:k < q.R.cR.length
 ·refine aL (by simp;omega) ?_;have hx:q.R.cR[k]? =some q.R.cR[k]:=by simp [av]
  have fI:q.R.cR[k]∈q.R.cR:=alz av;generalize q.R.cR[k]=x at hx fI;have fx:=sR x fI;have rv: ∀{w':World} {K':Sl->Prop},Fr [] w w'->K' x.1->(Ld .sl w' ((⟨bp,6,none⟩:Addr).add 2) fun v=>Ix v.a v.len (k:Int) 1 fun a=>Ld .sl w' a K'):=fun{w' K'} hf hk=>by
   refine Go.Den.R2 (k:=.sl) (x:=q.R.v) (bk hf) rfl ?_;obtain⟨o,g⟩:=(okR.cn hf).v;refine bO.ix gS g (by omega) (x:=x) (by rw [ak7];exact hx) fun ad hc=>?_;exact dG (k:=.sl) (x:=x.1) (hc 0 (by omega)) rfl hk
  refine⟨fun t mm w'=> ∃j:Nat,t=j /\ j<=x.1.len /\ mm=x.1.len - j /\ Fr [] w w',⟨x.1.len,0,rfl,by omega,rfl,f1⟩,?_⟩;rintro t mm w2 ⟨j,rfl,hj,rfl,f2⟩;refine aS (rv f2 ?_);by_cases gQ:j < x.1.len
  ·refine aL (by simp;omega) (MJ fun w3 f3=>?_);have f3:=f2.trans f3 (by simp);refine aS (rv f3 ?_);obtain⟨o,g⟩:=(okR.cn f3).all x fI;refine bO.ix E2 g (by omega) (x:=x.2) (by rw [ak7,ams,if_pos gQ]) fun ad hc=>?_;refine dG (k:=.i .i64) (x:=x.2) (hc 0 (by omega)) rfl ?_;refine jB (k:=.i .i64) (x:=(0:Int)) (hc 1 (by omega)) rfl (aS ?_);refine Go.Den.R2 (k:=.sl) (x:=q.R.x) (bk f3) rfl ?_;obtain⟨o,g2⟩:=(okR.cn f3).x;refine bO.ix fj g2 (by omega) (x:=x) (by rw [ak7];exact hx) fun ad hc=>?_;refine dG (k:=.i .i64) (x:=x.2) (hc 0 (by omega)) rfl (FT.QE ?_);refine aJ (by simp) (aS (rv f3 ?_));refine bO.ix E2 g (by omega) (x:=x.2) (by rw [ak7,ams,if_pos gQ]) fun ad hc=>?_;refine jB (k:=.sl) (x:=⟨none,0,0⟩) (hc 2 (by omega)) rfl ?_;exact aJ (by simp) ⟨x.1.len - (j+1),by omega,j+1,by rw [aI (by omega) (by omega)];omega,by omega,rfl,f3⟩
  ·exact aJ (by simp;omega) ⟨q.R.cR.length - (k+1),by omega,k+1,by rw [aI (by omega) (by omega)];omega,by omega,rfl,f2⟩
 ·exact aJ (by simp;omega) (hK w1 (h.cn f1))
end
end Go.Proofs.YtcccjgmekakabaaGreat.FW
end

section
namespace Go.Proofs.YtcccjgmekakabaaGreat.FW
open F
open Go Go.Den Go.Proofs Go.RowKit
theorem Zt:Tryz.prog.underlying 107=some (.struct (Tryz.prog.fieldsOf 107)):=by kernel_rfl
theorem Zu:Tryz.prog.cellsOf 9=1:=by kernel_rfl
theorem Zv:Tryz.prog.cellsOf 45=1:=by kernel_rfl
theorem Zw:Tryz.prog.cellsOf 107=2:=by kernel_rfl
theorem L9 {w:World} {B n:Nat} {cs:List Value} (h:rK Tryz.prog w B n 45 cs): ∃(s:Sl) (l:List ByteArray) (o:List Nat),cs= [.slice s.a s.len s.cap] /\ bO w s 1 sv l o /\ l.length<=B /\ s.len<=s.cap /\ ∀x∈l,x.size<=B:=by
 obtain⟨s,l,o,h1,h2,h3,_,h4,h5⟩:=oy (f:=sv) (G:=fun x=>x.size<=B) ql Zu (by omega) (fun m ci _ hr=>by
  obtain⟨x,hx,_,h⟩:=zh UQ hr;exact⟨x,hx,h⟩) h
 exact⟨s,l,o,h1,h2,h4,h5,h3⟩
theorem Ma {w:World} {B m:Nat} {ci:List Value} (hl:ci.length=2) (h:rK Tryz.prog w B m 107 ci):
  ∃x:KS,ci=df x /\ x.2.1.len<=x.2.1.cap /\ (∃o,bO w x.2.1 1 sv x.2.2 o) /\ x.2.2.length<=B /\ x.1.size<=B /\ ∀y∈x.2.2,y.size<=B:=by
 obtain⟨_,q,hf⟩:=lX Zt h
 match ci,hl with
 | [c0,c1],_=>
  obtain⟨m0,e0,_,h0⟩:=zh UQ (ee hf 0 (ft:=9) (off:=0) (sz:=1) (by kernel_rfl) Zu);obtain⟨s,l,o,e1,h1,h2,h3,h4⟩:=L9 (ee hf 1 (ft:=45) (off:=1) (sz:=1) (by kernel_rfl) Zv);simp only [amP,anP,anO,anD,amS,and_true] at e0 e1;subst e0 e1;exact⟨(m0,s,l),rfl,h3,⟨o,h1⟩,h2,h0,h4⟩
theorem zY {w:World} {B n:Nat} {a:Option Addr} {len cap:Nat} (h:rK Tryz.prog w B n 22 [.slice a len cap]):
  ∃(ys:List KS) (O:List Nat),(dK ⟨a,len,cap⟩ ys).holds w O /\ ys.length<=B /\ ∀x∈ys,x.2.2.length<=B /\ x.1.size<=B /\ ∀y∈x.2.2,y.size<=B:=by
 obtain⟨s,l,o,h1,h2,h3,_,h4,h5⟩:=oy (f:=df) (G:=fun x=>x.2.1.len<=x.2.1.cap /\ (∃o,bO w x.2.1 1 sv x.2.2 o) /\ x.2.2.length<=B /\ x.1.size<=B /\ ∀y∈x.2.2,y.size<=B) eM Zw (by omega) (fun m ci hl hr=>Ma hl hr) h;simp only [amS,Value.slice.injEq,and_true] at h1;obtain⟨rfl,rfl,rfl⟩:=h1;refine⟨l,List.range w.heap.size,⟨fun k hk=>al5.1 hk,⟨o,h2,fun k hk=>al5.2 (h2.lt k hk)⟩,fun x hx=>?_⟩,h4,fun x hx=>(h3 x hx).2.2⟩;obtain⟨q1,⟨o',q2⟩,_⟩:=h3 x hx;exact⟨q1,o',q2,fun k hk=>al5.2 (q2.lt k hk)⟩
end Go.Proofs.YtcccjgmekakabaaGreat.FW
end

section
namespace Go.Proofs.YtcccjgmekakabaaGreat.FW
open F
open Go Go.Den Go.Proofs
open FI (ai aD pk gK)
open FT (az fA bw ct fo cu jV dH iv aB)
open FP (bu gL tU bV bQ tB bx dO eW gM Acc bH nq dJ jv kH iW fi nr)
theorem q8 (a:WA):Bytes a.snap:=by
 intro x hx;unfold WA.snap at hx
 rcases alg.1 hx with hx | hx
 ·rcases alg.1 hx with hx | hx
  ·exact iW _ x hx
  ·exact iW _ x hx
 ·obtain⟨e,_,hx⟩:=amt.1 hx;unfold eP at hx
  rcases alg.1 hx with hx | hx
  ·exact fi (ff _) x hx
  ·exact nr _ x hx
theorem Mb {a:WA} (aT:a.Ok) (aZ: ∀e p,a.row e=some p->p.fit a.ks):a.snap.length<=1000000:=by
 obtain⟨g1,g2,g3,g4⟩:=gY aT.qa;have h1:=fu a.ar.aH;have h2:=fu a.ar.free;have ig:a.all.length<=200:=by
  have h1:=ai.kz a.ar a.ar.au.length;have h2:=aT.qa.fZ;show (a.ar.iG a.ar.au.length).length<=200;omega
 have key: ∀L:List bw,(∀e∈L,e∈a.all)->(L.flatMap fun e=>eP ((a.row e).getD [])).length<=490*L.length:=by
  intro L
  induction L with
  | nil=>simp
  | cons e L ih=>
   intro hL;obtain⟨p,hp⟩:=gw aT (hL e (by simp));have e1:=bx (aA p);have e2:=dO (flat p);have e3:=(aZ _ p hp).all;have e4:=fD aT.four (aA p) a.ks.length;have e5:=aT.len.2;have:=ih (fun x hx=>hL x (by simp [hx]));rw [alX,alb,hp];show (bu (aA p)++bV (flat p)).length+_<=_;rw [alb,alQ];omega
 have:=key a.all (fun e he=>he);unfold WA.snap;rw [alb,alb];omega
theorem C5 (a:WA) (ps:List Part):(a.spawn ps).1.ks=a.ks:=by
 unfold WA.spawn
 split
 ·rfl
 ·split <;> rfl
def YS.Ok (x:YS):Prop:=(-9223372036854775808<=x.1 /\ x.1<=9223372036854775807) /\ (-9223372036854775808<=x.2.1 /\ x.2.1<=9223372036854775807) /\ (-9223372036854775808<=x.2.2.1 /\ x.2.2.1<=9223372036854775807)
section
variable {S:List Nat} {w0 w:World} {ae:List aa}
end
end Go.Proofs.YtcccjgmekakabaaGreat.FW
end

section
namespace Go.Proofs.YtcccjgmekakabaaGreat.FW
open F
open Go Go.Den Go.Proofs Go.RowKit
open FI (ai aD gK)
open FT (bw fo cu iv aB)
open FP (eW tB gM)
def H3:ByteArray:=⟨#[0,0,0,0,0,0,0,0]⟩
theorem C6 (a b:ByteArray):cJ (a++b)=cJ a++cJ b:=by
 unfold cJ;rw [<-alW,<-Array.toList_append,<-ByteArray.data_append]
theorem H4:cJ H3=List.replicate 8 0:=by decide+kernel
theorem Fl (a:WA) (e:bw):(a.da e).1.ks=a.ks:=by
 unfold WA.da;split <;> rfl
section
variable {S:List Nat} {w0 w:World} {ae:List aa}
end
end Go.Proofs.YtcccjgmekakabaaGreat.FW
end

section
namespace Go.Proofs.YtcccjgmekakabaaGreat.FW
open F
open Go Go.Den Go.Proofs
open FI (ai aD)
open FT (bw fo cu iv aB)
open FP (eW tB gM bQ Acc)
theorem H5 {a:WA} (aT:a.Ok) (aZ: ∀e p,a.row e=some p->p.fit a.ks) (F1:gM a.snap 200 (dq a.snap 200).1 (dq a.snap 200).2) (F2: ∀r1,qX a.snap=some r1->gM r1.2 200 (dq r1.2 200).1 (dq r1.2 200).2):load a.ks a.snap=(some a,0):=by
 have r1: ∀l,Acc a.snap 200 l->dq a.snap 200=(l,((bQ l).length:Int)):=fun l hl=>by
  have:=F1.2.2 l hl;exact amz this.1 this.2
 refine HL aT aZ r1 fun l hl=>?_;obtain⟨g1,g2,g3,g4⟩:=gY aT.qa;have h1:=r1 a.ar.aH ⟨by omega,by omega,by omega,g1,bQ a.ar.free++a.all.flatMap (fun e=>eP ((a.row e).getD [])),by unfold WA.snap;rw [ale]⟩;have hn:qX a.snap=some (a.ar.aH,a.snap.drop (bQ a.ar.aH).length):=by
  unfold qX;rw [h1];dsimp only;rw [if_neg,ak7];rintro(h | h)
  ·have:0 < (bQ a.ar.aH).length:=by
    unfold bQ;rw [alb];have:=FP.eV a.ar.aH.length;omega
   omega
  ·refine h fun x hx=>?_;unfold ai.aH at hx;obtain⟨i,hi,rfl⟩:=List.mem_mapIdx.1 hx;have:=aT.qa.au _ (alz hi)
   split <;> omega
 have:=(F2 _ hn).2.2 l hl;exact amz this.1 this.2
theorem Gw {s:Option Addr} {len len':Nat} {i:Int} {n:Nat} {K:Addr->Prop} (hi:i < len) (h:Ix s len' i n K):Ix s len i n K:=⟨h.1,hi,h.2.2⟩
theorem Zx:Tryz.prog.underlying 44=some (.slice 41):=by kernel_rfl
theorem Zy: ∃inf:TypeInfo,Tryz.prog.info? 41=some inf /\ inf.zero=some (.pointer none) /\ inf.size=1 /\ inf.bytes=8:=fU (by kernel_rfl)
abbrev Mc (b:Nat):List Value:= [.pointer (some ⟨b,0,none⟩)]
theorem Gx (b:Nat):(Mc b).length=1:=rfl
section
variable {S:List Nat} {w0 w:World} {ae:List aa}
set_option maxHeartbeats 4000000 in
theorem sF (h:Hp S w0 w ae) (i g:Nat) {bp N:Nat} {ab bb:Nat} {ks gv od ws:Sl} {G:List bw} (hi:(ae[i]?).map aa.holds=some (bj bp (eC ab bb ks gv od ws) N 0).holds) (hg:(ae[g]?).map aa.holds=some (aj gv 33 2 fo G).holds) (hG:G.length<=1000000) {kd H At N':Int} {E:bw} {pk:Int} {VA ps:Sl} {K:Int->Int->World->Prop}
  (hK: ∀(e:bw) w',Hp S w0 w' ae->K e.1 e.2 w'):VX (some ⟨bp,0,none⟩) kd H At N' E.1 E.2 pk VA ps w K:=by
 refine S9 ?_;unfold f28;have lt: ∀{j:Nat} {t:aa},(ae[j]?).map aa.holds=some t.holds->j < ae.length:=fun{j t} hj=>by
  rcases anA j ae.length with h | h
  ·exact h
  ·rw [alE h] at hj;cases hj
 have jD:=lt hi;have tN:=lt hg;refine h.nw (c:= [_,_,_,_,_,_,_,_,_]) fun ob w1 h=>?_;refine h.nw (c:= [_,_]) fun Wr w2 h=>?_;have h:Hp S w0 w2 (ae++ [af ob 39 [.int .i64 kd,.int .i64 H,.int .i64 At,.int .i64 N',.int .i64 E.1,.int .i64 E.2,.int .i64 pk,.slice VA.a VA.len VA.cap,.slice ps.a ps.len ps.cap],af Wr 33 [.int .i64 0,.int .i64 0]]):=by
  simp only [ale,alI,alO] at h;exact h
 have g0: ∀{l:List aa} (k:Nat),(ae++l)[ae.length+k]? =l[k]? :=fun{l} k=>by rw [ak8 (by omega)];simp
 have s0: ∀{l:List aa} (k:Nat) (t:aa),(ae++l).set (ae.length+k) t=ae++l.set k t:=fun{l} k t=>by rw [alj _ _ (by omega)];simp
 have sN: ∀{l:List aa},((ae++l)[i]?).map aa.holds=some (bj bp (eC ab bb ks gv od ws) N 0).holds:=fun{l}=>by rw [ak9 jD];exact hi
 have Ip: ∀{l:List aa},((ae++l)[g]?).map aa.holds=some (aj gv 33 2 fo G).holds:=fun{l}=>by rw [ak9 tN];exact hg
 have hgv:=h.len (s:=gv) (l:=G) (e:=33) (n:=2) (f:=fo) g Ip;have fin: ∀{w3:World} (e:bw),Hp S w0 w3 (ae++ [af ob 39 [.int .i64 kd,.int .i64 H,.int .i64 At,.int .i64 N',.int .i64 E.1,.int .i64 E.2,.int .i64 pk,.slice VA.a VA.len VA.cap,.slice ps.a ps.len ps.cap],af Wr 33 [.int .i64 0,.int .i64 0]])->
   (St ⟨Wr,0,none⟩ (.int .i64 e.1) w3 fun w=>St ((⟨Wr,0,none⟩:Addr).add 1) (.int .i64 e.2) w fun w=>Ld (.i .i64) w ⟨Wr,0,none⟩ fun(cT:Int)=>Ld (.i .i64) w ((⟨Wr,0,none⟩:Addr).add 1) fun(fG:Int)=>K cT fG w):=by
  intro w3 e h;refine h.gz (ae.length+1) (by rw [g0];rfl) (by simp) rfl fun w4 h=>?_;rw [s0] at h;refine h.st (n:=1) (ae.length+1) (by rw [g0];rfl) (by simp) rfl fun w5 h=>?_;rw [s0] at h;refine h.bE (k:=.i .i64) (x:=e.1) (ae.length+1) (by rw [g0];rfl) rfl ?_;refine h.ld (n:=1) (k:=.i .i64) (x:=e.2) (ae.length+1) (by rw [g0];rfl) rfl ?_;exact hK e w5 h.front
 refine⟨fun t w'=>(t=false->0<=At /\ G.length≠0) /\ w'=w2,?_,?_⟩
 ·refine h.ld (n:=2) (k:=.i .i64) (x:=At) (ae.length+0) (by rw [g0];rfl) rfl ?_;by_cases hA:At < 0
  ·exact aL (by simpa using hA) ⟨(fun hh=>by cases hh),rfl⟩
  ·refine aJ (by simpa using hA) (aS ?_);refine cG h i (c:=3) (k:=.sl) (x:=gv) sN rfl ?_;exact⟨fun hh=>⟨by omega,by have hh:=of_decide_eq_false hh;omega⟩,rfl⟩
 rintro t w3 ⟨ht,rfl⟩
 cases t with
 | true=>
  refine aL rfl ?_;refine h.ld (n:=4) (k:=.i .i64) (x:=E.1) (ae.length+0) (by rw [g0];rfl) rfl ?_;refine h.pI (n:=4) (m:=1) (k:=.i .i64) (x:=E.2) (ae.length+0) (by rw [g0];rfl) rfl ?_;exact fin E h
 | false=>
  obtain⟨hA,hn⟩:=ht rfl;refine aJ (by simp) ?_;refine h.dr fun w4 h=>aS ?_;refine cG h i (c:=3) (k:=.sl) (x:=gv) sN rfl ?_;refine h.ld (n:=2) (k:=.i .i64) (x:=At) (ae.length+0) (by rw [g0];rfl) rfl (aS ?_);refine cG h i (c:=3) (k:=.sl) (x:=gv) sN rfl ?_;refine⟨by omega,?_⟩;have QZ:0<=Int.tmod At (gv.len:Int):=Int.tmod_nonneg _ hA;have RN:Int.tmod At (gv.len:Int) < gv.len:=Int.tmod_lt_of_pos _ (by omega);generalize Int.tmod At (gv.len:Int)=r at QZ RN;have hx:G[r.toNat]? =some (G[r.toNat]'(by omega)):=alf _;generalize G[r.toNat]'(by omega)=e at hx;refine h.rf (s:=gv) (l:=G) (f:=fo) (n:=2) (e:=33) g Ip QZ hx cu fun ad hc=>?_;refine dG (k:=.i .i64) (x:=e.1) (hc 0 (by omega)) rfl ?_;refine jB (k:=.i .i64) (x:=e.2) (hc 1 (by omega)) rfl ?_;exact fin e h
def dw (v:List Int):List Int:=v.map fun x=>i64.wrap (x+5)
set_option maxHeartbeats 4000000 in
theorem C7 (h:Hp S w0 w ae) (i:Nat) {l:Sl} {xs:List PV} (hi:ae[i]? =some (qz l xs)) (fx:xs.length=l.len) (nY: ∀x∈xs,x.2.2.length=x.2.1.len) (hl:xs.length<=10000000) (hv: ∀x∈xs,x.2.2.length<=10000000) {K:World->Prop}
  (hK: ∀w',Hp S w0 w' (ae.set i (qz l (xs.map fun x=>(x.1,x.2.1,dw x.2.2))))->K w'):c26 l w K:=by
 refine S7 ?_;unfold f26;obtain⟨O,h1,back⟩:=h.f1 hi rfl;have h:=h1.split (i:=0) rfl rfl (aM _);clear h1;have h:Hp O w w [aj (dD l) 36 2 ck (xs++List.replicate 8 v9),ak (xs.map n6)]:=h;have fl: ∀x:PV,n6 (x.1,x.2.1,dw x.2.2)=aj (dD x.2.1) 2 1 iv (hU (dw x.2.2)):=fun x=>rfl;refine⟨fun t mm w'=> ∃k:Nat,t=k /\ k<=xs.length /\ mm=xs.length - k /\ Hp O w w' [aj (dD l) 36 2 ck (xs++List.replicate 8 v9),ak (((xs.take k).map fun x=>n6 (x.1,x.2.1,dw x.2.2))++(xs.drop k).map n6)],⟨xs.length,0,rfl,by omega,rfl,by simpa using h⟩,?_⟩;clear h;rintro t mm w1 ⟨k,rfl,hk,rfl,h⟩;by_cases av:k < xs.length
 ·refine aL (by simp;omega) ?_;have hx:xs[k]? =some xs[k]:=by simp [av]
  have fI:xs[k]∈xs:=alz av;have Cf:xs.drop k=xs[k] :: xs.drop (k+1):=al0 av;have dU:xs.take (k+1)=xs.take k++ [xs[k]]:=alp av;generalize xs[k]=x at hx fI Cf dU;have ja:=nY x fI;have CM:=hv x fI;have hxf:(xs++List.replicate 8 v9)[k]? =some x:=by rw [ak9 av];exact hx
  have Wk:(((xs.take k).map fun x=>n6 (x.1,x.2.1,dw x.2.2))++(xs.drop k).map n6)[k]? =some (n6 x):=by
   rw [ak8 (by simp;omega),Cf];simp [show k - min k xs.length=0 by omega]
  have h:=h.pick (i:=1) (k:=k) rfl Wk rfl;generalize Mw:(((xs.take k).map fun x=>n6 (x.1,x.2.1,dw x.2.2))++(xs.drop k).map n6)=ts at h Wk;have cO:k < ts.length:=(ak6.1 Wk).1;refine⟨fun t mm w'=> ∃j:Nat,t=j /\ j<=x.2.2.length /\ mm=x.2.2.length - j /\ Hp O w w' [aj (dD l) 36 2 ck (xs++List.replicate 8 v9),ak (ts.set k ao),aj (dD x.2.1) 2 1 iv (dw (x.2.2.take j)++(x.2.2.drop j++List.replicate 8 77))],⟨x.2.2.length,0,rfl,by omega,rfl,by rw [show dw (x.2.2.take 0)++(x.2.2.drop 0++List.replicate 8 77)=hU x.2.2 by simp [dw,hU]];exact h⟩,?_⟩;clear h;rintro t mm w2 ⟨j,rfl,hj,rfl,h⟩;have E5: ∀{w':World} {ts:List aa} {K':Sl->Prop},Hp O w w' (aj (dD l) 36 2 ck (xs++List.replicate 8 v9) :: ts)->K' x.2.1->Ix l.a l.len (k:Int) 2 fun a=>Ld .sl w' (a.add 1) K':=fun{w' ts K'} h hk=>by
   refine Gw (len':=(dD l).len) (by omega) ?_;refine h.rf (s:=dD l) (l:=xs++List.replicate 8 v9) (f:=ck) (n:=2) (e:=36) 0 rfl (by omega) (by rw [ak7];exact hxf) aR fun ad hc=>?_;exact jB (k:=.sl) (x:=x.2.1) (hc 1 (by omega)) rfl hk
  refine E5 h ?_;by_cases gQ:j < x.2.2.length
  ·refine aL (by simp;omega) ?_;refine h.dr fun w3 h=>E5 h (E5 h ?_);have hy:x.2.2[j]? =some x.2.2[j]:=by simp [gQ]
   have hdj:x.2.2.drop j=x.2.2[j] :: x.2.2.drop (j+1):=al0 gQ;have htj:x.2.2.take (j+1)=x.2.2.take j++ [x.2.2[j]]:=alp gQ;generalize x.2.2[j]=y at hy hdj htj;have si:(dw (x.2.2.take j)).length=j:=by unfold dw;rw [alr,alv];omega
   refine Gw (len':=(dD x.2.1).len) (by omega) ?_;refine h.fz (k:=.i .i64) (s:=dD x.2.1) (y:=y) (x:=y) 2 rfl (by omega) (by rw [ak7,ak8 (by omega),si,alK,hdj];rfl) aB rfl ?_;refine Gw (len':=(dD x.2.1).len) (by omega) ?_;refine h.mW (s:=dD x.2.1) (y:=i64.wrap (y+5)) 2 rfl (by omega) (by rw [ak7,alb,si,alb,amr,alT];omega) aB rfl rfl fun w4 h=>?_;rw [ak7,alj _ _ (by omega),si,alK,hdj,alI,alq] at h;refine⟨x.2.2.length - (j+1),by omega,j+1,by rw [aI (by omega) (by omega)];omega,by omega,rfl,?_⟩;have e:dw (x.2.2.take (j+1))++(x.2.2.drop (j+1)++List.replicate 8 77)=dw (x.2.2.take j)++i64.wrap (y+5) :: (x.2.2.drop (j+1)++List.replicate 8 77):=by
    rw [htj];unfold dw;simp
   rw [e];exact h
  ·refine aJ (by simp;omega) ?_;obtain rfl:j=x.2.2.length:=by omega
   rw [amB,ana,alO] at h;have h:Hp O w w2 [aj (dD l) 36 2 ck (xs++List.replicate 8 v9),ak (ts.set k ao),n6 (x.1,x.2.1,dw x.2.2)]:=h;have h:=h.iT (i:=1) (j:=2) (k:=k) (by decide) rfl rfl (by rw [alx cO]) rfl;rw [al2] at h;have h:=h.trim 2;refine⟨xs.length - (k+1),by omega,k+1,by rw [aI (by omega) (by omega)];omega,by omega,rfl,?_⟩;have e:((xs.take (k+1)).map fun x=>n6 (x.1,x.2.1,dw x.2.2))++(xs.drop (k+1)).map n6=ts.set k (n6 (x.1,x.2.1,dw x.2.2)):=by
    rw [<-Mw,dU,Cf,alW,alR,alj _ _ (by simp;omega)];have e0:k - ((xs.take k).map fun x=>n6 (x.1,x.2.1,dw x.2.2)).length=0:=by simp;omega
    rw [e0,alR (f:=n6),alq];simp
   rw [e];exact h
 ·refine aJ (by simp;omega) ?_;obtain rfl:k=xs.length:=by omega
  rw [amB,ana,amK,alh] at h;have QO: ∀l:List PV,l.flatMap ck=(l.map fun x=>(x.1,x.2.1,dw x.2.2)).flatMap ck:=fun l=>by
   induction l with
   | nil=>rfl
   | cons y l ih=>rw [alR,alX,alX,ih]
  have h:=E3 h (i:=0) (l':=(xs.map fun x=>(x.1,x.2.1,dw x.2.2))++List.replicate 8 v9) (g:=ck) rfl (by simp) (by rw [alJ,alJ,QO xs]);have e:(xs.map fun x=>n6 (x.1,x.2.1,dw x.2.2))=(xs.map fun x=>(x.1,x.2.1,dw x.2.2)).map n6:=by rw [amJ];rfl
  rw [e] at h;have h:=h.aV (i:=0) (j:=1) (by decide) rfl rfl rfl (aM _);have:=back (t':=qz l (xs.map fun x=>(x.1,x.2.1,dw x.2.2))) (rest:= []) rfl rfl (h.trim 1);rw [alh] at this;exact hK w1 this
end
abbrev C8:=List (Nat×WA)
def bt (o:Nat×WA):Nat:=o.1
def nC (o:Nat×WA):ByteArray:=strOf o.2.snap
def sG (o:Nat×WA):aa:=tW o.1 o.2
abbrev iY (ob:Nat) (kd H At N':Int) (E:bw) (pk:Int) (PV PS:Sl):aa:=af ob 39 [.int .i64 kd,.int .i64 H,.int .i64 At,.int .i64 N',.int .i64 E.1,.int .i64 E.2,.int .i64 pk,.slice PV.a PV.len PV.cap,.slice PS.a PS.len PS.cap]
abbrev cf (bp ab bb N:Nat) (ks gv od ws:Sl) (a:WA) (G:List bw) (bd:C8):List aa:=
 [bj bp (eC ab bb ks gv od ws) N 0,tW ab a,fE bb a,aj gv 33 2 fo G,aj od 41 1 Mc (bd.map bt),aj ws 9 1 sv (bd.map nC),ak (bd.map sG)]
section
variable {S:List Nat} {w0 w:World} {ae:List aa}
theorem C9 (h:Hp S w0 w ae) (i:Nat) {bp c N M:Nat} {p:PC} {v:Value} (hi:(ae[i]?).map aa.holds=some (bj bp p N M).holds) (hc: [p.a,p.b,p.k,p.g,p.o,p.s][c]? =some v):w.cell? ((⟨bp,0,none⟩:Addr).add c)=some v:=by
 obtain⟨O,q,hq,O1,O2,⟨hb,_⟩,_⟩:=h.de hi;have av:=(ak6.1 hc).1;have e:(q.cells p)[c]? =some v:=by
  show ([p.a,p.b,p.k,p.g,p.o,p.s]++_)[c]? =_;rw [ak9 av];exact hc
 rw [Addr.aU,aml,hb.cell];exact e
set_option maxHeartbeats 4000000 in
theorem vj {bp ab bb nb N:Nat} {ks gv od ws:Sl} {a:WA} {G:List bw} {bd:C8} {rest:List aa} (h:Hp S w0 w (cf bp ab bb N ks gv od ws a G bd++tW nb a :: rest)) (ho:bd.length<=1000000) {K:World->Prop}
  (hK: ∀sH ux w',Hp S w0 w' (cf bp nb bb N ks gv sH ux a G (bd++ [(ab,a)])++rest)->K w'):Z8 (some ⟨bp,0,none⟩) (some ⟨nb,0,none⟩) w K:=by
 refine Tn ?_;unfold f34;obtain⟨ajH,p1,p2,p3,p4⟩:=Zy;obtain⟨ku,s1,s2,s3,s4⟩:=xy;have lq:=h.len (s:=od) (l:=bd.map bt) (e:=41) (n:=1) (f:=Mc) 4 rfl;have Y0:=h.len (s:=ws) (l:=bd.map nC) (e:=9) (n:=1) (f:=sv) 5 rfl;rw [alr] at lq Y0;refine h.dr fun w1 h=>aS ?_;refine cG h 0 (c:=4) (k:=.sl) (x:=od) rfl rfl (aS ?_);refine cN h 0 (k:=.p) (x:=some ⟨ab,0,none⟩) rfl rfl ?_;refine h.cj 4 ab (c:= [_]) rfl Gx Zx p1 p3 p2 rfl rfl (by simp [Value.oneCell']) (by rw [p4];omega) (by omega) fun sH w2 h _ _=>aS ?_;refine wg h 0 (c:=4) (v:=.slice sH.a sH.len sH.cap) rfl (by omega) rfl fun w3 h=>?_;have h:Hp S w0 w3 ([bj bp (eC ab bb ks gv sH ws) N 0,tW ab a,fE bb a,aj gv 33 2 fo G,aj sH 41 1 Mc (bd.map bt++ [ab]),aj ws 9 1 sv (bd.map nC),ak (bd.map sG),tW nb a]++rest):=h;refine h.dr fun w4 h=>aS ?_;refine cG h 0 (c:=5) (k:=.sl) (x:=ws) rfl rfl (aS ?_);refine cG h 0 (c:=1) (k:=.p) (x:=some ⟨bb,0,none⟩) rfl rfl ?_;refine vf h 2 rfl fun r w5 h=>?_;refine⟨C9 h 0 (c:=5) rfl rfl,?_⟩;have hr:(([bj bp (eC ab bb ks gv sH ws) N 0,tW ab a,fE bb a,aj gv 33 2 fo G,aj sH 41 1 Mc (bd.map bt++ [ab]),aj ws 9 1 sv (bd.map nC),ak (bd.map sG),tW nb a]++rest)++ [tB r a.snap])[8+rest.length]? =some (tB r a.snap):=by
  rw [show 8+rest.length=([bj bp (eC ab bb ks gv sH ws) N 0,tW ab a,fE bb a,aj gv 33 2 fo G,aj sH 41 1 Mc (bd.map bt++ [ab]),aj ws 9 1 sv (bd.map nC),ak (bd.map sG),tW nb a]++rest).length by simp;omega];exact alw
 refine h.MC (8+rest.length) (u:=tB r a.snap) (by rw [hr];rfl) Hp.bZ (strOf a.snap) (jP (q8 a)) ?_;have h:=h.front;refine h.cj 5 (strOf a.snap) (c:= [_]) rfl cW ql s1 s3 s2 rfl rfl (by simp [sv,Value.oneCell']) (by rw [s4];omega) (by omega) fun ux w6 h _ _=>aS ?_;refine wg h 0 (c:=5) (v:=.slice ux.a ux.len ux.cap) rfl (by omega) rfl fun w7 h=>aS ?_;refine L0 h 0 (v:=.pointer (some ⟨nb,0,none⟩)) rfl rfl fun w8 h=>?_;have h:Hp S w0 w8 ([bj bp (eC nb bb ks gv sH ux) N 0,tW ab a,fE bb a,aj gv 33 2 fo G,aj sH 41 1 Mc (bd.map bt++ [ab]),aj ux 9 1 sv (bd.map nC++ [strOf a.snap]),ak (bd.map sG),tW nb a]++rest):=h;have h:=mA h (i:=6) (j:=1) (sub:=sG) (ys:=bd) (y:=(ab,a)) (by decide) rfl rfl rfl;have h:Hp S w0 w8 ([bj bp (eC nb bb ks gv sH ux) N 0]++ [ao,fE bb a,aj gv 33 2 fo G,aj sH 41 1 Mc (bd.map bt++ [ab]),aj ux 9 1 sv (bd.map nC++ [strOf a.snap]),ak ((bd++ [(ab,a)]).map sG)]++ [tW nb a]++rest):=h;have h:=h.ME;have h:Hp S w0 w8 ([bj bp (eC nb bb ks gv sH ux) N 0,tW nb a]++ [ao]++([fE bb a,aj gv 33 2 fo G,aj sH 41 1 Mc (bd.map bt++ [ab]),aj ux 9 1 sv (bd.map nC++ [strOf a.snap]),ak ((bd++ [(ab,a)]).map sG)]++rest)):=h;have h:=h.cZ;have e1:bd.map bt++ [ab]=(bd++ [(ab,a)]).map bt:=by rw [alW];rfl
 have e2:bd.map nC++ [strOf a.snap]=(bd++ [(ab,a)]).map nC:=by rw [alW];rfl
 rw [e1,e2] at h;exact hK sH ux w8 h
set_option maxHeartbeats 4000000 in
theorem Fm {bp ab bb N:Nat} {ks gv od ws:Sl} {a:WA} {G:List bw} {bd:C8} {u:aa} {ys:List KS} {rest:List aa} (h:Hp S w0 w (cf bp ab bb N ks gv od ws a G bd++u :: rest)) (hu:u.holds=(dK ks ys).holds) (hk:kinds ys=a.ks) (ho:bd.length<=1000000) (p5:ys.length<=10000000) (dL: ∀x∈ys,x.2.2.length<=10000000 /\ x.1.size<=1000000000000 /\ ∀y∈x.2.2,y.size<=1000000000000) {K:Bool->World->Prop}
  (hK: ∀nb sH ux w',Hp S w0 w' (cf bp nb bb N ks gv sH ux a G (bd++ [(ab,a)])++u :: rest)->K true w'):c35 (some ⟨bp,0,none⟩) w K:=by
 refine To ?_;unfold f35;obtain⟨inf,q1,q2,q3,q4⟩:=FP.AJ;have cO:(kinds ys).length=ys.length:=by simp [kinds]
 have aeZ: ∀x∈kinds ys,x.1.size<=1000000000000 /\ ∀y∈x.2,y.size<=1000000000000:=fun x hx=>by
  obtain⟨y,hy,rfl⟩:=alu.1 hx;exact⟨(dL y hy).2.1,(dL y hy).2.2⟩
 obtain⟨aT,aZ⟩:=K9 h 1 rfl;have Mn:=q8 a;have fB:=Mb aT aZ;have Fh:cJ (strOf a.snap)=a.snap:=jP Mn;generalize hA:cf bp ab bb N ks gv od ws a G bd++u :: rest=A at h;have QU:A.length=8+rest.length:=by rw [<-hA];simp;omega
 have g0: ∀{l:List aa} (k:Nat),(A++l)[A.length+k]? =l[k]? :=fun{l} k=>by rw [ak8 (by omega)];simp
 have s0: ∀{l:List aa} (k:Nat) (t:aa),(A++l).set (A.length+k) t=A++l.set k t:=fun{l} k t=>by rw [alj _ _ (by omega)];simp
 have a0: ∀{l:List aa},(A++l)[0]? =some (bj bp (eC ab bb ks gv od ws) N 0):=fun{l}=>by rw [<-hA];rfl
 have a1: ∀{l:List aa},(A++l)[1]? =some (tW ab a):=fun{l}=>by rw [<-hA];rfl
 have a7: ∀{l:List aa},(A++l)[7]? =some u:=fun{l}=>by rw [<-hA];rfl
 have E5: ∀{w':World} {l:List aa},Hp S w0 w' (A++l)->yc w' ks (kinds ys):=fun{w' l} g=>by
  obtain⟨O,hO⟩:=g.kY (i:=7) a7;rw [hu] at hO;exact ye hO
 have h:Hp S w0 w (A++ []):=by rw [alh];exact h
 refine aS (cN h 0 (k:=.p) (x:=some ⟨ab,0,none⟩) (by rw [a0];rfl) rfl ?_);refine kN h 1 a1 fun b w1 h=>?_;rw [ale] at h;have yM:=h.len (s:=b) (l:=a.snap) (e:=5) (n:=1) (f:=ky) (A.length+0) (by rw [g0];rfl);have hw:i64.wrap ((b.len:Int)+8)=((a.snap.length+8:Nat):Int):=by rw [aI (by omega) (by omega)];omega
 rw [hw];refine h.mks (e:=5) (n:=1) (f:=ky) (x0:=(0:Int)) cE rfl (by omega) (al4 _) (by omega) (by omega) fun l w2 h ae0 XU _=>?_;rw [ak7] at h ae0 XU;rw [ale] at h;have h:Hp S w0 w2 (A++ [tB b a.snap,tB l (List.replicate (a.snap.length+8) 0)]):=h;refine h.copy (A.length+1) (A.length+0) (by omega) (s:=l) (s2:=b) (u:=tB b a.snap) (by rw [g0];rfl) (by rw [g0];rfl) Hp.bZ cE Ki q1 q3 (by simp [Value.oneCell']) (by omega) fun w3 h=>?_;rw [s0] at h;have e0:a.snap++(List.replicate (a.snap.length+8) (0:Int)).drop b.len=a.snap++List.replicate 8 0:=by
  rw [List.drop_replicate,<-yM,amn]
 rw [e0] at h;have h:Hp S w0 w3 (A++ [tB b a.snap,tB l (a.snap++List.replicate 8 0)]):=h;refine aS (cG h 0 (c:=2) (k:=.sl) (x:=ks) (by rw [a0];rfl) rfl ?_);refine pa h (E5 h) (by omega) (fun x hx=>by
  obtain⟨y,hy,rfl⟩:=alu.1 hx;exact(dL y hy).1) fun k xs w4 yx ja nY ML h=>?_
 rw [ale] at h;have h:Hp S w0 w4 (A++ [tB b a.snap,tB l (a.snap++List.replicate 8 0),sC k xs]):=h;have hlen:=h.len (s:=l) (l:=a.snap++List.replicate 8 0) (e:=5) (n:=1) (f:=ky) (A.length+1) (by rw [g0];rfl);have K5:=hlen;rw [alb,amr] at K5;refine Hp.nU (s:=l) (u:=tB l (a.snap++List.replicate 8 0)) Hp.bZ hlen cE (by omega) (by omega) (by omega) (al4 _) (by omega) fun s hs Zz ZA=>?_;have e1:((a.snap++List.replicate 8 0).take ((b.len:Nat):Int).toNat).drop (0:Int).toNat=a.snap:=by
  rw [ak7,<-yM,List.take_left];rfl
 rw [e1] at hs;rw [ak7] at Zz ZA;have Vx:yc w4 k (kinds ys):=by
  obtain⟨O,hO⟩:=h.kY (i:=A.length+2) (by rw [g0];rfl);rw [<-yx];exact ye (AX hO ja nY)
 have ae1:s.len<=s.cap:=by rw [Zz,ZA];simp;omega
 refine Vk h (A.length+1) Vx (by omega) aeZ (u:=tB l (a.snap++List.replicate 8 0)) (by rw [g0];rfl) hs Mn (by omega) ae1 fun hRR=>?_;have qx:load (kinds ys) a.snap=(some a,0):=by
  obtain⟨F1,F2⟩:=hRR (by rw [hk];exact aT.may);rw [hk];exact H5 aT aZ F1 F2
 refine⟨fun a' nb w5 dQ h=>?_,fun e w5 dQ h=>by rw [qx] at dQ;cases dQ⟩;rw [qx] at dQ;obtain rfl:=alm (amx dQ).1;clear dQ;rw [ale] at h;refine aS (cG h 0 (c:=2) (k:=.sl) (x:=ks) (by rw [a0];rfl) rfl ?_);refine nN h (A.length+2) 7 (by omega) (u:=u) (by rw [g0];rfl) ja nY ML a7 hu yx (by have:=congrArg List.length yx;simp [kinds] at this;omega) (fun x hx=>?_) fun w6 h=>?_
 ·have hm:(x.1,x.2.2)∈kinds ys:=by rw [<-yx];exact alu.2 ⟨x,hx,rfl⟩
  obtain⟨y,hy,he⟩:=alu.1 hm;have:=(dL y hy).1;have he2:y.2.2=x.2.2:=(amx he).2;rw [<-he2];exact this
 rw [s0] at h;have h:Hp S w0 w6 (A++ [tB b a.snap,tB l (a.snap++List.replicate 8 0),ao,tW nb a]):=h;have hz8:cJ (strOf a.snap++H3)=a.snap++List.replicate 8 0:=by rw [C6,Fh,H4]
 refine h.MC (A.length+1) (u:=tB l (a.snap++List.replicate 8 0)) (by rw [g0];rfl) Hp.bZ (strOf a.snap++H3) hz8 ?_;refine h.MC (A.length+0) (u:=tB b a.snap) (by rw [g0];rfl) Hp.bZ (strOf a.snap) Fh ?_;have ae2:(strOf a.snap).size=a.snap.length:=by rw [<-oI,Fh]
 have ae3:(⟨#[0,0,0,0,0,0,0,0]⟩:ByteArray).size=8:=rfl;refine⟨by rw [ae2,ae3];omega,?_⟩;refine⟨fun t mm w'=> ∃(n:Nat) (cs:List Int),t=n /\ n<=a.snap.length+8 /\ mm=a.snap.length+8 - n /\ cs.length=a.snap.length+8 /\ Hp S w0 w' (A++ [tB b a.snap,tB l cs,ao,tW nb a]),⟨a.snap.length+8,0,a.snap++List.replicate 8 0,rfl,by omega,rfl,by simp,h⟩,?_⟩;clear h;rintro t mm w7 ⟨n,cs,rfl,hn,rfl,ma,h⟩;by_cases av:n < a.snap.length+8
 ·refine aL (by simp;omega) ?_;refine h.mW (s:=l) (y:=(99:Int)) (A.length+1) (by rw [g0];rfl) (by omega) (by rw [ak7];omega) cE rfl rfl fun w8 h=>?_;rw [s0] at h;exact⟨a.snap.length+8 - (n+1),by omega,n+1,cs.set ((n:Nat):Int).toNat 99,by rw [aI (by omega) (by omega)];omega,by omega,rfl,by simpa using ma,h⟩
 ·refine aJ (by simp;omega) (aJ ?_ ?_)
  ·have:=yd (strOf a.snap++H3);unfold H3 at this;unfold H3;rw [this];simp
  have h:Hp S w0 w7 (A++ [tB b a.snap,tB l cs,ao]++ [tW nb a]):=by rw [ale];exact h
  have h:=h.cZ;rw [<-hA] at h;have h:Hp S w0 w7 (cf bp ab bb N ks gv od ws a G bd++(u :: rest)++ [tW nb a]):=h;have h:=h.up;exact vj h ho fun sH ux w8 h=>hK nb sH ux w8 h
end
end Go.Proofs.YtcccjgmekakabaaGreat.FW
end

section
namespace Go.Proofs.YtcccjgmekakabaaGreat.FW
open F
open Go Go.Den Go.Proofs
open FI (ai aD)
open FT
section
variable {S:List Nat} {w0 w:World} {ae:List aa}
set_option maxHeartbeats 4000000 in
theorem ZB (h:Hp S w0 w ae) (i j:Nat) (iZ:i≠j) {b:Nat} {a:WA} {e:bw} {kind:Int} {sv:Sl} {v:List Int} {u:aa} (ho:u.own=true) (hu: ∀{w:World} {O:List Nat},u.holds w O->cq w sv 2 1 iv v O) (hi:ae[i]? =some (tW b a)) (hj:ae[j]? =some u) (k1: -9223372036854775808<=kind) (k2:kind<=9223372036854775807) (qv:FP.eW v) {K:Int->World->Prop}
  (hK: ∀w',Hp S w0 w' (ae.set i (tW b (a.add e (kind,v)).1))->K (a.add e (kind,v)).2 w'):VV (some ⟨b,0,none⟩) e.1 e.2 kind sv w K:=by
 refine Jp ?_;unfold f16;obtain⟨O,h1,back⟩:=h.f2 iZ hi hj rfl ho;clear h;obtain⟨q,aT,ht,hk,h⟩:=gf h1;have cO:(kinds q.xs).length=q.xs.length:=by simp [kinds]
 have ig:=aT.len;have uV:q.xs.length<=12:=by rw [hk] at cO;omega
 have mJ:=aT.four;have h4: ∀x∈q.xs,x.2.2.length<=4:=fun x hx=>mJ (x.1,x.2.2) (by rw [<-hk];exact alu.2 ⟨x,hx,rfl⟩);have fin: ∀{w':World} {a':WA},Hp O w w' [tW b a',u]->Hp S w0 w' (ae.set i (tW b a')):=fun{w' a'} h=>by
  have:=back (rest:= []) rfl ho rfl h;rw [alh] at this;have e:(ae.set i (tW b a')).set j (u)=ae.set i (tW b a'):=Hp.bN (by rw [alC iZ];exact hj)
  rwa [e] at this
 have hR:Hp.Reads u sv 1 iv v:=⟨fun h=>⟨_,cq.toR (hu h)⟩⟩;have gJ:=h.dR (u:=u) 8 rfl hR;refine h.nw (c:= [_,_]) fun eb w1 h=>?_;have h:=h.up;refine h.nw (c:= [_,_]) fun pb w2 h=>?_;have h:=h.up;refine h.bE (k:=.i .i64) (x:=e.1) 9 rfl rfl ?_;refine h.ld (n:=1) (k:=.i .i64) (x:=e.2) 9 rfl rfl ?_;refine h.bE (k:=.i .i64) (x:=kind) 8 rfl rfl ?_;have same: ∀{w3:World},Hp O w w3 (q.all b a.m ao++(af pb 36 [.int .i64 kind,.slice sv.a sv.len sv.cap] :: af eb 33 [.int .i64 e.1,.int .i64 e.2] :: [u]))->Hp S w0 w3 (ae.set i (tW b a)):=fun{w3} h=>by
  have h:Hp O w w3 (q.all b a.m ao++ [af pb 36 [.int .i64 kind,.slice sv.a sv.len sv.cap],af eb 33 [.int .i64 e.1,.int .i64 e.2]]++ [u]):=h;exact fin (dT (rest:= [_]) aT ht hk rfl rfl h.cZ)
 refine sr h aT ht hk k1 k2 fun w3 h=>⟨fun hr=>?_,fun p hr hf=>?_,fun p r k hr oU nt=>?_⟩
 ·have hg:a.add e (kind,v)=(a,41):=by unfold WA.add;rw [kK hr,if_pos (by decide)]
  rw [hg] at hK;exact aL rfl (hK w3 (same h))
 ·have hg:a.add e (kind,v)=(a,60):=by unfold WA.add;rw [kL hr hf,if_pos (by decide)]
  rw [hg] at hK;exact aL rfl (hK w3 (same h))
 ·subst oU;have kM:=mu (a:=a) (e:=e) hr nt;refine aJ (by simp) ?_;have aZ:=ht.fit e p hr;have eT:r < p.length:=by rw [aZ.1];exact(ak6.1 nt).1
  have qb:p.length<=12:=by rw [aZ.1];omega
  have zu:=fg qb;have q9:=ff p;by_cases hh:(p.getD r none).isSome=true
  ·have hg:a.add e (((r+1:Nat):Int),v)=(a,61):=by unfold WA.add;dsimp only;rw [kM,if_neg (by simp),if_pos hh]
   rw [hg] at hK;exact aL hh (hK w3 (same h))
  ·refine aJ hh ?_;refine h.ld (n:=1) (k:=.sl) (x:=sv) 8 rfl rfl ?_;by_cases hn:v.length=k.2.length
   ·refine aJ (by simp;omega) ?_;have hg:a.add e (((r+1:Nat):Int),v)=(a.put e (p.set r (some v)),0):=by
     unfold WA.add;dsimp only;rw [kM,if_neg (by simp),if_neg hh,if_neg (by simpa using hn)]
    rw [hg] at hK;have sW:(a.row e).isSome=true:=by rw [hr];rfl
    have iB:=WA.xW aT sW (mq (aT.Gf e p hr) r qv);refine h.dr fun w4 h=>?_;refine h.bE (k:=.i .i64) (x:=e.1) 9 rfl rfl ?_;refine h.ld (n:=1) (k:=.i .i64) (x:=e.2) 9 rfl rfl ?_;refine h.bE (k:=.i .i64) (x:=((r+1:Nat):Int)) 8 rfl rfl ?_;refine h.ld (n:=1) (k:=.sl) (x:=sv) 8 rfl rfl ?_;refine v7 h (row:=a.row) (p:=p) (by rw [hk];exact ht) hr fun s T' w5 BM h=>?_;have h:=h.up;refine⟨h.xl (n:=1) 9 rfl rfl,h.vw 9 rfl rfl,?_⟩;refine jQ h 0 2 3 (cells:= [_,_,_]) rfl rfl rfl uV h4 q9 (by omega) (q:=r) (by show r<=q.xs.length;rw [aZ.1,<-hk,cO] at eT;omega) ?_;refine⟨h.xl (n:=1) 9 rfl rfl,?_⟩;show R4 _ ((gd (kinds q.xs) (aA p) r:Nat):Int) _ _ _;rw [hk];have dz:p.getD r none=none:=by simpa using hh
    have uR:=aZ.at (q:=r) (by omega);have bz:=aZ.all;have Gi:=fD mJ (aA p) a.ks.length;have Gg:=mJ _ (ala nt);have hle:gd a.ks (aA p) r<=(flat p).length:=by
     have kU:p[r]? =some none:=by
      have:p[r]? =some p[r]:=by simp [eT]
      rw [this];rw [alk,this] at dz;simpa using dz
     rw [uR,dI kU];simp
    refine CZ h 8 11 (by decide) ho hu (s:=s) (v:=sv) (l:=flat p) (xs:=v) rfl rfl hle (by omega) fun s' w6 h=>?_;rw [<-aZ.ins eT dz v] at h;refine h.dr fun w7 h=>?_;refine h.bE (k:=.i .i64) (x:=e.1) 10 rfl rfl ?_;refine h.ld (n:=1) (k:=.i .i64) (x:=e.2) 10 rfl rfl ?_;refine h.bE (k:=.i .i64) (x:=((r+1:Nat):Int)) 9 rfl rfl ?_;refine⟨by omega,?_⟩;rw [sb qb eT v];have h:Hp O w w7 (({ q with T:=T'}:WH).all b { a.m with aE:=aG a.m.aE e none} ao++(aj s' 2 1 iv (flat (p.set r (some v))) :: [af pb 36 [.int .i64 ((r+1:Nat):Int),.slice sv.a sv.len sv.cap],af eb 33 [.int .i64 e.1,.int .i64 e.2],u])):=h;have h:=kJ h;have eJ:PL.fit a.ks (p.set r (some v)):=aZ.set nt hn;refine pS h (row:=aG a.row e none) (e:=e) (p:=p.set r (some v)) BM (by show cY (kinds q.xs);rw [hk];exact aT.may) (by unfold aG;rw [if_pos rfl]) (by show PL.fit (kinds q.xs) _;rw [hk];exact eJ) (xX aT sW) Hp.bZ fun T2 w8 Ik h=>?_;have h:Hp O w w8 (({ q with T:=T2}:WH).all b { a.m with aE:=aG (aG a.m.aE e none) e (some (aA (p.set r (some v))))} (aj s' 2 1 iv (flat (p.set r (some v))))++ [ao,af pb 36 [.int .i64 ((r+1:Nat):Int),.slice sv.a sv.len sv.cap],af eb 33 [.int .i64 e.1,.int .i64 e.2]]++ [u]):=h;rw [AO] at Ik;refine hK w8 (fin (dT (rest:= [_]) (m:={ a.m with aE:=aG (aG a.m.aE e none) e (some (aA (p.set r (some v))))}) (q:={ q with T:=T2}) iB ?_ hk rfl ?_ h.cZ))
    ·show dS a.ks (aG a.row e (some (p.set r (some v)))) (fun x=>(aG a.row e (some (p.set r (some v))) x).map aA) _;rw [eX,<-hk];have:aG (aG a.m.aE e none) e (some (aA (p.set r (some v))))=aG (fun x=>(a.row x).map aA) e ((some (p.set r (some v))).map aA):=by rw [mv];rfl
     rw [<-this];exact Ik
    ·show aG (aG a.m.aE e none) e _=_;rw [mv];exact(eX a.row e (some (p.set r (some v)))).symm
   ·have hg:a.add e (((r+1:Nat):Int),v)=(a,63):=by
     unfold WA.add;dsimp only;rw [kM,if_neg (by simp),if_neg hh,if_pos hn]
    rw [hg] at hK;exact aL (by simp;omega) (hK w3 (same h))
end
end Go.Proofs.YtcccjgmekakabaaGreat.FW
end

section
namespace Go.Proofs.YtcccjgmekakabaaGreat.FW
open F
open Go Go.Den Go.Proofs
open FI (ai aD)
open FT (bw fo cu iv aB)
theorem VB (a:WA) (e:bw) (x:Part):(a.add e x).1.ks=a.ks:=by
 unfold WA.add;split
 ·rfl
 ·split
  ·rfl
  ·split <;> rfl
theorem VC (a:WA) (e:bw) (x:Part):(a.set e x).1.ks=a.ks:=by
 unfold WA.set;split
 ·rfl
 ·split
  ·rfl
  ·split <;> rfl
theorem H6 (a:WA) (e:bw) (k:Int):(a.remove e k).1.ks=a.ks:=by
 unfold WA.remove;split
 ·rfl
 ·split <;> rfl
section
variable {S:List Nat} {w0 w:World} {ae:List aa}
set_option maxHeartbeats 8000000 in
theorem zZ {bp ab bb N:Nat} {ks gv od ws:Sl} {a:WA} {G:List bw} {bd:C8} {uk uo:aa} {PV PS:Sl} {vs:List Int} {add:Bool} {kd H At N' pk:Int} {E:bw} (h:Hp S w0 w (cf bp ab bb N ks gv od ws a G bd++ [uk,uo]))
  (hv: ∀{w:World} {O:List Nat},uo.holds w O-> ∃o,bO w PV 1 iv vs o) (qv:FP.eW vs) (gJ:vs.length<=10000000) (k1: -9223372036854775808<=pk) (k2:pk<=9223372036854775807) (hG:G.length<=1000000) {K:Bool->World->Prop}
  (hK: ∀a' w',a'.ks=a.ks->Hp S w0 w' (cf bp ab bb N ks gv od ws a' G bd++ [uk,uo])->K true w'):Z7 (some ⟨bp,0,none⟩) kd H At N' E.1 E.2 pk PV PS add w K:=by
 refine Tb ?_;unfold f29;have hu:Hp.Reads uo PV 1 iv vs:=⟨fun h=>hv h⟩;refine h.nw (c:= [_,_,_,_,_,_,_,_,_]) fun ob w1 h=>?_;have h:Hp S w0 w1 (cf bp ab bb N ks gv od ws a G bd++ [uk,uo,iY ob kd H At N' E pk PV PS]):=h;refine h.pI (n:=6) (m:=1) (k:=.sl) (x:=PV) 9 rfl rfl ?_;have ae4: ∃o,bO w1 PV 1 iv vs o:=by
  obtain⟨O',gD⟩:=h.kY (i:=8) rfl;exact hv gD
 refine nQ h ae4 gJ fun v w2 Md ZC h=>?_;have h:Hp S w0 w2 (cf bp ab bb N ks gv od ws a G bd++ [uk,uo,iY ob kd H At N' E pk PV PS,n6 (pk,v,vs)]):=h;refine h.ld (n:=6) (k:=.i .i64) (x:=pk) 9 rfl rfl ?_;refine h.nw (c:= [_,_]) fun xb w3 h=>?_;refine h.gz 11 rfl (by simp) rfl fun w4 h=>?_;refine h.st (n:=1) 11 rfl (by simp) rfl fun w5 h=>?_;have h:Hp S w0 w5 (cf bp ab bb N ks gv od ws a G bd++ [uk,uo,iY ob kd H At N' E pk PV PS,n6 (pk,v,vs),af xb 36 [.int .i64 pk,.slice v.a v.len v.cap]]):=h;refine h.bE (k:=.i .i64) (x:=kd) 9 rfl rfl (h.ld (n:=1) (k:=.i .i64) (x:=H) 9 rfl rfl (h.ld (n:=2) (k:=.i .i64) (x:=At) 9 rfl rfl (h.ld (n:=3) (k:=.i .i64) (x:=N') 9 rfl rfl (h.ld (n:=4) (k:=.i .i64) (x:=E.1) 9 rfl rfl (h.ld (n:=5) (k:=.i .i64) (x:=E.2) 9 rfl rfl (h.ld (n:=6) (k:=.i .i64) (x:=pk) 9 rfl rfl (h.ld (n:=7) (k:=.sl) (x:=PV) 9 rfl rfl (h.ld (n:=8) (k:=.sl) (x:=PS) 9 rfl rfl ?_))))))));refine sF h 0 3 (G:=G) rfl rfl hG fun e w6 h=>?_;refine h.nw (c:= [_,_]) fun eb w7 h=>?_;refine h.gz 12 rfl (by simp) rfl fun w8 h=>?_;refine h.st (n:=1) 12 rfl (by simp) rfl fun w9 h=>?_;have h:Hp S w0 w9 (cf bp ab bb N ks gv od ws a G bd++ [uk,uo,iY ob kd H At N' E pk PV PS,n6 (pk,v,vs),af xb 36 [.int .i64 pk,.slice v.a v.len v.cap],af eb 33 [.int .i64 e.1,.int .i64 e.2]]):=h;refine⟨fun f g w'=>f=g /\ ∃a':WA,a'.ks=a.ks /\ Hp S w0 w' (cf bp ab bb N ks gv od ws a' G bd++ [uk,uo,iY ob kd H At N' E pk PV PS,n6 (pk,v,vs),af xb 36 [.int .i64 pk,.slice v.a v.len v.cap],af eb 33 [.int .i64 e.1,.int .i64 e.2]]),?_,?_⟩
 ·cases add with
  | true=>
   refine aL rfl ?_;refine h.dr fun nK h=>aS ?_;refine cN h 0 (k:=.p) (x:=some ⟨ab,0,none⟩) rfl rfl ?_;refine h.bE (k:=.i .i64) (x:=e.1) 12 rfl rfl (h.ld (n:=1) (k:=.i .i64) (x:=e.2) 12 rfl rfl ?_);refine h.bE (k:=.i .i64) (x:=pk) 11 rfl rfl (h.ld (n:=1) (k:=.sl) (x:=v) 11 rfl rfl ?_);refine ZB h 1 10 (by decide) (u:=n6 (pk,v,vs)) rfl (fun hO=>A3 (x:=(pk,v,vs)) Md.symm hO) rfl rfl k1 k2 qv fun qo h=>?_;refine h.dr fun vB h=>aS ?_;refine cG h 0 (c:=1) (k:=.p) (x:=some ⟨bb,0,none⟩) rfl rfl ?_;refine h.bE (k:=.i .i64) (x:=e.1) 12 rfl rfl (h.ld (n:=1) (k:=.i .i64) (x:=e.2) 12 rfl rfl ?_);refine h.ld (n:=6) (k:=.i .i64) (x:=pk) 9 rfl rfl (h.pI (n:=6) (m:=1) (k:=.sl) (x:=PV) 9 rfl rfl ?_);refine Vv h 2 8 (by decide) (u:=uo) rfl rfl hu k1 k2 qv fun Dm h=>?_;exact⟨rfl,(a.add e (pk,vs)).1,VB _ _ _,h⟩
  | false=>
   refine aJ (by simp) ?_;refine h.dr fun nK h=>aS ?_;refine cN h 0 (k:=.p) (x:=some ⟨ab,0,none⟩) rfl rfl ?_;refine h.bE (k:=.i .i64) (x:=e.1) 12 rfl rfl (h.ld (n:=1) (k:=.i .i64) (x:=e.2) 12 rfl rfl ?_);refine h.bE (k:=.i .i64) (x:=pk) 11 rfl rfl (h.ld (n:=1) (k:=.sl) (x:=v) 11 rfl rfl ?_);refine YD h 1 10 (by decide) (u:=n6 (pk,v,vs)) rfl rfl ⟨fun hO=>⟨_,cq.toR (A3 (x:=(pk,v,vs)) Md.symm hO)⟩⟩ k1 k2 qv fun qo h=>?_;refine h.dr fun vB h=>aS ?_;refine cG h 0 (c:=1) (k:=.p) (x:=some ⟨bb,0,none⟩) rfl rfl ?_;refine h.bE (k:=.i .i64) (x:=e.1) 12 rfl rfl (h.ld (n:=1) (k:=.i .i64) (x:=e.2) 12 rfl rfl ?_);refine h.ld (n:=6) (k:=.i .i64) (x:=pk) 9 rfl rfl (h.pI (n:=6) (m:=1) (k:=.sl) (x:=PV) 9 rfl rfl ?_);refine Vz h 2 8 (by decide) (u:=uo) rfl rfl hu k1 k2 qv fun Dm h=>?_;exact⟨rfl,(a.set e (pk,vs)).1,VC _ _ _,h⟩
 clear h;rintro f g nK ⟨rfl,a',QN,h⟩;refine h.pI (n:=6) (m:=1) (k:=.sl) (x:=PV) 9 rfl rfl ?_;refine mF (v:=vs) ?_ ?_ ZC gJ ?_
 ·obtain⟨O',gD⟩:=h.kY (i:=10) rfl;exact⟨O',cq.toR gD⟩
 ·obtain⟨O',gD⟩:=h.kY (i:=8) rfl;exact hv gD
 have hq:(f ==f)=true:=by simp
 rw [hq];refine⟨fun t mm w'=> ∃(n:Nat) (cs:List Int),t=n /\ n<=v.len /\ mm=v.len - n /\ cs.length=v.len+8 /\ Hp S w0 w' (cf bp ab bb N ks gv od ws a' G bd++ [uk,uo,iY ob kd H At N' E pk PV PS,aj (dD v) 2 1 iv cs]),⟨v.len,0,hU vs,rfl,by omega,rfl,by rw [j6,Md],h.trim 11⟩,?_⟩;clear h;rintro t mm qo ⟨n,cs,rfl,hn,rfl,ma,h⟩;by_cases av:n < v.len
 ·refine aL (by simp;omega) (Gw (len':=(dD v).len) (by omega) ?_);refine h.mW (s:=dD v) (y:=(78:Int)) 10 rfl (by omega) (by rw [ak7];omega) aB rfl rfl fun vB h=>?_;exact⟨v.len - (n+1),by omega,n+1,cs.set ((n:Nat):Int).toNat 78,by rw [aI (by omega) (by omega)];omega,by omega,rfl,by simpa using ma,h⟩
 ·exact aJ (by simp;omega) (hK a' qo QN (h.trim 9))
end
section
variable {S:List Nat} {w0 w:World} {ae:List aa}
theorem wh (h:Hp S w0 w ae) (i:Nat) {b:Nat} {c:List Value} (xs:List PV) (hi:(ae[i]?).map aa.holds=some (af b 36 c).holds) (hc:c=xs.flatMap ck) (hx: ∀x∈xs,∃j:Nat,(ae[j]?).map aa.holds=some (tV x).holds):ri w ⟨some ⟨b,0,none⟩,xs.length,xs.length⟩ (xs.map bq):=by
 obtain⟨O,hb,_⟩:=h.de hi;rw [hc] at hb;refine⟨xs,rfl,⟨_,cq.toR (cq.ra hb rfl aR)⟩,fun x fI=>?_⟩;obtain⟨j,hj⟩:=hx x fI;obtain⟨O',gD⟩:=h.de hj;exact⟨O',cq.toR gD⟩
theorem wi (h:Hp S w0 w ae) (i:Nat) {b:Nat} {c:List Value} (xs:List RV) (hi:(ae[i]?).map aa.holds=some (af b 75 c).holds) (hc:c=xs.flatMap rdv) (hx: ∀x∈xs,∃j:Nat,(ae[j]?).map aa.holds=some (gA x).holds):YU w ⟨some ⟨b,0,none⟩,xs.length,xs.length⟩ (xs.map dX):=by
 obtain⟨O,hb,_⟩:=h.de hi;rw [hc] at hb;refine⟨xs,rfl,⟨_,cq.toR (cq.ra hb rfl cc)⟩,fun x fI=>?_⟩;obtain⟨j,hj⟩:=hx x fI;obtain⟨O',gD⟩:=h.de hj;exact ue gD
theorem Qc {a:WA} (hf:a.fits) (e:bw) (kind:Int):(a.get e kind).1.length<=4:=by
 unfold WA.get
 cases hr:a.row e with
 | none=>simp
 | some p=>
  dsimp only
  cases dh:fl a.ks kind with
  | none=>simp
  | some n=>
   dsimp only
   cases hg:p.getD (kind - 1).toNat none with
   | none=>simp
   | some v=>
    dsimp only;have qR:=getD_some hg;have cO:(kind - 1).toNat < a.ks.length:=by rw [<-(hf.2 e p hr).1];exact(ak6.1 qR).1
    have hk:a.ks[(kind - 1).toNat]? =some a.ks[(kind - 1).toNat]:=alf cO;have h1:=(hf.2 e p hr).2 _ v _ qR hk;have h2:=hf.1.four _ (ala hk);omega
theorem Me {a:WA} (hf:a.fits) (e:bw):(a.mr e).1.2.length<=12 /\ ∀y∈(a.mr e).1.2,y.2.length<=4:=by
 unfold WA.mr
 cases hr:a.row e with
 | none=>simp
 | some p=>
  dsimp only;have:=iX hf hr;exact⟨this.1,this.2.2⟩
set_option maxHeartbeats 16000000 in
theorem H7 {bp ab bb N:Nat} {ks gv od ws:Sl} {a:WA} {G:List bw} {bd:C8} {uk uo:aa} {PV PS:Sl} {kd H At N' pk:Int} {E:bw} (h:Hp S w0 w (cf bp ab bb N ks gv od ws a G bd++ [uk,uo]))
  (k1: -9223372036854775808<=N') (k2:N'<=9223372036854775807) (hG:G.length<=1000000) (hN:N<=100000000) {K:Bool->World->Prop}
  (hK: ∀w',Hp S w0 w' (cf bp ab bb (N+12000) ks gv od ws a G bd++ [uk,uo])->K true w'):c32 (some ⟨bp,0,none⟩) kd H At N' E.1 E.2 pk PV PS w K:=by
 refine Tk ?_;unfold f32;have aZ:a.fits:=K9 h 1 rfl;refine h.nw (c:= [_,_,_,_,_,_,_,_,_]) fun ob w1 h=>?_;refine h.bE (k:=.i .i64) (x:=kd) 9 rfl rfl (h.ld (n:=1) (k:=.i .i64) (x:=H) 9 rfl rfl (h.ld (n:=2) (k:=.i .i64) (x:=At) 9 rfl rfl (h.ld (n:=3) (k:=.i .i64) (x:=N') 9 rfl rfl (h.ld (n:=4) (k:=.i .i64) (x:=E.1) 9 rfl rfl (h.ld (n:=5) (k:=.i .i64) (x:=E.2) 9 rfl rfl (h.ld (n:=6) (k:=.i .i64) (x:=pk) 9 rfl rfl (h.ld (n:=7) (k:=.sl) (x:=PV) 9 rfl rfl (h.ld (n:=8) (k:=.sl) (x:=PS) 9 rfl rfl ?_))))))));refine sF h 0 3 (G:=G) rfl rfl hG fun e w2 h=>?_;refine h.nw (c:= [_,_]) fun eb w3 h=>?_;refine h.gz 10 rfl (by simp) rfl fun w4 h=>?_;refine h.st (n:=1) 10 rfl (by simp) rfl fun w5 h=>?_;have h:Hp S w0 w5 (cf bp ab bb N ks gv od ws a G bd++ [uk,uo]++ [iY ob kd H At N' E pk PV PS,af eb 33 [.int .i64 e.1,.int .i64 e.2]]):=h;have Kn:=Qc aZ e N';obtain⟨ZD,VD⟩:=Me aZ e;generalize eL:a.get e N'=gt at Kn;generalize e9:a.mr e=rt at ZD VD;obtain⟨mG,ge⟩:=gt;obtain⟨⟨re,mH⟩,ajL⟩:=rt;dsimp only at Kn ZD VD;obtain⟨gk,zy⟩: ∃gk:Int,gk=if ge=0 then N' else 0:=⟨_,rfl⟩
 -- two answers of Get
 have GET: ∀{A:List aa} {w6:World} {K':Addr->World->Prop},Hp S w0 w6 (cf bp ab bb N ks gv od ws a G bd++A)->(∀(xb:Nat) (s:Sl) w',Hp S w0 w' (cf bp ab bb N ks gv od ws a G bd++A++ [af xb 36 [.int .i64 gk,.slice s.a s.len s.cap],aj s 2 1 iv mG])->K' ⟨xb,0,none⟩ w')->True:=fun _ _=>trivial;clear GET;refine h.dr fun w6 h=>aS ?_;refine cN h 0 (k:=.p) (x:=some ⟨ab,0,none⟩) rfl rfl ?_;refine h.bE (k:=.i .i64) (x:=e.1) 10 rfl rfl (h.ld (n:=1) (k:=.i .i64) (x:=e.2) 10 rfl rfl (h.ld (n:=3) (k:=.i .i64) (x:=N') 9 rfl rfl ?_));have h:=h.opt 36 [.int .i64 0,.slice none 0 0];refine h.dB 11 rfl fun y w7 h=>?_;refine Q3 h 1 (a:=a) rfl k1 k2 fun s1 w8 h=>?_;rw [eL] at h ⊢;dsimp only at h ⊢;rw [<-zy];refine h.dB 11 rfl fun y w9 h=>?_;refine h.Ei 11 rfl fun Qd h=>?_;refine h.gz 11 rfl (by simp) rfl fun nK h=>?_;refine h.st (n:=1) 11 rfl (by simp) rfl fun qo h=>?_;have h:Hp S w0 qo (cf bp ab bb N ks gv od ws a G bd++ [uk,uo]++ [iY ob kd H At N' E pk PV PS,af eb 33 [.int .i64 e.1,.int .i64 e.2],af Qd 36 [.int .i64 gk,.slice s1.a s1.len s1.cap],aj s1 2 1 iv mG]):=h;refine h.dr fun w6 h=>aS ?_;refine cN h 0 (k:=.p) (x:=some ⟨ab,0,none⟩) rfl rfl ?_;refine h.bE (k:=.i .i64) (x:=e.1) 10 rfl rfl (h.ld (n:=1) (k:=.i .i64) (x:=e.2) 10 rfl rfl (h.ld (n:=3) (k:=.i .i64) (x:=N') 9 rfl rfl ?_));have h:=h.opt 36 [.int .i64 0,.slice none 0 0];refine h.dB 13 rfl fun y w7 h=>?_;refine Q3 h 1 (a:=a) rfl k1 k2 fun s2 w8 h=>?_;rw [eL] at h ⊢;dsimp only at h ⊢;rw [<-zy];refine h.dB 13 rfl fun y w9 h=>?_;refine h.Ei 13 rfl fun Rp h=>?_;refine h.gz 13 rfl (by simp) rfl fun nK h=>?_;refine h.st (n:=1) 13 rfl (by simp) rfl fun qo h=>?_;have h:Hp S w0 qo (cf bp ab bb N ks gv od ws a G bd++ [uk,uo]++ [iY ob kd H At N' E pk PV PS,af eb 33 [.int .i64 e.1,.int .i64 e.2],af Qd 36 [.int .i64 gk,.slice s1.a s1.len s1.cap],aj s1 2 1 iv mG,af Rp 36 [.int .i64 gk,.slice s2.a s2.len s2.cap],aj s2 2 1 iv mG]):=h;refine h.dr fun w6 h=>aS ?_;refine cN h 0 (k:=.p) (x:=some ⟨ab,0,none⟩) rfl rfl ?_;refine h.bE (k:=.i .i64) (x:=e.1) 10 rfl rfl (h.ld (n:=1) (k:=.i .i64) (x:=e.2) 10 rfl rfl ?_);have h:=h.opt 75 [.int .i64 0,.int .i64 0,.slice none 0 0];refine h.dB 15 rfl fun y w7 h=>?_;refine Q7 h 1 (a:=a) rfl fun s3 w8 h=>?_;rw [e9] at h ⊢;dsimp only at h ⊢;refine h.dB 15 rfl fun y w9 h=>?_;refine h.Ei 15 rfl fun VE h=>?_;refine h.gz 15 rfl (by simp) rfl fun nK h=>?_;refine h.st (n:=1) 15 rfl (by simp) rfl fun qo h=>?_;refine h.st (n:=2) 15 rfl (by simp) rfl fun vB h=>?_;have h:Hp S w0 vB (cf bp ab bb N ks gv od ws a G bd++ [uk,uo]++ [iY ob kd H At N' E pk PV PS,af eb 33 [.int .i64 e.1,.int .i64 e.2],af Qd 36 [.int .i64 gk,.slice s1.a s1.len s1.cap],aj s1 2 1 iv mG,af Rp 36 [.int .i64 gk,.slice s2.a s2.len s2.cap],aj s2 2 1 iv mG,af VE 75 [.int .i64 re.1,.int .i64 re.2,.slice s3.a s3.len s3.cap],aN s3 mH]):=h;refine h.dr fun w6 h=>aS ?_;refine cN h 0 (k:=.p) (x:=some ⟨ab,0,none⟩) rfl rfl ?_;refine h.bE (k:=.i .i64) (x:=e.1) 10 rfl rfl (h.ld (n:=1) (k:=.i .i64) (x:=e.2) 10 rfl rfl ?_);have h:=h.opt 75 [.int .i64 0,.int .i64 0,.slice none 0 0];refine h.dB 17 rfl fun y w7 h=>?_;refine Q7 h 1 (a:=a) rfl fun s4 w8 h=>?_;rw [e9] at h ⊢;dsimp only at h ⊢;refine h.dB 17 rfl fun y w9 h=>?_;refine h.Ei 17 rfl fun Ws h=>?_;refine h.gz 17 rfl (by simp) rfl fun nK h=>?_;refine h.st (n:=1) 17 rfl (by simp) rfl fun qo h=>?_;refine h.st (n:=2) 17 rfl (by simp) rfl fun vB h=>?_;have h:Hp S w0 vB (cf bp ab bb N ks gv od ws a G bd++ [uk,uo]++ [iY ob kd H At N' E pk PV PS,af eb 33 [.int .i64 e.1,.int .i64 e.2],af Qd 36 [.int .i64 gk,.slice s1.a s1.len s1.cap],aj s1 2 1 iv mG,af Rp 36 [.int .i64 gk,.slice s2.a s2.len s2.cap],aj s2 2 1 iv mG,af VE 75 [.int .i64 re.1,.int .i64 re.2,.slice s3.a s3.len s3.cap],aN s3 mH,af Ws 75 [.int .i64 re.1,.int .i64 re.2,.slice s4.a s4.len s4.cap],aN s4 mH]):=h;refine h.dr fun w6 h=>aS ?_;refine cG h 0 (c:=1) (k:=.p) (x:=some ⟨bb,0,none⟩) rfl rfl ?_;refine h.bE (k:=.i .i64) (x:=e.1) 10 rfl rfl (h.ld (n:=1) (k:=.i .i64) (x:=e.2) 10 rfl rfl (h.ld (n:=3) (k:=.i .i64) (x:=N') 9 rfl rfl ?_));have h:=h.opt 36 [.int .i64 0,.slice none 0 0];refine h.dB 19 rfl fun y w7 h=>?_;refine Vu h 2 (a:=a) rfl k1 k2 fun s5 w8 h=>?_;rw [eL] at h ⊢;dsimp only at h ⊢;rw [<-zy];refine h.dB 19 rfl fun y w9 h=>?_;refine h.Ei 19 rfl fun ZE h=>?_;refine h.gz 19 rfl (by simp) rfl fun nK h=>?_;refine h.st (n:=1) 19 rfl (by simp) rfl fun qo h=>?_;have h:Hp S w0 qo (cf bp ab bb N ks gv od ws a G bd++ [uk,uo]++ [iY ob kd H At N' E pk PV PS,af eb 33 [.int .i64 e.1,.int .i64 e.2],af Qd 36 [.int .i64 gk,.slice s1.a s1.len s1.cap],aj s1 2 1 iv mG,af Rp 36 [.int .i64 gk,.slice s2.a s2.len s2.cap],aj s2 2 1 iv mG,af VE 75 [.int .i64 re.1,.int .i64 re.2,.slice s3.a s3.len s3.cap],aN s3 mH,af Ws 75 [.int .i64 re.1,.int .i64 re.2,.slice s4.a s4.len s4.cap],aN s4 mH,af ZE 36 [.int .i64 gk,.slice s5.a s5.len s5.cap],aj s5 2 1 iv mG]):=h;refine h.dr fun w6 h=>aS ?_;refine cG h 0 (c:=1) (k:=.p) (x:=some ⟨bb,0,none⟩) rfl rfl ?_;refine h.bE (k:=.i .i64) (x:=e.1) 10 rfl rfl (h.ld (n:=1) (k:=.i .i64) (x:=e.2) 10 rfl rfl ?_);have h:=h.opt 75 [.int .i64 0,.int .i64 0,.slice none 0 0];refine h.dB 21 rfl fun y w7 h=>?_;refine Vt h 2 (a:=a) rfl fun s6 w8 h=>?_;rw [e9] at h ⊢;dsimp only at h ⊢;refine h.dB 21 rfl fun y w9 h=>?_;refine h.Ei 21 rfl fun rb3 h=>?_;refine h.gz 21 rfl (by simp) rfl fun nK h=>?_;refine h.st (n:=1) 21 rfl (by simp) rfl fun qo h=>?_;refine h.st (n:=2) 21 rfl (by simp) rfl fun vB h=>?_;have h:Hp S w0 vB (cf bp ab bb N ks gv od ws a G bd++ [uk,uo]++ [iY ob kd H At N' E pk PV PS,af eb 33 [.int .i64 e.1,.int .i64 e.2],af Qd 36 [.int .i64 gk,.slice s1.a s1.len s1.cap],aj s1 2 1 iv mG,af Rp 36 [.int .i64 gk,.slice s2.a s2.len s2.cap],aj s2 2 1 iv mG,af VE 75 [.int .i64 re.1,.int .i64 re.2,.slice s3.a s3.len s3.cap],aN s3 mH,af Ws 75 [.int .i64 re.1,.int .i64 re.2,.slice s4.a s4.len s4.cap],aN s4 mH,af ZE 36 [.int .i64 gk,.slice s5.a s5.len s5.cap],aj s5 2 1 iv mG,af rb3 75 [.int .i64 re.1,.int .i64 re.2,.slice s6.a s6.len s6.cap],aN s6 mH]):=h;refine h.dr fun w6 h=>aS ?_;refine cN h 0 (k:=.p) (x:=some ⟨ab,0,none⟩) rfl rfl ?_;refine h.bE (k:=.i .i64) (x:=e.1) 10 rfl rfl (h.ld (n:=1) (k:=.i .i64) (x:=e.2) 10 rfl rfl ?_);refine PG h 1 (a:=a) rfl fun w7 h=>?_;have Lx: ∀{w':World} {ts:List aa} (i:Nat) {b:Nat} {s:Sl} {K':Int->Sl->Prop},Hp S w0 w' ts->(ts[i]?).map aa.holds=some (af b 36 [.int .i64 gk,.slice s.a s.len s.cap]).holds->K' gk s->Ld (.i .i64) w' ⟨b,0,none⟩ fun k=>Ld .sl w' ((⟨b,0,none⟩:Addr).add 1) fun v=>K' k v:=fun{w' ts} i {b s K'} h hi hk=>h.bE (k:=.i .i64) (x:=gk) i hi rfl (h.ld (n:=1) (k:=.sl) (x:=s) i hi rfl hk);have Lr: ∀{w':World} {ts:List aa} (i:Nat) {b:Nat} {s:Sl} {K':Int->Int->Sl->Prop},Hp S w0 w' ts->(ts[i]?).map aa.holds=some (af b 75 [.int .i64 re.1,.int .i64 re.2,.slice s.a s.len s.cap]).holds->K' re.1 re.2 s->Ld (.i .i64) w' ⟨b,0,none⟩ fun k=>Ld (.i .i64) w' ((⟨b,0,none⟩:Addr).add 1) fun g=>Ld .sl w' ((⟨b,0,none⟩:Addr).add 2) fun v=>K' k g v:=fun{w' ts} i {b s K'} h hi hk=>h.bE (k:=.i .i64) (x:=re.1) i hi rfl (h.ld (n:=1) (k:=.i .i64) (x:=re.2) i hi rfl (h.ld (n:=2) (k:=.sl) (x:=s) i hi rfl hk));refine Lx 11 h rfl (Lx 13 h rfl ?_);refine h.nw (c:= [_,_,_,_]) fun b4 w8 h=>?_;refine Lx 19 h rfl (Lx 19 h rfl ?_);refine h.nw (c:= [_,_,_,_]) fun b5 w9 h=>?_;have p1:=wh h 23 [((gk,s1,mG):Int×Sl×List Int),(gk,s2,mG)] rfl rfl (fun x hx=>by
  simp only [alF,amp,or_false] at hx
  rcases hx with rfl | rfl
  ·exact⟨12,rfl⟩
  ·exact⟨14,rfl⟩)
 have p2:=wh h 24 [((gk,s5,mG):Int×Sl×List Int),(gk,s5,mG)] rfl rfl (fun x hx=>by
  simp only [alF,amp,or_false] at hx
  rcases hx with rfl | rfl
  ·exact⟨20,rfl⟩
  ·exact⟨20,rfl⟩)
 have two: ∀x∈([((gk,s1,mG):Int×Sl×List Int),(gk,s2,mG)].map bq),x.2.length<=1000000000:=fun x hx=>by
  simp only [alR,amK,alF,amp,or_false] at hx
  rcases hx with rfl | rfl
  ·show mG.length<=_;omega
  ·show mG.length<=_;omega
 refine kP p1 p2 (by simp) two fun nK f10=>?_;have e1:decide ([((gk,s1,mG):Int×Sl×List Int),(gk,s2,mG)].map bq= [((gk,s5,mG):Int×Sl×List Int),(gk,s5,mG)].map bq)=true:=decide_eq_true rfl;rw [e1];have h:=h.cn f10;refine Lr 15 h rfl (Lr 17 h rfl ?_);refine h.nw (c:= [_,_,_,_,_,_]) fun b6 qo h=>?_;refine Lr 21 h rfl (Lr 21 h rfl ?_);refine h.nw (c:= [_,_,_,_,_,_]) fun b7 vB h=>?_;have p3:=wi h 25 [((re,s3,mH):RV),(re,s4,mH)] rfl rfl (fun x hx=>by
  simp only [alF,amp,or_false] at hx
  rcases hx with rfl | rfl
  ·exact⟨16,rfl⟩
  ·exact⟨18,rfl⟩)
 have p4:=wi h 26 [((re,s6,mH):RV),(re,s6,mH)] rfl rfl (fun x hx=>by
  simp only [alF,amp,or_false] at hx
  rcases hx with rfl | rfl
  ·exact⟨22,rfl⟩
  ·exact⟨22,rfl⟩)
 have ae5: ∀x∈([((re,s3,mH):RV),(re,s4,mH)].map dX),x.2.length<=1000000000 /\ ∀y∈x.2,y.2.length<=1000000000:=fun x hx=>by
  simp only [alR,amK,alF,amp,or_false] at hx
  rcases hx with rfl | rfl
  ·exact⟨by show mH.length<=_;omega,fun y hy=>by have:=VD y hy;omega⟩
  ·exact⟨by show mH.length<=_;omega,fun y hy=>by have:=VD y hy;omega⟩
 refine lI p3 p4 (by simp) ae5 fun Dm f13=>?_;have e2:decide ([((re,s3,mH):RV),(re,s4,mH)].map dX= [((re,s6,mH):RV),(re,s6,mH)].map dX)=true:=decide_eq_true rfl;rw [e2];have h:=(h.cn f13).trim 23;have h:Hp S w0 Dm (cf bp ab bb N ks gv od ws a G bd++ [uk,uo]++ [iY ob kd H At N' E pk PV PS,af eb 33 [.int .i64 e.1,.int .i64 e.2],af Qd 36 [.int .i64 gk,.slice s1.a s1.len s1.cap],aj s1 2 1 iv mG,af Rp 36 [.int .i64 gk,.slice s2.a s2.len s2.cap],aj s2 2 1 iv mG,af VE 75 [.int .i64 re.1,.int .i64 re.2,.slice s3.a s3.len s3.cap],aN s3 mH,af Ws 75 [.int .i64 re.1,.int .i64 re.2,.slice s4.a s4.len s4.cap],aN s4 mH,af ZE 36 [.int .i64 gk,.slice s5.a s5.len s5.cap],aj s5 2 1 iv mG,af rb3 75 [.int .i64 re.1,.int .i64 re.2,.slice s6.a s6.len s6.cap],aN s6 mH]):=h;refine⟨fun w'=>Hp S w0 w' (cf bp ab bb N ks gv od ws a G bd++ [uk,uo]++ [iY ob kd H At N' E pk PV PS,af eb 33 [.int .i64 e.1,.int .i64 e.2],af Qd 36 [.int .i64 gk,.slice s1.a s1.len s1.cap],aj s1 2 1 iv mG,af Rp 36 [.int .i64 gk,.slice s2.a s2.len s2.cap],aj s2 2 1 iv mG,af VE 75 [.int .i64 re.1,.int .i64 re.2,.slice s3.a s3.len s3.cap],aN s3 mH,af Ws 75 [.int .i64 re.1,.int .i64 re.2,.slice s4.a s4.len s4.cap],aN s4 mH,af ZE 36 [.int .i64 gk,.slice s5.a s5.len s5.cap],aj s5 2 1 iv mG,af rb3 75 [.int .i64 re.1,.int .i64 re.2,.slice s6.a s6.len s6.cap],aN s6 mH]),?_,?_⟩
 ·refine h.dr fun PK h=>?_;refine aJ (by simp) (aJ (by simp) (aJ (by simp) (aJ (by simp) (aS ?_))));refine cG h 0 (c:=1) (k:=.p) (x:=some ⟨bb,0,none⟩) rfl rfl ?_;refine h.bE (k:=.i .i64) (x:=e.1) 10 rfl rfl (h.ld (n:=1) (k:=.i .i64) (x:=e.2) 10 rfl rfl ?_);refine L5 h 2 (a:=a) rfl fun Vg h=>?_;exact aJ (by simp) (h.trim 23)
 clear h p1 p2 p3 p4;rintro PK h;refine h.dr fun Vg h=>aS ?_;refine h.ld (n:=1) (k:=.sl) (x:=s1) 11 rfl rfl ?_;refine o8 h 0 12 (by decide) (N:=N) (M:=0) (xs:=mG) rfl rfl (by omega) (by omega) fun Wl h=>?_;refine h.dr fun Ra h=>aS ?_;refine h.ld (n:=2) (k:=.sl) (x:=s3) 15 rfl rfl ?_;refine qY h 0 16 (by decide) (N:=N) (M:=1) (ps:=mH) rfl rfl (by omega) (by omega) (fun x hx=>by have:=VD x hx;omega) fun YH h=>aS ?_;refine nB h 0 (N:=N) (M:=1+1*mH.length+1) rfl (by omega) fun Vh h=>?_;have h:Hp S w0 Vh (cf bp ab bb (N+2*(1+1*mH.length+1)) ks gv od ws a G bd++ [uk,uo]++ [iY ob kd H At N' E pk PV PS,af eb 33 [.int .i64 e.1,.int .i64 e.2],af Qd 36 [.int .i64 gk,.slice s1.a s1.len s1.cap],ao,af Rp 36 [.int .i64 gk,.slice s2.a s2.len s2.cap],aj s2 2 1 iv mG,af VE 75 [.int .i64 re.1,.int .i64 re.2,.slice s3.a s3.len s3.cap],ao,af Ws 75 [.int .i64 re.1,.int .i64 re.2,.slice s4.a s4.len s4.cap],aN s4 mH,af ZE 36 [.int .i64 gk,.slice s5.a s5.len s5.cap],aj s5 2 1 iv mG,af rb3 75 [.int .i64 re.1,.int .i64 re.2,.slice s6.a s6.len s6.cap],aN s6 mH]):=h;refine Lx 13 h rfl ?_;refine h.nw (c:= [_,_]) fun b9 w20 h=>?_;refine Lx 19 h rfl ?_;refine h.nw (c:= [_,_]) fun V7 w21 h=>?_;have p1:=wh h 23 [((gk,s2,mG):Int×Sl×List Int)] rfl rfl (fun x hx=>by
  simp only [ali] at hx;subst hx;exact⟨14,rfl⟩)
 have p2:=wh h 24 [((gk,s5,mG):Int×Sl×List Int)] rfl rfl (fun x hx=>by
  simp only [ali] at hx;subst hx;exact⟨20,rfl⟩)
 refine kP p1 p2 (by simp) (fun x hx=>by
  simp only [alR,amK,ali] at hx;subst hx;show mG.length<=_;omega) fun w22 f22=>?_
 have e3:decide ([((gk,s2,mG):Int×Sl×List Int)].map bq= [((gk,s5,mG):Int×Sl×List Int)].map bq)=true:=decide_eq_true rfl;rw [e3];have h:=h.cn f22;refine Lr 17 h rfl ?_;refine h.nw (c:= [_,_,_]) fun b11 w23 h=>?_;refine Lr 21 h rfl ?_;refine h.nw (c:= [_,_,_]) fun b12 w24 h=>?_;have p3:=wi h 25 [((re,s4,mH):RV)] rfl rfl (fun x hx=>by
  simp only [ali] at hx;subst hx;exact⟨18,rfl⟩)
 have p4:=wi h 26 [((re,s6,mH):RV)] rfl rfl (fun x hx=>by
  simp only [ali] at hx;subst hx;exact⟨22,rfl⟩)
 refine lI p3 p4 (by simp) (fun x hx=>by
  simp only [alR,amK,ali] at hx;subst hx;exact⟨by show mH.length<=_;omega,fun y hy=>by have:=VD y hy;omega⟩) fun w25 f25=>?_
 have e4:decide ([((re,s4,mH):RV)].map dX= [((re,s6,mH):RV)].map dX)=true:=decide_eq_true rfl;rw [e4];have h:=h.cn f25;refine h.dr fun w26 h=>aS ?_;refine h.ld (n:=1) (k:=.sl) (x:=s2) 13 rfl rfl ?_;refine o8 h 0 14 (by decide) (N:=N+2*(1+1*mH.length+1)) (M:=0) (xs:=mG) rfl rfl (by omega) (by omega) fun w27 h=>?_;refine h.dr fun w28 h=>aS ?_;refine h.ld (n:=2) (k:=.sl) (x:=s4) 17 rfl rfl ?_;refine qY h 0 18 (by decide) (N:=N+2*(1+1*mH.length+1)) (M:=1) (ps:=mH) rfl rfl (by omega) (by omega) (fun x hx=>by have:=VD x hx;omega) fun w29 h=>aS ?_;refine nB h 0 (N:=N+2*(1+1*mH.length+1)) (M:=1+1*mH.length+1) rfl (by omega) fun w30 h=>?_;have h:=mB h (i:=0) (N':=N+12000) (M':=0) rfl (by omega) (alA _);exact hK w30 (h.trim 9)
end
structure PX where
 ab:Nat
 bb:Nat
 gv:Sl
 od:Sl
 ws:Sl
 a:WA
 G:List bw
 bd:C8
abbrev PX.list (x:PX) (bp N:Nat) (ks:Sl):List aa:=cf bp x.ab x.bb N ks x.gv x.od x.ws x.a x.G x.bd
def PX.ok (x:PX) (kd:KD) (n:Nat):Prop:=x.a.ks=kd /\ x.G.length<=2*n /\ x.bd.length<=n
theorem PX.owns (x:PX) (bp N:Nat) (ks:Sl):Hp.owns (x.list bp N ks)=true:=by
 show (true && (true && (true && (true && (true && (true && ((ak (x.bd.map sG)).own && true)))))))=true;rw [aM];rfl
def yu (bp:Nat) (ks:Sl) (kd:KD) (n:Nat):aa:=Mx fun x:PX=>kZ (x.ok kd n) (ak (x.list bp (n*12000+12000) ks))
section
variable {S:List Nat} {w0 w:World} {ae:List aa}
theorem Gy: ∀(ts:List aa) {A:List aa},Hp.owns ts=true->Hp S w0 w (A++ [ak ts])->Hp S w0 w (A++ts)
 | [],A,_,h=>by rw [alh];exact h.front
 | t :: ts,A,ho,h=>by
  have QM:t.own=true /\ Hp.owns ts=true:=by simpa [Hp.owns] using ho
  have h:=h.split (i:=A.length) (a:=t) (b:=ak ts) alw QM.1 (aM _);rw [alj _ _ (alA _),alK,alq] at h;have h:=Gy ts QM.2 h
  simpa using h
theorem uj {bp n:Nat} {ks:Sl} {kd:KD} {rest:List aa} (h:Hp S w0 w (yu bp ks kd n :: rest)): ∃x:PX,x.ok kd n /\ Hp S w0 w (x.list bp (n*12000+12000) ks++rest):=by
 obtain⟨x,h⟩:=h.nf (i:=0) rfl (fun _=>rfl);obtain⟨hx,h⟩:=h.lp (i:=0) rfl (aM _);refine⟨x,hx,?_⟩;have h:Hp S w0 w ([ak (x.list bp (n*12000+12000) ks)]++rest):=h;have h:=Gy (x.list bp (n*12000+12000) ks) (x.owns _ _ _) h.comm;exact h.comm
theorem pY {bp n N:Nat} {ks:Sl} {kd:KD} {rest:List aa} (x:PX) (hx:x.ok kd n) (hN:N<=n*12000+12000) (h:Hp S w0 w (x.list bp N ks++rest)):Hp S w0 w (yu bp ks kd n :: rest):=by
 have h:=mB h (i:=0) (N':=n*12000+12000) (M':=0) rfl hN (alA _);have h:Hp S w0 w (x.list bp (n*12000+12000) ks++rest):=h;have h:=h.comm;have h:=Hp.EO (x.list bp (n*12000+12000) ks) (x.owns _ _ _) h;have h:=h.comm;have h:=h.kq (i:=0) hx rfl (aM _);have h:=h.nH (f:=fun x:PX=>kZ (x.ok kd n) (ak (x.list bp (n*12000+12000) ks))) (i:=0) x rfl rfl;exact h
def Qe (VS:Sl) (vs:List Int) (PS:Sl) (qs:List PV):aa:=
  { holds:=fun w O=>(∃o,bO w VS 1 iv vs o /\ ∀k∈o,k∈O) /\ (fJ PS qs).holds w O
    fr:=fun{S w w' O} h hf hn=>⟨by
      obtain⟨o,h1,h2⟩:=h.1;exact⟨o,h1.fr hf (fun k hk=>hn k (h2 k hk)),h2⟩,(fJ PS qs).fr h.2 hf hn⟩
    lt:=fun h=>(fJ _ _).lt h.2}
theorem Fo (h:Hp S w0 w ae) (i:Nat) {bp n:Nat} {ks:Sl} {kd:KD} (hi:ae[i]? =some (yu bp ks kd n)) (hn:n<=1000) {K:Bool->World->Prop} (hK: ∀w',Hp S w0 w' ae->K true w'):Z2 (some ⟨bp,6,none⟩) w K:=by
 obtain⟨O,h1,back⟩:=h.f1 hi rfl;obtain⟨x,hx,h2⟩:=uj h1;refine Fk h2 0 rfl (by omega) fun w' h2=>?_;have:=back (rest:= []) rfl rfl (pY x hx (alA _) h2);rw [alh,Hp.bN hi] at this;exact hK w' this
theorem Mf (h:Hp S w0 w ae) {i:Nat} {s:Sl} {l:List Part} (hi:ae[i]? =some (aN s l)): ∃xs:List PV,xs.map bq=l /\ Hp S w0 w (ae.set i (fJ s xs)):=by
 have hl:=(ak6.1 hi).1;obtain⟨xs,h⟩:=h.nf hi (fun _=>rfl);obtain⟨hx,h⟩:=h.lp (i:=i) (by rw [alx hl]) rfl;rw [al2] at h;have h:=h.rP (i:=i) (t':=fJ s xs) (by rw [alx hl]) rfl (fun w O hO=>by
  have av:=(bo (aj s 36 2 ck xs) (ak (xs.map tV))).lt hO;obtain⟨O1,O2,h1,h2,h3,h4⟩:=hO;refine⟨av,⟨O1,cq.toR h1,fun k hk=>(h4 k).2 (.inl hk)⟩,fun x fI=>?_⟩;obtain⟨k,hk⟩:=aly fI;obtain⟨O3,O4,g1,_,_,g4⟩:=dk (k:=k) (t:=tV x) (by rw [alc,hk];rfl) h2;exact⟨O3,cq.toR g1,fun q hq=>(h4 q).2 (.inr ((g4 q).2 (.inl hq)))⟩) rfl
 rw [al2] at h;exact⟨xs,hx,h⟩
theorem H8 (v:List Int):FP.eW (dw v):=fun x hx=>by
 obtain⟨y,_,rfl⟩:=alu.1 hx;exact⟨wP _,wQ _⟩
set_option maxHeartbeats 16000000 in
theorem H9 (h:Hp S w0 w ae) (i jk jo:Nat) (aW:i≠jk) (UB:i≠jo) {bp n:Nat} {ks:Sl} {kd:KD} {uk:aa} {ys:List KS} {VS PS:Sl} {vs:List Int} {qs:List PV} {ps:List Part} {kn H At N' pk:Int} {E:bw}
  (hi:ae[i]? =some (yu bp ks kd n)) (mQ:ae[jk]? =some uk) (huk:uk.holds=(dK ks ys).holds) (yO:kinds ys=kd) (p5:ys.length<=10000000) (dL: ∀x∈ys,x.2.2.length<=10000000 /\ x.1.size<=1000000000000 /\ ∀y∈x.2.2,y.size<=1000000000000)
  (hjo:ae[jo]? =some (Qe VS vs PS qs).ro) (hqs:qs.map bq=ps) (hn:n<=300) (qv:FP.eW vs) (gJ:vs.length<=10000000) (k1: -9223372036854775808<=pk) (k2:pk<=9223372036854775807) (n1: -9223372036854775808<=N') (n2:N'<=9223372036854775807)
  (ER: ∀x∈ps,-9223372036854775808<=x.1 /\ x.1<=9223372036854775807) (kU: ∀x∈ps,FP.eW x.2) (si:ps.length<=10000000) (qR: ∀x∈ps,x.2.length<=10000000)
  {K:Bool->World->Prop} (hK: ∀w',Hp S w0 w' (ae.set i (yu bp ks kd (n+1)))->K true w'):c9 (some ⟨bp,0,none⟩) kn H At N' E.1 E.2 pk VS PS w K:=by
 refine Xn ?_;unfold f9;obtain⟨O,h1,back⟩:=h.XN aW UB hi mQ hjo rfl;clear h;obtain⟨x,hx,h⟩:=uj h1;clear h1;obtain⟨ab,bb,gv,od,ws,a,G,bd⟩:=x;obtain⟨sI,hG,holds⟩:=hx;dsimp only at sI hG holds h;obtain⟨N,hN⟩: ∃N:Nat,N=n*12000+12000:=⟨_,rfl⟩;rw [<-hN] at h;have qd: ∀{w':World} {more:List aa} {ab' N2:Nat} {C4 sH ux:Sl} {a':WA} {G':List bw} {Da:C8},Hp O w w' (cf bp ab' bb N2 ks C4 sH ux a' G' Da++more)->N2<=N+12000->a'.ks=kd->G'.length<=2*n+2->Da.length<=n+1->K true w':=fun{w' more ab' N2 C4 sH ux a' G' Da} h h1 h2 h3 h4=>by
  have h:=pY (n:=n+1) (kd:=kd) (rest:= []) ⟨ab',bb,C4,sH,ux,a',G',Da⟩ ⟨h2,by show G'.length<=_;omega,h4⟩ (by omega) (show Hp O w w' (cf bp ab' bb N2 ks C4 sH ux a' G' Da++ []) by rw [alh];exact h.front);have:=back (rest:= []) rfl rfl h;rw [alh] at this;exact hK w' this
 obtain⟨O2,Zk,add⟩:=h.FK (i:=8) (u:=(Qe VS vs PS qs).ro) rfl;have Zk:(Qe VS vs PS qs).holds w O2:=Zk;have h:=add (t:=fJ PS qs) (O':=O2) Zk.2 (fun k hk=>hk);clear add;have ZF:uk.ro.holds=(dK ks ys).holds:=huk;have E6:(fJ PS qs).ro.holds=(fJ PS qs).holds:=rfl;have A9: ∀{w:World} {O:List Nat},((Qe VS vs PS qs).ro.ro).holds w O-> ∃o,bO w VS 1 iv vs o:=fun{w O} hO=>by
  have hO:(Qe VS vs PS qs).holds w O:=hO;obtain⟨o,h1,_⟩:=hO.1;exact⟨o,h1⟩
 generalize ajQ:((Qe VS vs PS qs).ro.ro:aa)=uo at h A9;refine h.nw (c:= [_,_,_,_,_,_,_,_,_]) fun ob w1 h=>?_;have h:Hp O w w1 (cf bp ab bb N ks gv od ws a G bd++ [uk.ro,uo]++ [(fJ PS qs).ro,iY ob kn H At N' E pk VS PS]):=h;have LD: ∀{w':World} {K':Int->Int->Int->Int->Int->Int->Int->Sl->Sl->Prop},Hp O w w' (cf bp ab bb N ks gv od ws a G bd++ [uk.ro,uo]++ [(fJ PS qs).ro,iY ob kn H At N' E pk VS PS])->K' kn H At N' E.1 E.2 pk VS PS->
   Ld (.i .i64) w' ⟨ob,0,none⟩ fun a1=>Ld (.i .i64) w' ((⟨ob,0,none⟩:Addr).add 1) fun a2=>Ld (.i .i64) w' ((⟨ob,0,none⟩:Addr).add 2) fun a3=>Ld (.i .i64) w' ((⟨ob,0,none⟩:Addr).add 3) fun a4=>Ld (.i .i64) w' ((⟨ob,0,none⟩:Addr).add 4) fun a5=>Ld (.i .i64) w' ((⟨ob,0,none⟩:Addr).add 5) fun a6=>Ld (.i .i64) w' ((⟨ob,0,none⟩:Addr).add 6) fun a7=>Ld .sl w' ((⟨ob,0,none⟩:Addr).add 7) fun a8=>Ld .sl w' ((⟨ob,0,none⟩:Addr).add 8) fun a9=>K' a1 a2 a3 a4 a5 a6 a7 a8 a9:=fun{w' K'} h hk=>
  h.bE (k:=.i .i64) (x:=kn) 10 rfl rfl (h.ld (n:=1) (k:=.i .i64) (x:=H) 10 rfl rfl (h.ld (n:=2) (k:=.i .i64) (x:=At) 10 rfl rfl (h.ld (n:=3) (k:=.i .i64) (x:=N') 10 rfl rfl (h.ld (n:=4) (k:=.i .i64) (x:=E.1) 10 rfl rfl (h.ld (n:=5) (k:=.i .i64) (x:=E.2) 10 rfl rfl (h.ld (n:=6) (k:=.i .i64) (x:=pk) 10 rfl rfl (h.ld (n:=7) (k:=.sl) (x:=VS) 10 rfl rfl (h.ld (n:=8) (k:=.sl) (x:=PS) 10 rfl rfl hk))))))))
 refine h.bE (k:=.i .i64) (x:=kn) 10 rfl rfl ?_;by_cases c1:kn=1
 ·refine aL (by simpa using c1) ?_;refine h.ld (n:=8) (k:=.sl) (x:=PS) 10 rfl rfl ?_;have Be:ri w1 PS ps:=by
   obtain⟨O',gD⟩:=h.kY (i:=9) rfl;rw [<-hqs];have gD:(fJ PS qs).holds w1 O':=gD;exact⟨qs,rfl,gD.2.1.imp fun o ho=>ho.1,fun x hx=>(gD.2.2 x hx).imp fun o ho=>ho.1⟩
  refine HW h Be (by omega) qR fun l xs w2 kT ja nY ML h=>?_;have h:Hp O w w2 (cf bp ab bb N ks gv od ws a G bd++ [uk.ro,uo,(fJ PS qs).ro,iY ob kn H At N' E pk VS PS,qz l xs]):=h;have Vw:xs.length=ps.length:=by rw [<-kT,alr]
  refine h.ld (n:=8) (k:=.sl) (x:=PS) 10 rfl rfl ?_;refine vi h 0 1 2 3 11 9 (by decide) (by decide) (xs:=xs) (ys:=qs) (ps:=ps) (u:=(fJ PS qs).ro) rfl rfl rfl rfl rfl rfl rfl kT hqs ja nY ML ER kU si qR (by omega) fun C4 w3 h=>?_;have VF:=C5 a ps;generalize (a.spawn ps).2.2=x2 at h;generalize (a.spawn ps).2.1=x1 at h;generalize (a.spawn ps).1=a2 at h VF;have hG2:(G++if x2=0 then [x1] else []).length<=2*n+1:=by split <;> simp <;> omega
  generalize (G++if x2=0 then [x1] else [])=G2 at h hG2;have h:Hp O w w3 (cf bp ab bb N ks C4 od ws a2 G2 bd++ [uk.ro,uo,(fJ PS qs).ro,iY ob kn H At N' E pk VS PS,qz l xs]):=h;refine⟨fun t w'=>Hp O w w' (cf bp ab bb N ks C4 od ws a2 G2 bd++ [uk.ro,uo,(fJ PS qs).ro,iY ob kn H At N' E pk VS PS,qz l xs]),?_,?_⟩
  ·exact aL rfl (h.ld (n:=3) (k:=.i .i64) (x:=N') 10 rfl rfl h)
  clear h;rintro t w4 h
  cases t with
  | false=>exact aJ (by simp) (qd h (by omega) (VF.trans sI) (by omega) (by omega))
  | true=>
   refine aL rfl ?_;refine C7 h 11 rfl ja (fun x hx=>(nY x hx).1) (by omega) (fun x hx=>qR (bq x) (by rw [<-kT];exact alu.2 ⟨x,hx,rfl⟩)) fun w5 h=>?_;have Mw: ∀x∈(xs.map fun x=>(x.1,x.2.1,dw x.2.2)),x.2.2.length=x.2.1.len /\ x.2.1.len+8<=x.2.1.cap:=fun x hx=>by
    obtain⟨y,hy,rfl⟩:=alu.1 hx;refine⟨?_,(nY y hy).2⟩;show (dw y.2.2).length=y.2.1.len;unfold dw;rw [alr];exact(nY y hy).1
   have htp:(xs.map fun x=>(x.1,x.2.1,dw x.2.2)).map bq=ps.map fun x=>(x.1,dw x.2):=by
    rw [<-kT,amJ,amJ];rfl
   have RI:(xs.map fun x=>(x.1,x.2.1,dw x.2.2)).length=l.len:=by rw [alr,ja]
   generalize (xs.map fun x=>(x.1,x.2.1,dw x.2.2))=xs2 at h Mw htp RI;have Mg: ∀x∈ps.map fun x=>((x.1,dw x.2):Part),(-9223372036854775808<=x.1 /\ x.1<=9223372036854775807) /\ FP.eW x.2 /\ x.2.length<=10000000:=fun x hx=>by
    obtain⟨y,hy,rfl⟩:=alu.1 hx;refine⟨ER y hy,H8 _,?_⟩;show (dw y.2).length<=_;unfold dw;rw [alr];exact qR y hy
   have P9:(ps.map fun x=>((x.1,dw x.2):Part)).length<=10000000:=by rw [alr];exact si
   generalize (ps.map fun x=>((x.1,dw x.2):Part))=VG at htp Mg P9;have ae6:ri w5 l VG:=by
    obtain⟨O',gD⟩:=h.kY (i:=11) rfl;rw [<-htp];exact Zi gD RI (fun x hx=>(Mw x hx).1)
   refine gy h ae6 (by omega) (fun x hx=>by have:=(Mg x hx).2.2;omega) fun r w6 h=>?_;have h:Hp O w w6 (cf bp ab bb N ks C4 od ws a2 G2 bd++ [uk.ro,uo,(fJ PS qs).ro,iY ob kn H At N' E pk VS PS,qz l xs2,aN r VG]):=h;obtain⟨zs,P8,h⟩:=Mf h (i:=12) rfl;have h:Hp O w w6 (cf bp ab bb N ks C4 od ws a2 G2 bd++ [uk.ro,uo,(fJ PS qs).ro,iY ob kn H At N' E pk VS PS,qz l xs2,fJ r zs]):=h;refine vi h 0 1 2 3 11 12 (by decide) (by decide) (xs:=xs2) (ys:=zs) (ps:=VG) (u:=fJ r zs) rfl rfl rfl rfl rfl rfl rfl htp P8 RI Mw ML (fun x hx=>(Mg x hx).1) (fun x hx=>(Mg x hx).2.1) P9 (fun x hx=>(Mg x hx).2.2) (by omega) fun gv2 w7 h=>?_;have ZG:=C5 a2 VG;generalize (a2.spawn VG).2.2=x2 at h;generalize (a2.spawn VG).2.1=x1 at h;generalize (a2.spawn VG).1=a3 at h ZG;have hG3:(G2++if x2=0 then [x1] else []).length<=2*n+2:=by split <;> simp <;> omega
   generalize (G2++if x2=0 then [x1] else [])=G3 at h hG3;have h:Hp O w w7 (cf bp ab bb N ks gv2 od ws a3 G3 bd++ [uk.ro,uo,(fJ PS qs).ro,iY ob kn H At N' E pk VS PS,qz l xs2,fJ r zs]):=h;exact qd h (by omega) (ZG.trans (VF.trans sI)) hG3 (by omega)
 refine aJ (by simpa using c1) ?_;by_cases c2:kn=2
 ·refine aL (by simpa using c2) (LD h ?_);refine sF h 0 3 (G:=G) rfl rfl (by omega) fun e w2 h=>?_;refine h.nw (c:= [_,_]) fun eb w3 h=>?_;refine h.gz 11 rfl (by simp) rfl fun w4 h=>?_;refine h.st (n:=1) 11 rfl (by simp) rfl fun w5 h=>?_;refine h.dr fun w6 h=>aS ?_;refine cN h 0 (k:=.p) (x:=some ⟨ab,0,none⟩) rfl rfl ?_;refine h.bE (k:=.i .i64) (x:=e.1) 11 rfl rfl (h.ld (n:=1) (k:=.i .i64) (x:=e.2) 11 rfl rfl ?_);refine zJ h 1 (a:=a) rfl fun w7 h=>?_;refine h.dr fun w8 h=>aS ?_;refine cG h 0 (c:=1) (k:=.p) (x:=some ⟨bb,0,none⟩) rfl rfl ?_;refine h.bE (k:=.i .i64) (x:=e.1) 11 rfl rfl (h.ld (n:=1) (k:=.i .i64) (x:=e.2) 11 rfl rfl ?_);refine Fe h 2 (a:=a) rfl fun w9 h=>?_;have hb:((a.da e).2 ==(a.da e).2)=true:=by simp
  rw [hb];have h:Hp O w w9 (cf bp ab bb N ks gv od ws (a.da e).1 G bd++ [uk.ro,uo,(fJ PS qs).ro,iY ob kn H At N' E pk VS PS,af eb 33 [.int .i64 e.1,.int .i64 e.2]]):=h;exact qd h (by omega) ((Fl a e).trans sI) (by omega) (by omega)
 refine aJ (by simpa using c2) ?_;have cut: ∀{w':World},Hp O w w' (cf bp ab bb N ks gv od ws a G bd++ [uk.ro,uo]++ [(fJ PS qs).ro,iY ob kn H At N' E pk VS PS])->Hp O w w' (cf bp ab bb N ks gv od ws a G bd++ [uk.ro,uo]):=fun h=>h.front;by_cases c3:kn=3
 ·refine aL (by simpa using c3) (LD h ?_);refine zZ (cut h) A9 qv gJ k1 k2 (by omega) fun a' w2 QN h=>?_;exact qd h (by omega) (QN.trans sI) (by omega) (by omega)
 refine aJ (by simpa using c3) ?_;by_cases c4:kn=4
 ·refine aL (by simpa using c4) (LD h ?_);refine sF h 0 3 (G:=G) rfl rfl (by omega) fun e w2 h=>?_;refine h.nw (c:= [_,_]) fun eb w3 h=>?_;refine h.gz 11 rfl (by simp) rfl fun w4 h=>?_;refine h.st (n:=1) 11 rfl (by simp) rfl fun w5 h=>?_;refine h.dr fun w6 h=>aS ?_;refine cN h 0 (k:=.p) (x:=some ⟨ab,0,none⟩) rfl rfl ?_;refine h.bE (k:=.i .i64) (x:=e.1) 11 rfl rfl (h.ld (n:=1) (k:=.i .i64) (x:=e.2) 11 rfl rfl (h.ld (n:=3) (k:=.i .i64) (x:=N') 10 rfl rfl ?_));refine Ll h 1 (a:=a) rfl n1 n2 fun w7 h=>?_;refine h.dr fun w8 h=>aS ?_;refine cG h 0 (c:=1) (k:=.p) (x:=some ⟨bb,0,none⟩) rfl rfl ?_;refine h.bE (k:=.i .i64) (x:=e.1) 11 rfl rfl (h.ld (n:=1) (k:=.i .i64) (x:=e.2) 11 rfl rfl (h.ld (n:=3) (k:=.i .i64) (x:=N') 10 rfl rfl ?_));refine H2 h 2 (a:=a) rfl n1 n2 fun w9 h=>?_;have hb:((a.remove e N').2 ==(a.remove e N').2)=true:=by simp
  rw [hb];have h:Hp O w w9 (cf bp ab bb N ks gv od ws (a.remove e N').1 G bd++ [uk.ro,uo,(fJ PS qs).ro,iY ob kn H At N' E pk VS PS,af eb 33 [.int .i64 e.1,.int .i64 e.2]]):=h;exact qd h (by omega) ((H6 a e N').trans sI) (by omega) (by omega)
 refine aJ (by simpa using c4) ?_;by_cases c5:kn=5
 ·refine aL (by simpa using c5) (LD h ?_);refine zZ (cut h) A9 qv gJ k1 k2 (by omega) fun a' w2 QN h=>?_;exact qd h (by omega) (QN.trans sI) (by omega) (by omega)
 refine aJ (by simpa using c5) ?_;by_cases c6:kn=6
 ·refine aL (by simpa using c6) (LD h ?_);refine H7 (cut h) n1 n2 (by omega) (by omega) fun w2 h=>?_;exact qd h (by omega) sI (by omega) (by omega)
 refine aJ (by simpa using c6) ?_;by_cases c7:kn=7
 ·refine aL (by simpa using c7) ?_;refine C3 (cut h) 0 1 2 7 (by decide) (by decide) (N:=N) (u:=uk.ro) (ys:=ys) rfl rfl rfl rfl ZF (yO.trans sI.symm) (by omega) fun w2 h=>?_;exact qd (show Hp O w w2 (cf bp ab bb (N+12000) ks gv od ws a G bd++ [uk.ro,uo]) from h) (by omega) sI (by omega) (by omega)
 refine aJ (by simpa using c7) ?_;by_cases c8:kn=8
 ·refine aL (by simpa using c8) (aS ?_);have h:=cut h;refine cN h 0 (k:=.p) (x:=some ⟨ab,0,none⟩) rfl rfl ?_;refine PQ h 1 (a:=a) rfl fun cb w2 h=>aJ (by simp) ?_;have h:Hp O w w2 (cf bp ab bb N ks gv od ws a G bd++ [uk.ro,uo]++ [tW cb a]):=h;refine vj h.up (by omega) fun sH ux w3 h=>?_;exact qd h (by omega) sI (by omega) (by simp;omega)
 refine aJ (by simpa using c8) ?_;by_cases c9:kn=9
 ·refine aL (by simpa using c9) ?_;have h:Hp O w w1 (cf bp ab bb N ks gv od ws a G bd++uk.ro :: [uo]):=cut h;refine Fm h ZF (yO.trans sI.symm) (by omega) p5 dL fun nb sH ux w2 h=>?_;exact qd h (by omega) sI (by omega) (by simp;omega)
 ·exact aJ (by simpa using c9) (qd h (by omega) sI (by omega) (by omega))
end
end Go.Proofs.YtcccjgmekakabaaGreat.FW
end

section
namespace Go.Proofs.YtcccjgmekakabaaGreat.FW
open F
open Go Go.Den Go.Proofs Go.RowKit
open FI (ai aD)
open FT (bw fo cu iv aB)
open FP (tB)
structure Rq where
 kn:Int
 H:Int
 At:Int
 N:Int
 E:bw
 pk:Int
 VS:Sl
 vs:List Int
 PS:Sl
 qs:List PV
abbrev ZH (x:Rq):List Value:= [.int .i64 x.kn,.int .i64 x.H,.int .i64 x.At,.int .i64 x.N,.int .i64 x.E.1,.int .i64 x.E.2,.int .i64 x.pk,.slice x.VS.a x.VS.len x.VS.cap,.slice x.PS.a x.PS.len x.PS.cap]
theorem jc (x:Rq):(ZH x).length=9:=rfl
def Rq.ok (x:Rq):Prop:=(-9223372036854775808<=x.N /\ x.N<=9223372036854775807) /\ (-9223372036854775808<=x.pk /\ x.pk<=9223372036854775807) /\ FP.eW x.vs /\ x.vs.length<=1048576 /\ x.qs.length<=1048576 /\ ∀y∈x.qs,(-9223372036854775808<=y.1 /\ y.1<=9223372036854775807) /\ FP.eW y.2.2 /\ y.2.2.length<=1048576
def fO (s:Sl) (xs:List Rq):aa:=
  { holds:=fun w O=>(∀k∈O,k < w.heap.size) /\ (∃o,bO w s 9 ZH xs o /\ ∀k∈o,k∈O) /\ ∀x∈xs,(Qe x.VS x.vs x.PS x.qs).holds w O
    fr:=fun{S w w' O} h hf hn=>⟨fun k hk=>by have:=h.1 k hk;have:=hf.size;omega,by
      obtain⟨_,⟨o,h1,h2⟩,_⟩:=h;exact⟨o,h1.fr hf (fun k hk=>hn k (h2 k hk)),h2⟩,fun x hx=>(Qe _ _ _ _).fr (h.2.2 x hx) hf hn⟩
    lt:=fun h=>h.1}
theorem ZI:Tryz.prog.underlying 39=some (.struct (Tryz.prog.fieldsOf 39)):=by kernel_rfl
theorem VH:Tryz.prog.underlying 33=some (.struct (Tryz.prog.fieldsOf 33)):=by kernel_rfl
theorem Mh:Tryz.prog.underlying 36=some (.struct (Tryz.prog.fieldsOf 36)):=by kernel_rfl
theorem vm:Tryz.prog.underlying 3=some (.int .i64):=by kernel_rfl
theorem ZJ:Tryz.prog.underlying 2=some (.int .i64):=by kernel_rfl
theorem VI:Tryz.prog.underlying 28=some (.slice 39):=by kernel_rfl
theorem ae7:Tryz.prog.cellsOf 2=1:=by kernel_rfl
theorem Db:Tryz.prog.cellsOf 3=1:=by kernel_rfl
theorem ZK:Tryz.prog.cellsOf 33=2:=by kernel_rfl
theorem Rr:Tryz.prog.cellsOf 34=1:=by kernel_rfl
theorem Rs:Tryz.prog.cellsOf 36=2:=by kernel_rfl
theorem ZL:Tryz.prog.cellsOf 37=1:=by kernel_rfl
theorem ZM:Tryz.prog.cellsOf 39=9:=by kernel_rfl
theorem A5 {x:Int} (h:(Lit.int .i64 x).wf=true): -9223372036854775808<=x /\ x<=9223372036854775807:=by
 have hm:IntKind.i64.min<=x /\ x<=IntKind.i64.max:=by simpa [Lit.wf] using h
 have h1:IntKind.i64.min= -9223372036854775808:=by decide
 have h2:IntKind.i64.max=9223372036854775807:=by decide
 omega
theorem Dc {w:World} {B n:Nat} {cs:List Value} (h:rK Tryz.prog w B n 34 cs): ∃(s:Sl) (l:List Int) (o:List Nat),cs= [.slice s.a s.len s.cap] /\ bO w s 1 iv l o /\ FP.eW l /\ l.length<=B:=by
 obtain⟨s,l,o,h1,h2,hb,h3,h4,h5⟩:=oy (f:=iv) (G:=fun x=> -9223372036854775808<=x /\ x<=9223372036854775807) FT.eS ae7 (by omega) (fun m ci _ hr=>by
  obtain⟨x,hx,hw⟩:=mX ZJ hr;exact⟨x,hx,A5 hw⟩) h
 exact⟨s,l,o,h1,h2,hb,h4⟩
theorem Mi {w:World} {B m:Nat} {ci:List Value} (hl:ci.length=2) (h:rK Tryz.prog w B m 36 ci):
  ∃x:PV,ci=ck x /\ (∃o,bO w x.2.1 1 iv x.2.2 o) /\ (-9223372036854775808<=x.1 /\ x.1<=9223372036854775807) /\ FP.eW x.2.2 /\ x.2.2.length<=B:=by
 obtain⟨_,q,hf⟩:=lX Mh h
 match ci,hl with
 | [c0,c1],_=>
  obtain⟨m0,e0,h0⟩:=mX vm (ee hf 0 (ft:=3) (off:=0) (sz:=1) (by kernel_rfl) Db);obtain⟨s,l,o,e1,h1,h2,h3⟩:=Dc (ee hf 1 (ft:=34) (off:=1) (sz:=1) (by kernel_rfl) Rr);simp only [amP,anP,anO,anD,amS,and_true] at e0 e1;subst e0 e1;exact⟨(m0,s,l),rfl,⟨o,h1⟩,A5 h0,h2,h3⟩
theorem Ia {w:World} {B n:Nat} {cs:List Value} (h:rK Tryz.prog w B n 37 cs): ∃(s:Sl) (l:List PV) (o:List Nat),cs= [.slice s.a s.len s.cap] /\ bO w s 2 ck l o /\ l.length<=B /\ ∀x∈l,(∃o,bO w x.2.1 1 iv x.2.2 o) /\ (-9223372036854775808<=x.1 /\ x.1<=9223372036854775807) /\ FP.eW x.2.2 /\ x.2.2.length<=B:=by
 obtain⟨s,l,o,h1,h2,h3,_,h4,h5⟩:=oy (f:=ck) (G:=fun x=>(∃o,bO w x.2.1 1 iv x.2.2 o) /\ (-9223372036854775808<=x.1 /\ x.1<=9223372036854775807) /\ FP.eW x.2.2 /\ x.2.2.length<=B) nL Rs (by omega) (fun m ci hl hr=>Mi hl hr) h;exact⟨s,l,o,h1,h2,h4,h3⟩
theorem VJ {w:World} {m:Nat} {ci:List Value} (hl:ci.length=9) (h:rK Tryz.prog w 1048576 m 39 ci):
  ∃x:Rq,ci=ZH x /\ x.ok /\ (∃o,bO w x.VS 1 iv x.vs o) /\ (∃o,bO w x.PS 2 ck x.qs o) /\ ∀y∈x.qs,∃o,bO w y.2.1 1 iv y.2.2 o:=by
 obtain⟨_,q,hf⟩:=lX ZI h
 match ci,hl with
 | [c0,c1,c2,c3,c4,c5,c6,c7,c8],_=>
  obtain⟨m0,e0,h0⟩:=mX vm (ee hf 0 (ft:=3) (off:=0) (sz:=1) (by kernel_rfl) Db);obtain⟨m1,e1,h1⟩:=mX vm (ee hf 1 (ft:=3) (off:=1) (sz:=1) (by kernel_rfl) Db);obtain⟨m2,e2,h2⟩:=mX vm (ee hf 2 (ft:=3) (off:=2) (sz:=1) (by kernel_rfl) Db);obtain⟨m3,e3,h3⟩:=mX vm (ee hf 3 (ft:=3) (off:=3) (sz:=1) (by kernel_rfl) Db);obtain⟨_,q4,FX⟩:=lX VH (ee hf 4 (ft:=33) (off:=4) (sz:=2) (by kernel_rfl) ZK);obtain⟨_,q5,hf5⟩:=lX Mh (ee hf 5 (ft:=36) (off:=6) (sz:=2) (by kernel_rfl) Rs);obtain⟨ps,pl,po,e8,h8,h9,h10⟩:=Ia (ee hf 6 (ft:=37) (off:=8) (sz:=1) (by kernel_rfl) ZL);obtain⟨m4,e4,h4⟩:=mX vm (ee FX 0 (ft:=3) (off:=0) (sz:=1) (by kernel_rfl) Db);obtain⟨m5,e5,h5⟩:=mX vm (ee FX 1 (ft:=3) (off:=1) (sz:=1) (by kernel_rfl) Db);obtain⟨m6,e6,h6⟩:=mX vm (ee hf5 0 (ft:=3) (off:=0) (sz:=1) (by kernel_rfl) Db);obtain⟨s,l,o,e7,h7,h71,h72⟩:=Dc (ee hf5 1 (ft:=34) (off:=1) (sz:=1) (by kernel_rfl) Rr);simp only [amP,anP,anO,anD,amS,and_true] at e0 e1 e2 e3 e4 e5 e6 e7 e8;subst e0 e1 e2 e3 e4 e5 e6 e7 e8;exact⟨⟨m0,m1,m2,m3,(m4,m5),m6,s,l,ps,pl⟩,rfl,⟨A5 h3,A5 h6,h71,h72,h9,fun y hy=>(h10 y hy).2⟩,⟨o,h7⟩,⟨po,h8⟩,fun y hy=>(h10 y hy).1⟩
theorem Qf {w:World} {n:Nat} {a:Option Addr} {len cap:Nat} (h:rK Tryz.prog w 1048576 n 28 [.slice a len cap]):
  ∃(ys:List Rq) (O:List Nat),(fO ⟨a,len,cap⟩ ys).holds w O /\ ys.length<=1048576 /\ ∀x∈ys,x.ok:=by
 obtain⟨s,l,o,h1,h2,h3,_,h4,h5⟩:=oy (f:=ZH) (G:=fun x=>x.ok /\ (∃o,bO w x.VS 1 iv x.vs o) /\ (∃o,bO w x.PS 2 ck x.qs o) /\ ∀y∈x.qs,∃o,bO w y.2.1 1 iv y.2.2 o) VI ZM (by omega) (fun m ci hl hr=>VJ hl hr) h;simp only [amS,Value.slice.injEq,and_true] at h1;obtain⟨rfl,rfl,rfl⟩:=h1;have rg: ∀{α:Type} {s:Sl} {n:Nat} {f:α->List Value} {l:List α},(∃o,bO w s n f l o)-> ∃o,bO w s n f l o /\ ∀k∈o,k∈List.range w.heap.size:=fun⟨o,h⟩=>⟨o,h,fun k hk=>al5.2 (h.lt k hk)⟩;refine⟨l,List.range w.heap.size,⟨fun k hk=>al5.1 hk,rg ⟨o,h2⟩,fun x hx=>?_⟩,h4,fun x hx=>(h3 x hx).1⟩;obtain⟨_,q1,q2,q3⟩:=h3 x hx;exact⟨rg q1,fun k hk=>al5.1 hk,rg q2,fun y hy=>rg (q3 y hy)⟩
def PO (p:Option Addr) (ks:Sl) (kd:KD) (k:Nat) (t:aa):Prop:=(p=none /\ t=ao) \/ ∃bp n:Nat,p=some ⟨bp,0,none⟩ /\ n<=k /\ t=yu bp ks kd n
theorem PO.mono {p:Option Addr} {ks:Sl} {kd:KD} {k k':Nat} {t:aa} (h:PO p ks kd k t) (hk:k<=k'):PO p ks kd k' t:=by
 rcases h with h | ⟨bp,n,h1,h2,h3⟩
 ·exact .inl h
 ·exact .inr ⟨bp,n,h1,by omega,h3⟩
def ZN (ys:List KS):Prop:=ys.length<=10000000 /\ ∀x∈ys,x.2.2.length<=10000000 /\ x.1.size<=1000000000000 /\ ∀y∈x.2.2,y.size<=1000000000000
section
variable {S:List Nat} {w0 w:World} {ae:List aa}
theorem Gz (h:Hp S w0 w ae) (j:Nat) {ks:Sl} {ys:List KS} {u:aa} (hj:ae[j]? =some u) (hu:u.holds=(dK ks ys).holds) (hy:ZN ys) {K:Option Addr->Bool->World->Prop}
  (hK: ∀p t w',PO p ks (kinds ys) 0 t->Hp S w0 w' (ae++ [t])->K p true w'):c8 ks w K:=by
 refine HY h j hj hu hy.1 hy.2 (fun hm bp ab bb w1 h=>?_) (fun hm w1 h=>?_)
 ·refine hK (some ⟨bp,0,none⟩) (yu bp ks (kinds ys) 0) w1 (.inr ⟨bp,0,rfl,alA _,rfl⟩) ?_;have h:=((h.nil 33 2 fo).nil 41 1 Mc).nil 9 1 sv;have h:=h.grow (Fr.refl _ _) (t:=ak (([]:C8).map sG)) (O:= []) rfl (by simp) rfl;have h:Hp S w0 w1 (ae++cf bp ab bb 0 ks ⟨none,0,0⟩ ⟨none,0,0⟩ ⟨none,0,0⟩ (WA.new (kinds ys)) [] []):=by
   simp only [ale,alI,alO] at h;exact h
  exact(pY (n:=0) (kd:=kinds ys) ⟨ab,bb,⟨none,0,0⟩,⟨none,0,0⟩,⟨none,0,0⟩,WA.new (kinds ys),[],[]⟩ ⟨rfl,by simp,by simp⟩ (by omega) h.comm).comm
 ·exact hK none ao w1 (.inl ⟨rfl,rfl⟩) (h.grow (Fr.refl _ _) (t:=ao) (O:= []) rfl (by simp) rfl)
set_option maxHeartbeats 16000000 in
theorem Fp {w:World} {one two scr:Sl} {sO sQ:List KS} {xs:List Rq} {O1 O2 O3:List Nat} (ze:(dK one sO).holds w O1) (zG:(dK two sQ).holds w O2) (VO:(fO scr xs).holds w O3) (hy1:ZN sO) (hy2:ZN sQ) (ja:xs.length<=1048576) (hxo: ∀x∈xs,x.ok) {K:Bool->World->Prop}
  (hK: ∀w',Fr [] w w'->K true w'):c4 one two scr w K:=by
 refine Xe ?_;unfold f4;have h:=Hp.oE w;have h:=((h.dC ze (by simp)).dC zG (by simp)).dC VO (by simp);have h:Hp [] w w [(dK one sO).ro,(dK two sQ).ro,(fO scr xs).ro]:=h;have Eg:Hp.Reads (fO scr xs).ro scr 9 ZH xs:=⟨fun{w O} hO=>by
  have hO:(fO scr xs).holds w O:=hO;obtain⟨o,h1,_⟩:=hO.2.1;exact⟨o,h1⟩⟩
 have fB:=h.dR (u:=(fO scr xs).ro) 2 rfl Eg;refine EZ h fun w1 h=>?_;refine Gz h 0 (u:=(dK one sO).ro) rfl rfl hy1 fun p tp w2 hp h=>?_;refine Gz h 1 (u:=(dK two sQ).ro) rfl rfl hy2 fun q tq w3 hq h=>?_;refine aJ (by simp) ?_;have h:Hp [] w w3 [(dK one sO).ro,(dK two sQ).ro,(fO scr xs).ro,tp,tq]:=h;refine⟨fun t mm w'=> ∃(k:Nat) (tp tq:aa),t=k /\ k<=300 /\ k<=xs.length /\ mm=xs.length - k /\ PO p one (kinds sO) k tp /\ PO q two (kinds sQ) k tq /\ Hp [] w w' [(dK one sO).ro,(dK two sQ).ro,(fO scr xs).ro,tp,tq],⟨xs.length,0,tp,tq,rfl,by omega,by omega,rfl,hp,hq,h⟩,?_⟩;clear h;rintro t mm w4 ⟨k,tp,tq,rfl,hk3,HC,rfl,hp,hq,h⟩;by_cases av:k < xs.length /\ k < 300
 ·refine aL (by simp;omega) ?_;have hx:xs[k]? =some (xs[k]'av.1):=alf _;have fI:xs[k]'av.1∈xs:=alz _;generalize xs[k]'av.1=x at hx fI;obtain⟨on1,on2,ovr,ovl,oql,oqq⟩:=hxo x fI;have cO:((k:Nat):Int).toNat < xs.length:=by rw [ak7];exact av.1
  refine⟨fun of w'=>(of=p \/ of=q) /\ w'=w4,?_,?_⟩
  ·refine h.uP 2 (u:=(fO scr xs).ro) rfl Eg (by omega) cO fun a ha=>?_;rw [ak7];refine h.uQ (m:=1) (k:=.i .i64) (v:=x.H) 2 (u:=(fO scr xs).ro) rfl Eg ha jc hx rfl ?_
   split
   ·exact⟨.inr rfl,rfl⟩
   ·exact⟨.inl rfl,rfl⟩
  rintro of w' ⟨Yh,rfl⟩
  -- which pair
  obtain⟨i,jk,ks,ys,t,hi,iZ,ajX,mQ,yO,hPO,back⟩: ∃(i jk:Nat) (ks:Sl) (ys:List KS) (t:aa),[(dK one sO).ro,(dK two sQ).ro,(fO scr xs).ro,tp,tq][i]? =some t /\ i≠jk /\ i < 5 /\ [(dK one sO).ro,(dK two sQ).ro,(fO scr xs).ro,tp,tq][jk]? =some (dK ks ys).ro /\ ZN ys /\ PO of ks (kinds ys) k t /\ i≠5 /\ ∀{t':aa} {w':World},PO of ks (kinds ys) (k+1) t'->Hp [] w w' ([(dK one sO).ro,(dK two sQ).ro,(fO scr xs).ro,tp,tq].set i t')-> ∃Ib Ic,PO p one (kinds sO) (k+1) Ib /\ PO q two (kinds sQ) (k+1) Ic /\ Hp [] w w' [(dK one sO).ro,(dK two sQ).ro,(fO scr xs).ro,Ib,Ic]:=by
   rcases Yh with rfl | rfl
   ·exact⟨3,0,one,sO,tp,rfl,by decide,by decide,rfl,hy1,hp,by decide,fun{t' w'} h1 h2=>⟨t',tq,h1,hq.mono (by omega),h2⟩⟩
   ·exact⟨4,1,two,sQ,tq,rfl,by decide,by decide,rfl,hy2,hq,by decide,fun{t' w'} h1 h2=>⟨tp,t',hp.mono (by omega),h1,h2⟩⟩
  obtain⟨hi5,back⟩:=back
  rcases hPO with ⟨rfl,rfl⟩ | ⟨bp,n,rfl,hn,rfl⟩
  ·refine aL rfl ⟨xs.length - (k+1),by omega,?_⟩;obtain⟨Ib,Ic,h1,h2,h3⟩:=back (.inl ⟨rfl,rfl⟩) (by rw [Hp.bN hi];exact h);exact⟨k+1,Ib,Ic,by rw [aI (by omega) (by omega)];omega,by omega,by omega,rfl,h1,h2,h3⟩
  refine aJ (by simp) ?_;refine h.uP 2 (u:=(fO scr xs).ro) rfl Eg (by omega) cO fun a ha=>?_;rw [ak7];refine h.qL (k:=.i .i64) (v:=x.kn) 2 (u:=(fO scr xs).ro) rfl Eg ha jc hx rfl ?_;refine h.uQ (m:=1) (k:=.i .i64) (v:=x.H) 2 (u:=(fO scr xs).ro) rfl Eg ha jc hx rfl ?_;refine h.uQ (m:=2) (k:=.i .i64) (v:=x.At) 2 (u:=(fO scr xs).ro) rfl Eg ha jc hx rfl ?_;refine h.uQ (m:=3) (k:=.i .i64) (v:=x.N) 2 (u:=(fO scr xs).ro) rfl Eg ha jc hx rfl ?_;refine h.uQ (m:=4) (k:=.i .i64) (v:=x.E.1) 2 (u:=(fO scr xs).ro) rfl Eg ha jc hx rfl ?_;refine h.uQ (m:=5) (k:=.i .i64) (v:=x.E.2) 2 (u:=(fO scr xs).ro) rfl Eg ha jc hx rfl ?_;refine h.uQ (m:=6) (k:=.i .i64) (v:=x.pk) 2 (u:=(fO scr xs).ro) rfl Eg ha jc hx rfl ?_;refine h.uQ (m:=7) (k:=.sl) (v:=x.VS) 2 (u:=(fO scr xs).ro) rfl Eg ha jc hx rfl ?_;refine h.uQ (m:=8) (k:=.sl) (v:=x.PS) 2 (u:=(fO scr xs).ro) rfl Eg ha jc hx rfl ?_;obtain⟨O4,hO4,add⟩:=h.FK (i:=2) (u:=fO scr xs) rfl;have h:=add (t:=Qe x.VS x.vs x.PS x.qs) (O':=O4) (hO4.2.2 x fI) (fun k hk=>hk);clear add;generalize hA: [(dK one sO).ro,(dK two sQ).ro,(fO scr xs).ro,tp,tq]=A at h hi mQ back;have QU:A.length=5:=by rw [<-hA];rfl
  have afe:jk < A.length:=(ak6.1 mQ).1;refine H9 h i jk 5 iZ hi5 (uk:=(dK ks ys).ro) (ys:=ys) (ps:=x.qs.map bq) (n:=n) (by rw [ak9 (by omega)];exact hi) (by rw [ak9 afe];exact mQ) rfl rfl yO.1 yO.2 (by rw [<-QU];exact alw) rfl (by omega) ovr (by omega) on2.1 on2.2 on1.1 on1.2
   (fun y hy=>by obtain⟨z,hz,rfl⟩:=alu.1 hy;exact(oqq z hz).1) (fun y hy=>by obtain⟨z,hz,rfl⟩:=alu.1 hy;exact(oqq z hz).2.1) (by rw [alr];omega) (fun y hy=>by obtain⟨z,hz,rfl⟩:=alu.1 hy;have:=(oqq z hz).2.2;show z.2.2.length<=_;omega) fun w5 h=>aS ?_
  rw [amc _ _ (by omega)] at h;have h:=h.front;refine Fo h i (by rw [alx (by omega)]) (by omega) fun w6 h=>aJ (by simp) ⟨xs.length - (k+1),by omega,?_⟩;obtain⟨Ib,Ic,h1,h2,h3⟩:=back (.inr ⟨bp,n+1,rfl,by omega,rfl⟩) h;exact⟨k+1,Ib,Ic,by rw [aI (by omega) (by omega)];omega,by omega,by omega,rfl,h1,h2,h3⟩
 refine aJ (by simp;omega) ?_;have hp:=hp.mono hk3;have hq:=hq.mono hk3;clear hk3 HC;refine h.nw (c:= [_,_]) fun b2 w5 h=>?_;have h:Hp [] w w5 [(dK one sO).ro,(dK two sQ).ro,(fO scr xs).ro,tp,tq,af b2 29 [.pointer p,.pointer q]]:=h;refine⟨fun t mm w'=> ∃(n:Nat) (tp tq:aa),t=n /\ n<=2 /\ mm=2 - n /\ PO p one (kinds sO) (300+n) tp /\ PO q two (kinds sQ) (300+n) tq /\ Hp [] w w' [(dK one sO).ro,(dK two sQ).ro,(fO scr xs).ro,tp,tq,af b2 29 [.pointer p,.pointer q]],⟨2,0,tp,tq,rfl,by omega,rfl,hp,hq,h⟩,?_⟩;clear h;rintro t mm w6 ⟨n,tp,tq,rfl,hn,rfl,hp,hq,h⟩;by_cases Ii:n < 2
 ·refine aL (by simp;omega) ?_;obtain⟨x,i,jk,ks,ys,t,XV,hi,iZ,hi5,mQ,yO,hPO,back⟩: ∃(x:Option Addr) (i jk:Nat) (ks:Sl) (ys:List KS) (t:aa),([.pointer p,.pointer q]:List Value)[n]? =some (.pointer x) /\ [(dK one sO).ro,(dK two sQ).ro,(fO scr xs).ro,tp,tq,af b2 29 [.pointer p,.pointer q]][i]? =some t /\ i≠jk /\ i≠5 /\ [(dK one sO).ro,(dK two sQ).ro,(fO scr xs).ro,tp,tq,af b2 29 [.pointer p,.pointer q]][jk]? =some (dK ks ys).ro /\ ZN ys /\ PO x ks (kinds ys) (300+n) t /\ ∀{t':aa} {w':World},PO x ks (kinds ys) (300+(n+1)) t'->Hp [] w w' ([(dK one sO).ro,(dK two sQ).ro,(fO scr xs).ro,tp,tq,af b2 29 [.pointer p,.pointer q]].set i t')-> ∃Ib Ic,PO p one (kinds sO) (300+(n+1)) Ib /\ PO q two (kinds sQ) (300+(n+1)) Ic /\ Hp [] w w' [(dK one sO).ro,(dK two sQ).ro,(fO scr xs).ro,Ib,Ic,af b2 29 [.pointer p,.pointer q]]:=by
   rcases(by omega:n=0 \/ n=1) with rfl | rfl
   ·exact⟨p,3,0,one,sO,tp,rfl,rfl,by decide,by decide,rfl,hy1,hp,fun{t' w'} h1 h2=>⟨t',tq,h1,hq.mono (by omega),h2⟩⟩
   ·exact⟨q,4,1,two,sQ,tq,rfl,rfl,by decide,by decide,rfl,hy2,hq,fun{t' w'} h1 h2=>⟨tp,t',hp.mono (by omega),h1,h2⟩⟩
  have fin: ∀{t':aa} {w':World} {Q:Int->Nat->World->Prop},(∀m w',(∃(n:Nat) (tp tq:aa),((n:Nat):Int)=n /\ n<=2 /\ m=2 - n /\ PO p one (kinds sO) (300+n) tp /\ PO q two (kinds sQ) (300+n) tq /\ Hp [] w w' [(dK one sO).ro,(dK two sQ).ro,(fO scr xs).ro,tp,tq,af b2 29 [.pointer p,.pointer q]])->True)->True:=fun _=>trivial;clear fin
  rcases hPO with ⟨rfl,rfl⟩ | ⟨bp,m,rfl,hm,rfl⟩
  ·have Rt: ∀{w':World} {K':Option Addr->Prop},Hp [] w w' [(dK one sO).ro,(dK two sQ).ro,(fO scr xs).ro,tp,tq,af b2 29 [.pointer p,.pointer q]]->K' none->Ix (some ⟨b2,0,none⟩) 2 (n:Int) 1 fun a=>Ld .p w' a K':=fun{w' K'} h hk=>
    ⟨by omega,by omega,aS (h.ld (n:=((n:Nat):Int).toNat*1) (k:=.p) (x:=none) 5 rfl (by rw [ak7,amf];exact XV) hk)⟩
   refine⟨fun w'=>Hp [] w w' [(dK one sO).ro,(dK two sQ).ro,(fO scr xs).ro,tp,tq,af b2 29 [.pointer p,.pointer q]],?_,?_⟩
   ·refine⟨fun t mm w'=>Hp [] w w' [(dK one sO).ro,(dK two sQ).ro,(fO scr xs).ro,tp,tq,af b2 29 [.pointer p,.pointer q]],⟨0,h⟩,?_⟩;rintro t mm w7 h;exact⟨fun _=>False,Rt h (aJ (by simp) h),fun _ hh=>hh.elim⟩
   ·rintro w7 h;refine Rt h (aJ (by simp) ⟨2 - (n+1),by omega,?_⟩);obtain⟨Ib,Ic,h1,h2,h3⟩:=back (.inl ⟨rfl,rfl⟩) (by rw [Hp.bN hi];exact h);exact⟨n+1,Ib,Ic,by rw [aI (by omega) (by omega)];omega,by omega,rfl,h1,h2,h3⟩
  ·obtain⟨O,h1,bck⟩:=h.XN (i:=i) (j:=jk) (j':=5) iZ hi5 hi mQ rfl rfl;obtain⟨px,wE,g⟩:=uj h1;clear h1 h;obtain⟨ab,bb,gv,od,ws,a,G,bd⟩:=px;obtain⟨sI,hG,holds⟩:=wE;dsimp only at sI hG holds g;have hN:m*12000+12000<=100000000:=by omega
   generalize hNN:m*12000+12000=N at g hN;have Rt: ∀{w':World} {ts:List aa} {K':Option Addr->Prop},Hp O w6 w' ts->ts[8]? =some (af b2 29 [.pointer p,.pointer q]).ro->K' (some ⟨bp,0,none⟩)->Ix (some ⟨b2,0,none⟩) 2 (n:Int) 1 fun a=>Ld .p w' a K':=fun{w' ts K'} h h8 hk=>
    ⟨by omega,by omega,aS (h.ld (n:=((n:Nat):Int).toNat*1) (k:=.p) (x:=some ⟨bp,0,none⟩) 8 (by rw [h8];rfl) (by rw [ak7,amf];exact XV) hk)⟩
   refine⟨fun w'=>Hp O w6 w' (cf bp ab bb N ks gv od ws a G bd++ [(dK ks ys).ro.ro,(af b2 29 [.pointer p,.pointer q]).ro]),?_,?_⟩
   ·refine⟨fun t mm w'=> ∃k:Nat,t=k /\ k<=bd.length /\ mm=bd.length - k /\ Hp O w6 w' (cf bp ab bb N ks gv od ws a G bd++ [(dK ks ys).ro.ro,(af b2 29 [.pointer p,.pointer q]).ro]),⟨bd.length,0,rfl,by omega,rfl,g⟩,?_⟩;clear g;rintro t mm w7 ⟨k,rfl,hk,rfl,g⟩;have lq:=g.len (s:=od) (l:=bd.map bt) (e:=41) (n:=1) (f:=Mc) 4 rfl;have Y0:=g.len (s:=ws) (l:=bd.map nC) (e:=9) (n:=1) (f:=sv) 5 rfl;rw [alr] at lq Y0;refine⟨fun w'=>k < bd.length /\ Hp O w6 w' (cf bp ab bb N ks gv od ws a G bd++ [(dK ks ys).ro.ro,(af b2 29 [.pointer p,.pointer q]).ro]),?_,?_⟩
    ·refine Rt g rfl (aL rfl (Rt g rfl (aS ?_)));refine cG g 0 (c:=4) (k:=.sl) (x:=od) rfl rfl ?_;by_cases cO:k < bd.length
     ·exact aL (by simp;omega) ⟨cO,g⟩
     ·exact aJ (by simp;omega) g
    clear g;rintro w8 ⟨cO,g⟩;refine g.dr fun w9 g=>Rt g rfl (aS ?_);have aT:bd[k]? =some bd[k]:=by simp [cO]
    generalize bd[k]=o at aT;have hom:(bd.map bt)[k]? =some o.1:=by rw [alc,aT];rfl
    have hsm:(bd.map nC)[k]? =some (nC o):=by rw [alc,aT];rfl
    refine cG g 0 (c:=4) (k:=.sl) (x:=od) rfl rfl ?_;refine g.fz (k:=.p) (s:=od) (y:=o.1) (x:=some ⟨o.1,0,none⟩) 4 rfl (by omega) (by rw [ak7];exact hom) Gx rfl ?_;refine⟨by omega,by omega,aS ?_⟩;refine g.ld (n:=((n:Nat):Int).toNat*1) (k:=.p) (x:=some ⟨bp,0,none⟩) 8 rfl (by rw [ak7,amf];exact XV) (aS ?_);refine cG g 0 (c:=5) (k:=.sl) (x:=ws) rfl rfl ?_;refine g.uP 5 (u:=aj ws 9 1 sv (bd.map nC)) rfl Hp.bZ (by omega) (by rw [ak7,alr];exact cO) fun y hy=>?_;rw [ak7];refine g.qL (k:=.s) (v:=nC o) 5 (u:=aj ws 9 1 sv (bd.map nC)) rfl Hp.bZ hy cW hsm rfl ?_;have g:=g.pick (i:=6) (k:=k) (ts:=bd.map sG) (t:=tW o.1 o.2) rfl (by rw [alc,aT];rfl) rfl;refine kN g 9 (b:=o.1) (a:=o.2) rfl fun r nK g=>?_;refine⟨g.BO 5 (u:=aj ws 9 1 sv (bd.map nC)) rfl Hp.bZ hy cW hsm rfl,C9 g 0 (c:=5) rfl rfl,g.xl (n:=((n:Nat):Int).toNat*1) 8 rfl (by rw [ak7,amf];exact XV),?_⟩;refine g.MC 10 (u:=tB r o.2.snap) rfl Hp.bZ (nC o) (jP (q8 o.2)) ?_;refine aJ (AW (nC o)) ⟨bd.length - (k+1),by omega,k+1,by rw [aI (by omega) (by omega)];omega,by omega,rfl,?_⟩;have g:=g.iT (i:=6) (j:=9) (k:=k) (ts:=(bd.map sG).set k ao) (t:=tW o.1 o.2) (by decide) rfl rfl (by rw [alx (by rw [alr];exact cO)]) rfl;rw [al2] at g;have e:(bd.map sG).set k (tW o.1 o.2)=bd.map sG:=Hp.bN (by rw [alc,aT];rfl);rw [e] at g;exact g.trim 9
   ·clear g;rintro w7 g;refine Rt g rfl (aL rfl (Rt g rfl ?_));refine C3 g 0 1 2 7 (by decide) (by decide) (N:=N) (u:=(dK ks ys).ro.ro) (ys:=ys) rfl rfl rfl rfl rfl sI.symm (by omega) fun w8 g=>aJ (by simp) ⟨2 - (n+1),by omega,?_⟩;have g:Hp O w6 w8 (cf bp ab bb (N+12000) ks gv od ws a G bd++ [(dK ks ys).ro.ro,(af b2 29 [.pointer p,.pointer q]).ro]):=g;have g:=pY (n:=m+1) (kd:=kinds ys) (rest:= []) ⟨ab,bb,gv,od,ws,a,G,bd⟩ ⟨sI,by show G.length<=_;omega,by show bd.length<=_;omega⟩ (by omega) (show Hp O w6 w8 (cf bp ab bb (N+12000) ks gv od ws a G bd++ []) by rw [alh];exact g.front);have g:=bck (rest:= []) rfl rfl g;rw [alh] at g;obtain⟨Ib,Ic,h1,h2,h3⟩:=back (.inr ⟨bp,m+1,rfl,by omega,rfl⟩) g;exact⟨n+1,Ib,Ic,by rw [aI (by omega) (by omega)];omega,by omega,rfl,h1,h2,h3⟩
 ·exact aJ (by simp;omega) (hK w6 h.fr)
theorem Fq {w:World} {n m k:Nat} {a a' a2:Option Addr} {len cap len' p8 Mj Ml:Nat} (h:rK Tryz.prog w 1048576 n 22 [.slice a len cap]) (h2:rK Tryz.prog w 1048576 m 22 [.slice a' len' p8]) (h3:rK Tryz.prog w 1048576 k 28 [.slice a2 Mj Ml]):
  Calls Tryz.prog 4 #[.slice a len cap,.slice a' len' p8,.slice a2 Mj Ml] w fun e w'=>e=.returned (.bool true) /\ Below w.heap.size w w':=by
 obtain⟨y1,O1,q1,q2,q3⟩:=zY h;obtain⟨y2,O2,r1,r2,r3⟩:=zY h2;obtain⟨xs,O3,s1,s2,s3⟩:=Qf h3;exact DL (Fp (one:=⟨a,len,cap⟩) (two:=⟨a',len',p8⟩) (scr:=⟨a2,Mj,Ml⟩) q1 r1 s1
  ⟨by omega,fun x hx=>⟨by have:=(q3 x hx).1;omega,by have:=(q3 x hx).2.1;omega,fun y hy=>by have:=(q3 x hx).2.2 y hy;omega⟩⟩
  ⟨by omega,fun x hx=>⟨by have:=(r3 x hx).1;omega,by have:=(r3 x hx).2.1;omega,fun y hy=>by have:=(r3 x hx).2.2 y hy;omega⟩⟩ s2 s3 fun w' hf=>⟨rfl,hf⟩)
end
end Go.Proofs.YtcccjgmekakabaaGreat.FW
end
