/-
  Part 8 of the proof:WorldLoads of layer 6 is true of the given program for every input that its guards let in (of bulk at most 1048576).
-/
import Derived.Test.YtcccjgmekakabaaGreatPkG
import Derived.Laws.AppendOwn
set_option linter.unusedSimpArgs false
set_option linter.unusedVariables false
set_option maxRecDepth 100000
section
namespace Go.Proofs.YtcccjgmekakabaaGreat.FW
open F
open Go Go.Den Go.Proofs
open FI (af ay)
open FT (bM dz aP iv aq)
theorem rM {α β:Type} (f:α->β): ∀(l:List α) (q:Nat),(l.map f).eraseIdx q=(l.eraseIdx q).map f
 | [],_=>rfl
 | a :: l,0=>rfl
 | a :: l,q+1=>by rw [agl,ahP,ahP,agl,rM f l q]
theorem vz {p:PL} {i:Nat}:(∃(q:Nat) (x:Part),(partsOf p)[q]? =some x /\ x.1=((i+1:Nat):Int))↔(p.getD i none).isSome=true:=by
 constructor
 ·rintro⟨q,x,hx,he⟩
  obtain⟨j,h1,h2⟩:=ll.1 (afz hx)
  obtain rfl:j=i:=by omega
  rw [afO,h2];rfl
 ·intro h
  obtain⟨v,hv⟩:=agL.1 h
  have hv:=getD_some hv
  obtain⟨q,hq⟩:=afT (ll.2 ⟨i,rfl,hv⟩:(((i+1:Nat):Int),v)∈partsOf p)
  exact⟨q,_,hq,rfl⟩
theorem CF {a:WA} (hf:a.fits) (ps:List Part) (Fm: ∀x∈ps,FP.dX x.2):(a.spawn ps).1.fits:=by
 refine⟨WA.vd hf.1 ps Fm,?_⟩
 unfold WA.spawn
 split
 ·exact hf.2
 ·split
  ·exact hf.2
  ·intro x p hx
   have hx:aH a.row a.au.bu.2.1 (some (aO a.ks ps a.emp).1) x=some p:=hx
   unfold aH at hx
   split at hx
   ·obtain rfl:=afK hx
    exact ql ps (tv _)
   ·exact hf.2 x p hx
theorem yQ {a:WA} (hf:a.fits) (e:bM):(a.cI e).1.fits:=by
 refine⟨WA.u9 hf.1 e,?_⟩
 unfold WA.cI
 split
 ·intro x p hx
  have hx:aH a.row e none x=some p:=hx
  unfold aH at hx
  split at hx
  ·cases hx
  ·exact hf.2 x p hx
 ·exact hf.2
section
variable {S:List Nat} {w0 w:World} {ae:List aa}
set_option maxHeartbeats 4000000 in
theorem IB (h:Hp S w0 w ae) (i:Nat) {b:Nat} {a:WA} (hi:ae[i]? =some (iT b a)) {s:Sl} {ps:List Part} (hr:vK w s ps) (Fm: ∀x∈ps,-9223372036854775808<=x.1 /\ x.1<=9223372036854775807) (qD: ∀x∈ps,FP.dX x.2) (yG:ps.length<=1000000) {K:Int->Int->Int->World->Prop}
  (hK: ∀w',Hp S w0 w' (ae.set i (iT b (a.spawn ps).1))->K (a.spawn ps).2.1.1 (a.spawn ps).2.1.2 (a.spawn ps).2.2 w'):WY (some ⟨b,0,none⟩) s w K:=by
 refine Pz ?_
 unfold f74
 obtain⟨O,h1,back⟩:=h.f1 hi rfl
 obtain⟨q,hf,h1⟩:=tz h1
 have Y2:=hf.1.len
 have pa:=hf.1.four
 have lf:=CF hf ps qD
 obtain⟨xs,OP,iF,hOP⟩:=hr.DF
 have g1:=(h1.X4 (i:=0) (j:=1) (t:=ai b 73 q.cells) (u:=aD q.K a.ks) rfl rfl).ey hOP (by simp)
 have g1:Hp [] w w [(ai b 73 q.cells).ro,(aD q.K a.ks).ro,(iN s xs).ro]:=g1
 have hu:(iN s xs).ro.holds=(iN s xs).holds:=rfl
 have eQ:=g1.df 2 (u:=(iN s xs).ro) rfl (bT hu)
 have kS:xs.length=ps.length:=by rw [<-iF,afP]
 -- a refusal
 have same: ∀{w':World} {ts:List aa} {err:Int},Hp [] w w' ts->a.spawn ps=(a,(0,0),err)->K 0 0 err w':=fun{w' ts err} g hs=>by
  rw [hs] at hK
  have:=hK w' (by rw [Hp.cK hi];exact h.cB g.fr)
  exact this
 refine g1.nw (c:= [_,_]) fun ab w1 g=>?_
 have g:=g.gE 36 2 cY tV bN
 have g:Hp [] w w1 [(ai b 73 q.cells).ro,(aD q.K a.ks).ro,(iN s xs).ro,ai ab 33 [.int .i64 0,.int .i64 0],bn ⟨none,0,0⟩ (partsOf a.emp)]:=by
  have:partsOf a.emp= []:=by unfold WA.emp partsOf;rw [pg]
  rw [this];exact g
 clear g1
 refine⟨fun all t mm w'=> ∃(k:Nat) (p:PL),t=k /\ k<=xs.length /\ mm=xs.length - k /\ p.fit a.ks /\ aO a.ks (ps.drop k) p=aO a.ks ps a.emp /\
   Hp [] w w' [(ai b 73 q.cells).ro,(aD q.K a.ks).ro,(iN s xs).ro,ai ab 33 [.int .i64 0,.int .i64 0],bn all (partsOf p)],⟨xs.length,0,a.emp,rfl,by omega,rfl,tv _,rfl,g⟩,?_⟩
 clear g
 rintro all t mm w2 ⟨k,p,rfl,hk,rfl,bW,dh,g⟩
 by_cases ar:k < xs.length
 ·refine aE (by simp;omega) ?_
  have hx:xs[k]? =some xs[k]:=by simp [ar]
  have vZ:ps[k]? =some (bN xs[k]):=by rw [<-iF,afC,hx];rfl
  have jU:xs[k]∈xs:=afR ar
  generalize xs[k]=x at hx vZ jU
  obtain⟨kd,sv,v⟩:=x
  have vZ:ps[k]? =some (kd,v):=vZ
  have Cm:=Fm _ (afz vZ)
  dsimp only at Cm
  have xi:ps.drop k=(kd,v) :: ps.drop (k+1):=by
   have hl:=(aft.1 vZ).1
   have he:=(aft.1 vZ).2
   rw [<-he];exact agf hl
  rw [xi] at dh
  have bad: ∀{w6:World} {err:Int} {ts:List aa},err≠0->(aO a.ks ps a.emp).2=err->Hp [] w w6 ts->ts[3]? =some (ai ab 33 [.int .i64 0,.int .i64 0])->
    (St ⟨ab,0,none⟩ (.int .i64 0) w6 fun w=>St ((⟨ab,0,none⟩:Addr).add 1) (.int .i64 0) w fun w=>Ld (.i .i64) w ⟨ab,0,none⟩ fun(dc:Int)=>Ld (.i .i64) w ((⟨ab,0,none⟩:Addr).add 1) fun(fV:Int)=>K dc fV err w):=by
   intro w6 err ts aR Mz g h3
   have VH:=(aft.1 h3).1
   refine g.iR 3 h3 (by simp) rfl fun w7 g=>?_
   refine g.st (n:=1) 3 (by rw [afX VH]) (by simp) rfl fun w8 g=>?_
   refine g.cx (k:=.i .i64) (x:=(0:Int)) 3 (by rw [afX (by simpa using VH)];rfl) rfl ?_
   refine g.ld (n:=1) (k:=.i .i64) (x:=(0:Int)) 3 (by rw [afX (by simpa using VH)];rfl) rfl ?_
   exact same g (by unfold WA.spawn;rw [if_pos (by rw [Mz];exact aR),Mz])
  have pX: ∀{w':World} {ts:List aa} {K':Int->Prop},Hp [] w w' ts->ts[2]? =some (iN s xs).ro->K' kd->Ix s.a s.len (k:Int) 2 fun a=>Ld (.i .i64) w' a K':=fun{w' ts K'} g h2 hk=>by
   refine g.vH 2 (u:=(iN s xs).ro) (by rw [h2];rfl) (bT hu) (by omega) (by simpa using ar) fun y hy=>?_
   rw [afu]
   exact g.pX (k:=.i .i64) (v:=kd) 2 (u:=(iN s xs).ro) (by rw [h2];rfl) (bT hu) hy aW hx rfl hk
  refine pX g rfl ?_
  refine yP g 0 1 (q:=q) (ks:=a.ks) rfl rfl (by omega) Cm.1 Cm.2 ?_
  cases ee:fl a.ks kd with
  | none=>
   dsimp only
   refine aE (by simp) (bad (by decide) ?_ g rfl)
   rw [<-dh];unfold aO;dsimp only;rw [ee]
  | some n=>
   dsimp only
   refine aF (by simp) ?_
   obtain⟨r,kk,rfl,Bg,zK⟩:=Aw ee
   have fv:r < p.length:=by rw [bW.1];exact(aft.1 Bg).1
   have er:((((r+1:Nat):Int)) - 1).toNat=r:=by omega
   refine pX g rfl ?_
   have EE:vK w2 all (partsOf p):=by
    obtain⟨O',mv⟩:=g.n9 (i:=4) rfl
    exact Ct mv
   have QZ:=g9 p p.length
   have adO:(partsOf p).length<=12:=by unfold partsOf;rw [bW.1] at QZ ⊢;omega
   refine find_spec EE (by omega) (fun z x' hz he=>?_) (fun da=>?_)
   ·refine aE (by simp) (bad (by decide) ?_ g rfl)
    have hh:=vz.1 ⟨z,x',hz,he⟩
    rw [<-dh];unfold aO;dsimp only;rw [ee];dsimp only;rw [er,if_pos hh]
   ·refine aF (by simp) ?_
    have hh: ¬(p.getD r none).isSome=true:=fun hh=>by
     obtain⟨z,x',hz,he⟩:=vz.2 hh
     exact da x' (afz hz) he
    have gi:=g.df 2 (u:=(iN s xs).ro) rfl (lj hu jU)
    dsimp only at gi
    refine g.vH 2 (u:=(iN s xs).ro) rfl (bT hu) (by omega) (by simpa using ar) fun y hy=>?_
    rw [afu]
    refine g.A6 (m:=1) (k:=.sl) (v:=sv) 2 (u:=(iN s xs).ro) rfl (bT hu) hy aW hx rfl ?_
    by_cases hn:v.length=n
    ·refine aF (by simp;omega) ?_
     have QA:=pa _ (afz Bg)
     refine g.vH 2 (u:=(iN s xs).ro) rfl (bT hu) (by omega) (by simpa using ar) fun y hy=>?_
     rw [afu]
     refine g.pX (k:=.i .i64) (v:=((r+1:Nat):Int)) 2 (u:=(iN s xs).ro) rfl (bT hu) hy aW hx rfl ?_
     refine g.A6 (m:=1) (k:=.sl) (v:=sv) 2 (u:=(iN s xs).ro) rfl (bT hu) hy aW hx rfl ?_
     have xD: ∃o,cf w2 sv 1 iv v o:=by
      obtain⟨O',mv⟩:=g.n9 (i:=2) rfl
      exact(lj hu jU).rd mv
     refine EW g 4 (l:=partsOf p) rfl xD (by omega) (by omega) fun SM w3 g=>?_
     have Zz:p.getD r none=none:=by simpa using hh
     rw [<-EU fv Zz v] at g
     refine⟨xs.length - (k+1),by omega,k+1,p.set r (some v),by rw [aB (by omega) (by omega)];omega,by omega,rfl,bW.set Bg (by rw [zK];exact hn),?_,g⟩
     rw [<-dh]
     conv=>rhs;unfold aO
     dsimp only
     rw [ee]
     dsimp only
     rw [er,if_neg hh,if_neg (by simpa using hn)]
    ·refine aE (by simp;omega) (bad (by decide) ?_ g rfl)
     rw [<-dh];unfold aO;dsimp only;rw [ee];dsimp only;rw [er,if_neg hh,if_pos hn]
 ·refine aF (by simp;omega) ?_
  have dh:(p,(0:Int))=aO a.ks ps a.emp:=by
   rw [agq (by omega)] at dh
   exact dh
  have g2:=g.PS 3 4 (by decide) rfl rfl
  have hh:=h1.r0 rfl g2
  clear g g2
  have hh:Hp O w w2 [ai b 73 q.cells,aD q.K a.ks,ay 177 q.p a.au,aZ q.L a.rows,ai ab 33 [.int .i64 0,.int .i64 0],bn all (partsOf p)]:=hh
  refine bg ?_
  refine hh.ld (n:=1) (k:=.p) (x:=some ⟨q.p,0,none⟩) 0 rfl rfl ?_
  refine FI.LA hh 2 (m:=a.au) hf.1.u6 rfl fun w3 hh=>?_
  have HP:(aO a.ks ps a.emp).2=0:=by rw [<-dh]
  have HQ:(aO a.ks ps a.emp).1=p:=by rw [<-dh]
  refine hh.nw (c:= [_,_]) fun eb w4 hh=>?_
  refine hh.iR 6 rfl (by simp) rfl fun w5 hh=>?_
  refine hh.st (n:=1) 6 rfl (by simp) rfl fun w6 hh=>?_
  have yI:a.spawn ps=if a.au.bu.2.2≠0 then (a,(0,0),a.au.bu.2.2) else (⟨a.ks,a.au.bu.1,aH a.row a.au.bu.2.1 (some p)⟩,a.au.bu.2.1,0):=by
   unfold WA.spawn;rw [if_neg (by rw [HP];simp),HQ]
  by_cases hb:a.au.bu.2.2=0
  ·rw [if_neg (by simpa using hb)] at yI
   rw [yI] at hK lf
   dsimp only at hK lf
   obtain⟨HR,_⟩:=ry hf.1 hb
   have bc:=Iz hf.1 lf.1 HR (p:=p) rfl
   generalize a.au.bu.2.1=e at hK HR lf hh bc ⊢
   generalize a.au.bu.1=mj at hK lf hh bc ⊢
   have hh:Hp O w w6 [ai b 73 q.cells,aD q.K a.ks,ay 177 q.p mj,aZ q.L a.rows,ai ab 33 [.int .i64 0,.int .i64 0],bn all (partsOf p),ai eb 33 [.int .i64 e.1,.int .i64 e.2]]:=hh
   refine aF (by rw [hb];simp) ?_
   refine hh.cx (k:=.i .i64) (x:=e.1) 6 rfl rfl ?_
   refine hh.ld (n:=1) (k:=.i .i64) (x:=e.2) 6 rfl rfl ?_
   have gI:a.rows.length<=200:=by unfold WA.rows;rw [afP];exact kf hf.1
   refine AU hh 0 3 5 (by decide) (q:=q) rfl rfl rfl (by omega) fun L2 w7 hh=>?_
   rw [<-bc] at hh
   have hh:Hp O w w7 [ai b 73 ({ q with L:=L2}:RH).cells,aD q.K a.ks,ay 177 q.p mj,aZ L2 (⟨a.ks,mj,aH a.row e (some p)⟩:WA).rows,ai ab 33 [.int .i64 0,.int .i64 0],ao,ai eb 33 [.int .i64 e.1,.int .i64 e.2]]:=hh
   refine hh.cx (k:=.i .i64) (x:=e.1) 6 rfl rfl ?_
   refine hh.ld (n:=1) (k:=.i .i64) (x:=e.2) 6 rfl rfl ?_
   refine hh.iR 4 rfl (by simp) rfl fun w8 hh=>?_
   refine hh.st (n:=1) 4 rfl (by simp) rfl fun w9 hh=>?_
   refine hh.cx (k:=.i .i64) (x:=e.1) 4 rfl rfl ?_
   refine hh.ld (n:=1) (k:=.i .i64) (x:=e.2) 4 rfl rfl ?_
   have hs:=qv (b:=b) (a:=⟨a.ks,mj,aH a.row e (some p)⟩) { q with L:=L2} (rest:= []) lf (hh.trim 4)
   have:=back (rest:= []) rfl rfl hs
   rw [afH] at this
   exact hK w9 this
  ·rw [if_pos hb] at yI
   rw [yI] at hK
   dsimp only at hK
   refine aE (by simpa using hb) ?_
   refine hh.iR 4 rfl (by simp) rfl fun w7 hh=>?_
   refine hh.st (n:=1) 4 rfl (by simp) rfl fun w8 hh=>?_
   refine hh.cx (k:=.i .i64) (x:=(0:Int)) 4 rfl rfl ?_
   refine hh.ld (n:=1) (k:=.i .i64) (x:=(0:Int)) 4 rfl rfl ?_
   have cX:=(nj hf.1.u6).1 hb
   rw [cX] at hh
   have hs:=qv (b:=b) (a:=a) q (rest:= []) hf (hh.trim 4)
   have:=back (rest:= []) rfl rfl hs
   rw [afH] at this
   exact hK w8 this
set_option maxHeartbeats 4000000 in
theorem CG (h:Hp S w0 w ae) (i:Nat) {b:Nat} {a:WA} (hi:ae[i]? =some (iT b a)) {e:bM} {K:Int->World->Prop}
  (hK: ∀w',Hp S w0 w' (ae.set i (iT b (a.cI e).1))->K (a.cI e).2 w'):WJ (some ⟨b,0,none⟩) e.1 e.2 w K:=by
 refine Oq ?_
 unfold f22
 obtain⟨inf,i1,i2,i3,i4⟩:=vc
 have ky:=(aft.1 hi).1
 refine h.nw (c:= [_,_]) fun eb w1 h=>?_
 refine h.cx (k:=.i .i64) (x:=e.1) ae.length (by rw [afU];rfl) rfl ?_
 refine h.ld (n:=1) (k:=.i .i64) (x:=e.2) ae.length (by rw [afU];rfl) rfl ?_
 have ZA:(ae++ [ai eb 33 [.int .i64 e.1,.int .i64 e.2]])[i]? =some (iT b a):=by rw [afx ky];exact hi
 have bW:a.fits:=by
  obtain⟨O,hO⟩:=h.n9 ZA
  obtain⟨q,hq,_⟩:=hO
  exact hq
 refine Ul h i (b:=b) (a:=a) (by rw [ZA];rfl) (fun q r w2 hq MN h=>?_) (fun w2 bF h=>?_)
 case refine_2=>
  have hn:=LI bW.1 bF
  have hd:a.cI e=(a,41):=by
   unfold WA.cI
   rw [if_neg]
   rw [<-bW.1.Dq e,hn];simp
  rw [hd] at hK
  exact aE (by simp) (hK w2 (by rw [Hp.cK hi];exact h.front))
 have ei:(a.row e).isSome=true:=by
  obtain⟨p,hp,_⟩:=(iG bW.1).1 (afz hq)
  rw [<-MN,hp];rfl
 have vW:a.au.is e.1 e.2=true:=by rw [<-bW.1.Dq e];exact ei
 have hd:a.cI e=(⟨a.ks,a.au.dj e.1 e.2,aH a.row e none⟩,0):=by unfold WA.cI;rw [if_pos vW]
 have lf:=yQ bW e
 rw [hd] at hK lf
 dsimp only at hK lf
 have bc:=IA bW.1 lf.1 hq MN rfl
 refine aF (by simp) ?_
 have hi2:(ae++ [ai eb 33 [.int .i64 e.1,.int .i64 e.2]])[ae.length]? =some (ai eb 33 [.int .i64 e.1,.int .i64 e.2]):=afU
 obtain⟨O,h1,back⟩:=h.f2 (i:=i) (i':=ae.length) (by omega) ZA hi2 rfl rfl
 clear h
 obtain⟨qh,_,h⟩:=tz h1
 clear h1
 have gI:a.rows.length<=200:=by unfold WA.rows;rw [afP];exact kf bW.1
 have QM:=(aft.1 hq).1
 refine h.dr fun w3 h=>bg (h.ld (n:=1) (k:=.p) (x:=some ⟨qh.p,0,none⟩) 0 rfl rfl ?_)
 refine h.cx (k:=.i .i64) (x:=e.1) 4 rfl rfl ?_
 refine h.ld (n:=1) (k:=.i .i64) (x:=e.2) 4 rfl rfl ?_
 refine FI.LB h 2 (m:=a.au) bW.1.u6 rfl fun w4 h=>?_
 have hg:a.au.kZ e.1 e.2=(a.au.dj e.1 e.2,0):=by unfold af.kZ;rw [if_pos vW]
 rw [hg] at h
 obtain⟨xs,iF,h⟩:=h.dy (i:=3) (e:=75) (n:=3) (cells:=rdv) (sub:=gJ) (vis:=fj) (s:=qh.L) (l:=a.rows) rfl
 have h:=h.nil 75 3 rdv
 have h:Hp O w2 w4 [ai b 73 qh.cells,aD qh.K a.ks,ay 177 qh.p (a.au.dj e.1 e.2),aj qh.L 75 3 rdv xs,ai eb 33 [.int .i64 e.1,.int .i64 e.2],an (xs.map gJ),aj ⟨none,0,0⟩ 75 3 rdv []]:=h
 have eQ:=h.len (s:=qh.L) (l:=xs) (e:=75) (n:=3) (f:=rdv) 3 rfl
 have Ff:=h.cap (s:=qh.L) (l:=xs) (e:=75) (n:=3) (f:=rdv) 3 rfl
 have kS:xs.length=a.rows.length:=by rw [<-iF,afP]
 refine bg (h.ld (n:=2) (k:=.sl) (x:=qh.L) 0 rfl rfl ?_)
 refine Hp.jT (s:=qh.L) (u:=aj qh.L 75 3 rdv xs) Hp.bX eQ cd (by omega) (by omega) (by omega) (agr _) (by omega) fun s5 Hj Lw VR=>?_
 have e1:(xs.take ((q:Nat):Int).toNat).drop (0:Int).toNat=xs.take q:=by rw [afu];rfl
 rw [e1] at Hj
 rw [afu] at Lw
 refine h.gY 6 3 (s:=⟨none,0,0⟩) (s2:=s5) (u:=aj qh.L 75 3 rdv xs) rfl rfl Hj cd qk i1 i3 i2 rfl (by simp [rdv,Value.oneCell']) (by rw [i4,Lw];simp;omega) (by rw [Lw];simp;omega) fun s6 w5 h hl6 _=>?_
 have h:Hp O w2 w5 [ai b 73 qh.cells,aD qh.K a.ks,ay 177 qh.p (a.au.dj e.1 e.2),aj qh.L 75 3 rdv xs,ai eb 33 [.int .i64 e.1,.int .i64 e.2],an (xs.map gJ),aj s6 75 3 rdv (xs.take q)]:=h
 have ZB:=h.len (s:=s6) (l:=xs.take q) (e:=75) (n:=3) (f:=rdv) 6 rfl
 rw [afM] at ZB
 refine bg (h.ld (n:=2) (k:=.sl) (x:=qh.L) 0 rfl rfl ?_)
 have Ni:IntKind.i64.wrap ((q:Int)+1)=((q+1:Nat):Int):=by rw [aB (by omega) (by omega)];omega
 rw [Ni]
 refine Hp.jT (s:=qh.L) (u:=aj qh.L 75 3 rdv xs) Hp.bX eQ cd (by omega) (by omega) (by omega) (agr _) (by omega) fun s7 Rv Zm hc7=>?_
 have e2:(xs.take ((qh.L.len:Nat):Int).toNat).drop ((q+1:Nat):Int).toNat=xs.drop (q+1):=by rw [afu,afu,afE (by omega)]
 rw [e2] at Rv
 rw [afu,afu] at Zm
 refine h.gY 6 3 (s:=s6) (s2:=s7) (u:=aj qh.L 75 3 rdv xs) rfl rfl Rv cd qk i1 i3 i2 rfl (by simp [rdv,Value.oneCell']) (by rw [i4];omega) (by omega) fun s8 w6 h _ _=>?_
 refine bg (h.st (n:=2) 0 rfl (by simp) rfl fun w7 h=>?_)
 have e3:xs.take q++xs.drop (q+1)=xs.eraseIdx q:=(List.eraseIdx_eq_take_drop_succ xs q).symm
 have h:Hp O w2 w7 [ai b 73 ({ qh with L:=s8}:RH).cells,aD qh.K a.ks,ay 177 qh.p (a.au.dj e.1 e.2),aj qh.L 75 3 rdv xs,ai eb 33 [.int .i64 e.1,.int .i64 e.2],an (xs.map gJ),aj s8 75 3 rdv (xs.take q++xs.drop (q+1))]:=h
 rw [e3] at h
 have h:=h.QY q (i:=5) rfl
 have e4:(xs.map gJ).eraseIdx q=(xs.eraseIdx q).map gJ:=rM _ _ _
 rw [e4] at h
 have e5:(xs.eraseIdx q).map fj=(⟨a.ks,a.au.dj e.1 e.2,aH a.row e none⟩:WA).rows:=by
  rw [bc,<-iF,rM]
 have h:=h.dE (i:=6) (j:=5) (s:=s8) (cells:=rdv) (sub:=gJ) (vis:=fj) (by omega) rfl rfl e5
 have h:Hp O w2 w7 [ai b 73 ({ qh with L:=s8}:RH).cells,aD qh.K a.ks,ay 177 qh.p (a.au.dj e.1 e.2),aj qh.L 75 3 rdv xs,ai eb 33 [.int .i64 e.1,.int .i64 e.2],ao,aZ s8 (⟨a.ks,a.au.dj e.1 e.2,aH a.row e none⟩:WA).rows]:=h
 have h:=h.BR 0 1 2 6 4 (by decide) rfl rfl rfl rfl rfl
 have hs:=qv (b:=b) (a:=⟨a.ks,a.au.dj e.1 e.2,aH a.row e none⟩) { qh with L:=s8} (rest:= [ai eb 33 [.int .i64 e.1,.int .i64 e.2]]) lf h
 have:=back (rest:= []) rfl rfl rfl hs
 rw [afH] at this
 have e6:((ae++ [ai eb 33 [.int .i64 e.1,.int .i64 e.2]]).set i (iT b ⟨a.ks,a.au.dj e.1 e.2,aH a.row e none⟩)).set ae.length (ai eb 33 [.int .i64 e.1,.int .i64 e.2])=ae.set i (iT b ⟨a.ks,a.au.dj e.1 e.2,aH a.row e none⟩)++ [ai eb 33 [.int .i64 e.1,.int .i64 e.2]]:=by
  rw [agx _ _ ky]
  have hl:(ae.set i (iT b ⟨a.ks,a.au.dj e.1 e.2,aH a.row e none⟩)).length=ae.length:=agi
  rw [<-hl,afI _ _ (afV _),af9,afN]
 rw [e6] at this
 exact hK w7 this.front
end
end Go.Proofs.YtcccjgmekakabaaGreat.FW
end

section
namespace Go.Proofs.YtcccjgmekakabaaGreat.FW
open F
open Go Go.Den Go.Proofs
open FI (af ay)
open FT
section
variable {S:List Nat} {w0 w:World} {ae:List aa}
set_option maxHeartbeats 4000000 in
theorem yR {O:List Nat} {s v:Sl} {l xs:List Int} {u:aa} (ho:u.own=true) (hu: ∀{w:World} {O:List Nat},u.holds w O->cA w v 2 1 iv xs O) (h1:Hp O w w [aj s 2 1 iv l,u]) {p:Nat} (hp:p<=l.length) (hl:l.length+xs.length<=1000000) {K:Sl->World->Prop}
  (hK: ∀s' w',Hp O w w' [aj s' 2 1 iv (l.take p++xs++l.drop p),u]->K s' w'):f56 s (p:Int) v w K:=by
 unfold f56
 obtain⟨inf,q1,q2,q3,q4⟩:=jC
 have eQ:=h1.len (s:=s) 0 rfl
 have hR:Hp.Reads u v 1 iv xs:=⟨fun h=>⟨_,cA.toR (hu h)⟩⟩
 have gi:=h1.df (u:=u) 1 rfl hR
 have Ff:=h1.cap (s:=s) 0 rfl
 have Ya:IntKind.i64.wrap ((s.len:Int)+(v.len:Int))=((s.len+v.len:Nat):Int):=by rw [aB (by omega) (by omega)];omega
 refine⟨by omega,by omega,by omega,agr _,?_⟩
 by_cases hm:v.len=0
 ·refine aE (by simp [hm]) ?_
  have:xs= []:=af7 (by omega)
  subst this
  exact hK s w (by rw [afH,agp];exact h1)
 refine aF (by simpa using hm) ?_
 by_cases Yb:p=s.len
 ·refine aE (by simp [Yb]) ?_
  refine h1.gY 0 1 rfl rfl hR aq eO q1 q3 q2 rfl (by simp [iv,Value.oneCell']) (by rw [q4];omega) (by omega) fun s' w' h1 _ _=>?_
  refine hK s' w' ?_
  rw [afE (by omega),agq (by omega),afH]
  exact h1
 refine aF (by simp;omega) ?_
 rw [Ya]
 -- what lies where
 obtain⟨eN,F,g1,g2⟩:=id h1
 obtain⟨hS,-,-⟩:=g1 0 _ rfl
 obtain⟨hV,-,-⟩:=g1 1 _ rfl
 have hV:=hu hV
 have GD:=g2 0 1 _ _ rfl rfl (by decide) rfl ho
 obtain⟨bv,ov,cv,GY,Yc,KW,hcv,GZ,G0⟩: ∃b off c,v.a=some ⟨b,off,none⟩ /\ F 1= [b] /\ fz w b 2 c /\ v.len<=v.cap /\ off+v.cap*1<=c.length /\ (c.drop off).take (v.len*1)=xs.flatMap iv:=by
  rcases hV.2 with ⟨_,h0,_⟩ | h
  ·omega
  ·exact h
 obtain⟨b,off,c,yv,Yd,j7,_,eY,cX⟩: ∃b off c,s.a=some ⟨b,off,none⟩ /\ F 0= [b] /\ fz w b 2 c /\ s.len<=s.cap /\ off+s.cap*1<=c.length /\ (c.drop off).take (s.len*1)=l.flatMap iv:=by
  rcases hS.2 with ⟨_,h0,_⟩ | h
  ·omega
  ·exact h
 have G1:b≠bv:=fun e=>GD b (by rw [Yd];simp) (by rw [Yc];simp [e])
 rw [agS] at eY GZ cX G0
 have xf:(xs.flatMap iv).length=v.len:=by rw [q9];omega
 have zO: ∀{w':World},fz w' bv 2 cv-> ∀j u,(xs.flatMap iv)[j]? =some u->w'.cell? ((⟨bv,ov,none⟩:Addr).add j)=some u:=fun{w'} hb j u hj=>by
  rw [Addr.aQ,hb.cell]
  rw [<-G0,agc] at hj
  split at hj
  ·rw [agn] at hj;exact hj
  ·cases hj
 have wj:((l.take p).flatMap iv).length=p:=by rw [q9,afM];omega
 have zP:((l.drop p).flatMap iv).length=s.len - p:=by rw [q9,af4];omega
 have S7:l.flatMap iv=(l.take p).flatMap iv++(l.drop p).flatMap iv:=by rw [<-af5,agp]
 by_cases hg:s.cap < s.len+v.len
 ·refine aE (by simp;omega) ?_
  refine cA.cut aq hS (by omega) (by omega) (by omega) (agr _) (by omega) fun s4 A9 Ye S8 _=>?_
  have ew:IntKind.i64.wrap (((s.len+v.len:Nat):Int) - (p:Int))=((s.len+v.len - p:Nat):Int):=by rw [aB (by omega) (by omega)];omega
  rw [ew]
  have e4:((l.take ((p:Nat):Int).toNat).drop (0:Int).toNat)=l.take p:=by rw [afu];rfl
  rw [e4] at A9
  have Yf:s4.len=p:=by rw [Ye];simp
  have Yg:s4.cap=s.cap:=by rw [S8];simp
  refine cA.Mg (x0:=(0:Int)) (v:=.int .i64 0) (k:=s.len+v.len - p) aq A9 eO P6 q1 q3 q2 rfl rfl (by omega) (by omega) (by rw [q4];omega) (by omega) fun b' oZ w1 Ba iL vF=>?_
  have tU:s4.len+(s.len+v.len - p)=s.len+v.len:=by omega
  rw [tU] at Ba ⊢
  obtain⟨c',iV,wU,S9,P7⟩: ∃c',fz w1 b' 2 c' /\ s.len+v.len<=oZ /\ oZ<=c'.length /\ c'.take (s.len+v.len)=(l.take p++List.replicate (s.len+v.len - p) 0).flatMap iv:=by
   rcases Ba.2 with ⟨h0,_⟩ | ⟨b'',P8,c',h0,ho,g1,g2,g3,g4⟩
   ·cases h0
   ·injection h0 with h0
    injection h0 with h0 Mh
    subst h0 Mh
    exact⟨c',g1,g2,by simpa using g3,by simpa using g4⟩
  have vX:b < w.heap.size:=j7.lt
  have Yh:bv < w.heap.size:=KW.lt
  have BX:=KW.fr vF (by simp)
  have yw:=j7.fr vF (by simp)
  have uI: ∀{w':World},fz w' b 2 c-> ∀j u,((l.drop p).flatMap iv)[j]? =some u->w'.cell? ((⟨b,off+p,none⟩:Addr).add j)=some u:=fun{w'} hb j u hj=>by
   rw [Addr.aQ,hb.cell]
   have gN:=(aft.1 hj).1
   have jE:c[off+p+j]? =(l.flatMap iv)[p+j]? :=by
    rw [<-cX,agc,if_pos (by omega),agn];congr 1;omega
   rw [jE,S7,afv (by omega),wj,agI]
   exact hj
  refine fA (b:=b') (off:=0) rfl (by omega) (by simp;omega) (by simp;omega) (by simp) (by simp;omega) ?_
  rw [GY]
  refine iz (s2:=⟨some ⟨bv,ov,none⟩,v.len,v.cap⟩) (k:=v.len) (vs:=xs.flatMap iv) iV eO q1 q3 (by simp;omega) xf (.inr ⟨_,rfl,zO BX⟩) (by dsimp only;omega) mW fun w2 eU iH=>?_
  have p5:=yw.fr iH (by simp;omega)
  refine Go.Den.dr fun w3 yV _ pC=>?_
  have P9:=pC _ _ _ eU
  have Ee:=pC _ _ _ p5
  have Qa:IntKind.i64.wrap ((p:Int)+(v.len:Int))=((p+v.len:Nat):Int):=by rw [aB (by omega) (by omega)];omega
  rw [Qa]
  refine fA (b:=b') (off:=0) rfl (by omega) (by simp;omega) (by simp;omega) (by simp) (by simp;omega) ?_
  refine fA yv (by omega) (by omega) (by omega) (agr _) (by simp;omega) ?_
  refine iz (s2:=⟨some ⟨b,off+((p:Nat):Int).toNat,none⟩,_,_⟩) (k:=s.len - p) (vs:=(l.drop p).flatMap iv) P9 eO q1 q3 (by simp;omega) zP (.inr ⟨_,rfl,uI Ee⟩) (by rw [afw,afw,afM,af4,xf];dsimp only;omega) mW fun w4 yx KX=>?_
  have t1:((p+v.len:Nat):Int).toNat=p+v.len:=afu _
  have t2:((p:Nat):Int).toNat=p:=afu _
  simp only [t1,t2,agH] at yx eU
  have A3:(c'.take p++xs.flatMap iv).length=p+v.len:=by rw [afw,xf,afM];omega
  have e5:(c'.take p++xs.flatMap iv++c'.drop (p+v.len)).take (p+v.len)=c'.take p++xs.flatMap iv:=agT A3
  have e6:c'.take p=(l.take p).flatMap iv:=by
   have:=congrArg (List.take p) P7
   rw [ah7,ahe (by omega),af5,agT wj] at this
   exact this
  rw [e5,e6] at yx
  obtain⟨O0,qH,back⟩:=h1.step (i:=0) rfl rfl
  have Qb:Fr [] w w4:=((vF.trans iH (fun k hk=>.inr (by simp only [afF] at hk;omega))).trans yV (by simp)).trans KX (fun k hk=>.inr (by simp only [afF] at hk;omega))
  refine hK _ _ (back (Qb.mono (by simp)) (t':=aj ⟨some ⟨b',0,none⟩,s.len+v.len,oZ⟩ 2 1 iv (l.take p++xs++l.drop p)) (O':= [b']) ?_ (fun k hk=>.inr (by simp only [afF] at hk;omega)) rfl)
  refine⟨by simp;omega,.inr ⟨b',0,_,rfl,rfl,yx,wU,?_,?_⟩⟩
  ·show 0+oZ*1<=_
   rw [afw,afw,afw,wj,xf,zP,af4,afw,afw,wj,xf,af4]
   omega
  ·show List.take ((s.len+v.len)*1) _=_
   rw [ahv,agS,af5,af5,agT (by rw [afw,afw,wj,zP,xf];omega)]
 ·refine aF (by simp;omega) ?_
  -- in place
  obtain⟨O0,qH,back⟩:=h1.step (i:=0) rfl rfl
  have Yi:O0= [b]:=by
   rcases qH.2 with ⟨h0,_⟩ | ⟨b',P8,c',h0,ho,_⟩
   ·rw [yv] at h0;cases h0
   ·rw [yv] at h0;injection h0 with h0;injection h0 with h0;rw [ho,h0]
  subst Yi
  have Qa:IntKind.i64.wrap ((p:Int)+(v.len:Int))=((p+v.len:Nat):Int):=by rw [aB (by omega) (by omega)];omega
  have Ta:c=c.take off++((l.take p).flatMap iv++((l.drop p).flatMap iv++c.drop (off+s.len))):=by
   rw [<-afA ((l.take p).flatMap iv),<-S7,<-cX,<-agk,agp,agp]
  have qA:s.len+off<=c.length:=by omega
  have L2:((l.drop p).flatMap iv).length=s.len - p:=zP
  have uI: ∀{w':World},fz w' b 2 c-> ∀j u,((l.drop p).flatMap iv)[j]? =some u->w'.cell? ((⟨b,off+p,none⟩:Addr).add j)=some u:=fun{w'} hb j u hj=>by
   rw [Addr.aQ,hb.cell]
   have gN:=(aft.1 hj).1
   rw [Ta,afv (by simp;omega),afv (by rw [wj,afM];omega),afx (by rw [wj,afM];omega),wj,afM]
   rw [<-hj];congr 1;omega
  refine fA yv (by omega) (by omega) (by omega) (agr _) (by omega) ?_
  rw [Qa]
  refine fA (b:=b) (off:=off+(0:Int).toNat) rfl (by omega) (by simp;omega) (by simp;omega) (by simp) (by simp;omega) ?_
  rw [GY]
  refine su (cb:=c) KW j7 (fun e=>G1 e.symm) (fun e=>by rw [e] at qA;simp at qA;omega) ?_
  refine aE rfl ?_
  refine Go.Den.dr fun w1 vF _ lr=>?_
  have yw:=lr _ _ _ j7
  have BX:=lr _ _ _ KW
  refine fA (b:=b) (off:=off+(0:Int).toNat) rfl (by omega) (by simp;omega) (by simp;omega) (by simp) (by simp;omega) ?_
  refine fA (b:=b) (off:=off+(0:Int).toNat) rfl (by omega) (by simp;omega) (by simp;omega) (by simp) (by simp;omega) ?_
  refine iz (s2:=⟨some ⟨b,off+(0:Int).toNat+((p:Nat):Int).toNat,none⟩,_,_⟩) (k:=s.len - p) (vs:=(l.drop p).flatMap iv) yw eO q1 q3 (by simp;omega) zP (.inr ⟨_,rfl,uI yw⟩) (by simp;omega) mW fun w2 eU iH=>?_
  have Qc:=BX.fr iH (by simp;exact fun e=>G1 e.symm)
  refine fA (b:=b) (off:=off+(0:Int).toNat) rfl (by omega) (by simp;omega) (by simp;omega) (by simp) (by simp;omega) ?_
  refine iz (s2:=⟨some ⟨bv,ov,none⟩,v.len,v.cap⟩) (k:=v.len) (vs:=xs.flatMap iv) eU eO q1 q3 (by simp;omega) xf (.inr ⟨_,rfl,zO Qc⟩) (by rw [afw,afw,afM,af4,zP];dsimp only;omega) mW fun w3 pC yV=>?_
  have t1:((p+v.len:Nat):Int).toNat=p+v.len:=afu _
  have t2:((p:Nat):Int).toNat=p:=afu _
  have t3:((s.len+v.len:Nat):Int).toNat=s.len+v.len:=afu _
  have t0:(0:Int).toNat=0:=rfl
  simp only [t1,t2,t3,t0,aho,Nat.sub_zero] at pC yV eU iH ⊢
  obtain⟨er,el⟩:=Dc (A:=c.take off) (La:=(l.take p).flatMap iv) (Lb:=(l.drop p).flatMap iv) (V:=xs.flatMap iv) (D:=c.drop (off+s.len)) (off:=off) (m:=v.len) (by simp;omega) xf (by simp;omega) Ta rfl rfl
  rw [wj,zP] at er el
  rw [<-ahD off p v.len,er] at pC
  rw [<-ahD off p v.len] at eU
  rw [afu]
  have Qb:Fr [b] w w3:=((vF.mono (S':= [b]) (by simp)).trans iH (fun k hk=>.inl hk)).trans yV (fun k hk=>.inl hk)
  refine hK _ _ (back Qb (t':=aj ⟨some ⟨b,off,none⟩,s.len+v.len,s.cap⟩ 2 1 iv (l.take p++xs++l.drop p)) (O':= [b]) ?_ (fun k hk=>.inl hk) rfl)
  refine⟨by simp;omega,.inr ⟨b,off,_,rfl,rfl,pC,by show s.len+v.len<=s.cap;omega,?_,?_⟩⟩
  ·rw [er] at el
   rw [el]
   show off+s.cap*1<=_
   omega
  ·show List.take ((s.len+v.len)*1) _=_
   rw [List.drop_left' (by simp;omega),agS,af5,af5,<-afA,<-afA,agT (by rw [afw,afw,wj,zP,xf];omega)]
theorem IC (h:Hp S w0 w ae) (i j:Nat) (mJ:i≠j) {s v:Sl} {l xs:List Int} {p:Nat} {u:aa} (ho:u.own=true) (hu: ∀{w:World} {O:List Nat},u.holds w O->cA w v 2 1 iv xs O) (hi:ae[i]? =some (aj s 2 1 iv l)) (hj:ae[j]? =some u) (hp:p<=l.length) (hl:l.length+xs.length<=1000000) {K:Sl->World->Prop}
  (hK: ∀s' w',Hp S w0 w' (ae.set i (aj s' 2 1 iv (l.take p++xs++l.drop p)))->K s' w'):Rm s (p:Int) v w K:=by
 refine Gt ?_
 obtain⟨O,h1,back⟩:=h.f2 mJ hi hj rfl ho
 refine yR ho hu h1 hp hl fun s' w' h1=>hK s' w' ?_
 have:=back (rest:= []) rfl ho rfl h1
 rw [afH] at this
 have e:(ae.set i (aj s' 2 1 iv (l.take p++xs++l.drop p))).set j u=ae.set i (aj s' 2 1 iv (l.take p++xs++l.drop p)):=Hp.cK (by rw [afY mJ];exact hj)
 rw [e] at this
 exact this
theorem CH {b:Nat} {a:WA} {m:WM} {q:WH} {u:aa} {B:List aa} {tS:aa} {ts:List aa} (hoS:tS.own=true) (bK:a.Ok) (ht:eD a.ks a.row a.m.aJ q.cD) (hk:kinds q.xs=a.ks) (hp:m.au=a.au) (hs:m.aJ=a.m.aJ)
  (h:Hp S w0 w (q.all b m u++B++ [tS,an ts])):Hp S w0 w [tW b a,aX tS (an ts)]:=by
 have h:=jM (rest:= [_,_]) bK ht hk hp hs h.dY
 have h:=h.aL (i:=1) (j:=2) (by decide) rfl rfl hoS (aK _)
 have h:Hp S w0 w ([tW b a,aX tS (an ts)]++ [ao]):=h
 exact h.front
set_option maxHeartbeats 4000000 in
theorem LJ (h:Hp S w0 w ae) (i j:Nat) (mJ:i≠j) {b:Nat} {a:WA} {s:Sl} {ps:List Part} {xs:List PV} {tS:aa} {tE:PV->aa} (hi:ae[i]? =some (tW b a)) (hj:ae[j]? =some (aX tS (an (xs.map tE)))) (iF:xs.map bN=ps) (hoS:tS.own=true) (ZC: ∀x,(tE x).own=true) (hS:Hp.Reads tS s 2 cY xs) (hE: ∀x∈xs,∀{w:World} {O:List Nat},(tE x).holds w O->cA w x.2.1 2 1 iv x.2.2 O) (Fm: ∀x∈ps,-9223372036854775808<=x.1 /\ x.1<=9223372036854775807) (qD: ∀x∈ps,FP.dX x.2) (yG:ps.length<=1000000) {K:Int->Int->Int->World->Prop}
  (hK: ∀w',Hp S w0 w' (ae.set i (tW b (a.spawn ps).1))->K (a.spawn ps).2.1.1 (a.spawn ps).2.1.2 (a.spawn ps).2.2 w'):Ri (some ⟨b,0,none⟩) s w K:=by
 refine Gh ?_
 unfold f15
 obtain⟨O,h1,back⟩:=h.f2 mJ hi hj rfl rfl
 clear h
 obtain⟨q,bK,ht,hk,h⟩:=kC h1
 have h:=h.split (i:=8) rfl hoS (aK _)
 have kD:=WA.vd bK ps qD
 have h:Hp O w w (q.all b a.m ao++ [tS,an (xs.map tE)]):=h
 have cU:(kinds q.xs).length=q.xs.length:=by simp [kinds]
 have gI:=bK.len
 have wo:q.xs.length<=12:=by rw [hk] at cU;omega
 have pa:=bK.four
 have h4: ∀x∈q.xs,x.2.2.length<=4:=fun x hx=>pa (x.1,x.2.2) (by rw [<-hk];exact afQ.2 ⟨x,hx,rfl⟩)
 have kS:xs.length=ps.length:=by rw [<-iF,afP]
 have fin: ∀{w':World} {a':WA},Hp O w w' [tW b a',aX tS (an (xs.map tE))]->Hp S w0 w' (ae.set i (tW b a')):=fun{w' a'} h=>by
  have:=back (rest:= []) rfl rfl rfl h
  rw [afH] at this
  have e:(ae.set i (tW b a')).set j (aX tS (an (xs.map tE)))=ae.set i (tW b a'):=Hp.cK (by rw [afY mJ];exact hj)
  rwa [e] at this
 have eQ:=h.df (u:=tS) 8 rfl hS
 refine h.nw (c:= [_,_]) fun ab w1 h=>?_
 have h:=h.up
 have h:=(h.nil 2 1 iv).up
 refine⟨fun sset values t16 mm w'=> ∃(k:Nat) (p:PL),sset=aG p /\ t16=k /\ k<=xs.length /\ mm=xs.length - k /\ p.fit a.ks /\ aO a.ks (ps.drop k) p=aO a.ks ps a.emp /\ Hp O w w' (q.all b a.m ao++ [aj values 2 1 iv (flat p),ai ab 33 [.int .i64 0,.int .i64 0]]++ [tS,an (xs.map tE)]),⟨xs.length,0,a.emp,by unfold WA.emp;rw [Ab],rfl,by omega,rfl,tv _,rfl,by unfold WA.emp;rw [uQ];exact h⟩,?_⟩
 clear h
 rintro sset values t16 mm w2 ⟨k,p,rfl,rfl,Ei,rfl,bW,dh,h⟩
 have Ba:=hY (show p.length<=12 by rw [bW.1];omega)
 have qH:=hU p
 by_cases ar:k < xs.length
 ·refine aE (by simp;omega) ?_
  have hx:xs[k]? =some xs[k]:=by simp [ar]
  have vZ:ps[k]? =some (bN xs[k]):=by rw [<-iF,afC,hx];rfl
  generalize xs[k]=x at hx vZ
  obtain⟨kd,sv,v⟩:=x
  have vZ:ps[k]? =some (kd,v):=vZ
  have Cm:=Fm _ (afz vZ)
  dsimp only at Cm
  have xi:ps.drop k=(kd,v) :: ps.drop (k+1):=by
   have hl:=(aft.1 vZ).1
   have he:=(aft.1 vZ).2
   rw [<-he];exact agf hl
  rw [xi] at dh
  refine h.vH 10 (u:=tS) rfl hS (by omega) (by simpa using ar) fun y hy=>?_
  rw [afu]
  refine h.pX (k:=.i .i64) (v:=kd) 10 (u:=tS) rfl hS hy aW hx rfl ?_
  refine h.A6 (m:=1) (k:=.sl) (v:=sv) 10 (u:=tS) rfl hS hy aW hx rfl ?_
  refine h.nw (c:= [_,_]) fun pb w3 h=>?_
  have h:Hp O w w3 (q.all b a.m ao++ [aj values 2 1 iv (flat p),ai ab 33 [.int .i64 0,.int .i64 0],tS,an (xs.map tE)]++ [ai pb 36 [.int .i64 0,.slice none 0 0]]):=h
  have h:=h.up
  refine h.iR 8 rfl (by simp) rfl fun w4 h=>?_
  refine h.st (n:=1) 8 rfl (by simp) rfl fun w5 h=>?_
  have h:Hp O w w5 (q.all b a.m ao++ [ai pb 36 [.int .i64 kd,.slice sv.a sv.len sv.cap],aj values 2 1 iv (flat p),ai ab 33 [.int .i64 0,.int .i64 0]]++ [tS,an (xs.map tE)]):=h
  -- a refusal
  have bad: ∀{w6:World} {err:Int},err≠0->(aO a.ks ps a.emp).2=err->Hp O w w6 (q.all b a.m ao++ [ai pb 36 [.int .i64 kd,.slice sv.a sv.len sv.cap],aj values 2 1 iv (flat p),ai ab 33 [.int .i64 0,.int .i64 0]]++ [tS,an (xs.map tE)])->
    (St ⟨ab,0,none⟩ (.int .i64 0) w6 fun w=>St ((⟨ab,0,none⟩:Addr).add 1) (.int .i64 0) w fun w=>Ld (.i .i64) w ⟨ab,0,none⟩ fun(dc:Int)=>Ld (.i .i64) w ((⟨ab,0,none⟩:Addr).add 1) fun(fV:Int)=>K dc fV err w):=by
   intro w6 err aR Mz h
   refine h.iR 10 rfl (by simp) rfl fun w7 h=>?_
   refine h.st (n:=1) 10 rfl (by simp) rfl fun w8 h=>?_
   refine h.cx (k:=.i .i64) (x:=(0:Int)) 10 rfl rfl ?_
   refine h.ld (n:=1) (k:=.i .i64) (x:=(0:Int)) 10 rfl rfl ?_
   have yI:a.spawn ps=(a,(0,0),err):=by unfold WA.spawn;rw [if_pos (by rw [Mz];exact aR),Mz]
   rw [yI] at hK
   have h:Hp O w w8 (q.all b a.m ao++ [ai pb 36 [.int .i64 kd,.slice sv.a sv.len sv.cap],aj values 2 1 iv (flat p),ai ab 33 [.int .i64 0,.int .i64 0]]++ [tS,an (xs.map tE)]):=h
   exact hK w8 (fin (CH hoS bK ht hk rfl rfl h))
  refine h.cx (k:=.i .i64) (x:=kd) 8 rfl rfl ?_
  refine kc h 0 2 3 (cells:= [_,_,_]) rfl rfl rfl (by omega) Cm.1 Cm.2 ?_
  rw [hk]
  cases hf:fl a.ks kd with
  | none=>
   dsimp only
   refine aE rfl (bad (by decide) ?_ h)
   rw [<-dh];unfold aO;dsimp only;rw [hf]
  | some n=>
   dsimp only
   refine aF (by simp) ?_
   refine h.cx (k:=.i .i64) (x:=kd) 8 rfl rfl ?_
   obtain⟨r,kk,rfl,Bg,zK⟩:=Aw hf
   have fv:r < p.length:=by rw [bW.1];exact(aft.1 Bg).1
   have Ax:p.length<=12:=by rw [bW.1];omega
   have er:((((r+1:Nat):Int)) - 1).toNat=r:=by omega
   have kp:=(uN (set:=aG p) (k:=r+1) qH (by omega) (by omega)).trans (nc p r)
   refine⟨by omega,?_⟩
   by_cases hh:(p.getD r none).isSome=true
   ·refine aE (by rw [kp,hh];rfl) (bad (by decide) ?_ h)
    rw [<-dh];unfold aO;dsimp only;rw [hf];dsimp only;rw [er,if_pos hh]
   ·refine aF (by rw [kp,if_neg hh];decide) ?_
    refine h.ld (n:=1) (k:=.sl) (x:=sv) 8 rfl rfl ?_
    have gi:v.length=sv.len:=by
     have:=h.n9 (i:=12) rfl
     obtain⟨O',mv⟩:=this
     obtain⟨O1,O2,g1,_⟩:=dx (k:=k) (t:=tE (((r+1:Nat):Int),sv,v)) (by rw [afC,hx];rfl) mv
     exact(hE _ (afz hx) g1).1
    by_cases hn:v.length=n
    ·refine aF (by simp;omega) ?_
     refine h.dr fun w6 h=>?_
     refine h.cx (k:=.i .i64) (x:=((r+1:Nat):Int)) 8 rfl rfl ?_
     refine h.ld (n:=1) (k:=.sl) (x:=sv) 8 rfl rfl ?_
     refine nS h 0 2 3 (cells:= [_,_,_]) rfl rfl rfl wo h4 qH (by omega) (q:=r) (by rw [bW.1,<-hk,cU] at fv;omega) ?_
     refine⟨h.IZ (n:=1) 8 rfl rfl,?_⟩
     rw [hk]
     have da:p.getD r none=none:=by simpa using hh
     have wi:=bW.at (q:=r) (by omega)
     have Y1:=fR pa (aG p) r
     have bF:=bW.all
     have MA:=fR pa (aG p) a.ks.length
     have QA:=pa _ (afz Bg)
     have hle:eL a.ks (aG p) r<=(flat p).length:=by
      have qD:p[r]? =some none:=by
       have:p[r]? =some p[r]:=by simp [fv]
       rw [this];rw [afO,this] at da;simpa using da
      rw [wi,fh qD];simp
     have h:=h.pick (i:=12) (k:=k) (t:=tE (((r+1:Nat):Int),sv,v)) rfl (by rw [afC,hx];rfl) (ZC _)
     refine IC h 9 13 (by decide) (ZC _) (hE _ (afz hx)) (s:=values) (v:=sv) (l:=flat p) (xs:=v) rfl rfl hle (by omega) fun s' w7 h=>?_
     rw [<-bW.ins fv da v] at h
     have Lr:k < (xs.map tE).length:=by simpa using ar
     have h:=h.mT (i:=12) (j:=13) (k:=k) (ts:=(xs.map tE).set k ao) (t:=tE (((r+1:Nat):Int),sv,v)) (by decide) rfl rfl (by rw [afX Lr]) (ZC _)
     rw [agz] at h
     have eb:(xs.map tE).set k (tE (((r+1:Nat):Int),sv,v))=xs.map tE:=Hp.cK (by rw [afC,hx];rfl)
     rw [eb] at h
     have h:Hp O w w7 (q.all b a.m ao++ [ai pb 36 [.int .i64 ((r+1:Nat):Int),.slice sv.a sv.len sv.cap],aj s' 2 1 iv (flat (p.set r (some v))),ai ab 33 [.int .i64 0,.int .i64 0],tS,an (xs.map tE)]++ [ao]):=h
     have h:=h.front
     refine h.cx (k:=.i .i64) (x:=((r+1:Nat):Int)) 8 rfl rfl ?_
     refine⟨by omega,xs.length - (k+1),by omega,k+1,p.set r (some v),uP Ax fv v,by rw [aB (by omega) (by omega)];omega,by omega,rfl,bW.set Bg (by rw [zK];exact hn),?_,?_⟩
     ·rw [<-dh]
      conv=>rhs;unfold aO
      dsimp only
      rw [hf]
      dsimp only
      rw [er,if_neg hh,if_neg (by simpa using hn)]
     ·have h:Hp O w w7 (q.all b a.m ao++ [ai pb 36 [.int .i64 ((r+1:Nat):Int),.slice sv.a sv.len sv.cap]]++ [aj s' 2 1 iv (flat (p.set r (some v))),ai ab 33 [.int .i64 0,.int .i64 0],tS,an (xs.map tE)]):=h
      exact h.dY
    ·refine aE (by simp;omega) (bad (by decide) ?_ h)
     rw [<-dh];unfold aO;dsimp only;rw [hf];dsimp only;rw [er,if_neg hh,if_pos hn]
 ·refine aF (by simp;omega) ?_
  have dh:(p,(0:Int))=aO a.ks ps a.emp:=by
   rw [agq (by omega)] at dh
   exact dh
  refine bg ?_
  refine h.ld (n:=1) (k:=.p) (x:=some ⟨q.pb,0,none⟩) 0 rfl rfl ?_
  refine FI.Hm h 4 (m:=a.au) bK.u6 rfl fun w3 h=>?_
  have h:Hp O w w3 (q.all b { a.m with au:=a.au.bu.1} ao++ [aj values 2 1 iv (flat p),ai ab 33 [.int .i64 0,.int .i64 0],tS,an (xs.map tE)]):=h
  have HP:(aO a.ks ps a.emp).2=0:=by rw [<-dh]
  have HQ:(aO a.ks ps a.emp).1=p:=by rw [<-dh]
  refine h.nw (c:= [_,_]) fun eb w4 h=>?_
  have h:=h.up
  refine h.iR 8 rfl (by simp) rfl fun w5 h=>?_
  refine h.st (n:=1) 8 rfl (by simp) rfl fun w6 h=>?_
  have yI:a.spawn ps=if a.au.bu.2.2≠0 then (a,(0,0),a.au.bu.2.2) else (⟨a.ks,a.au.bu.1,aH a.row a.au.bu.2.1 (some p)⟩,a.au.bu.2.1,0):=by
   unfold WA.spawn;rw [if_neg (by rw [HP];simp),HQ]
  by_cases hb:a.au.bu.2.2=0
  ·rw [if_neg (by simpa using hb)] at yI
   rw [yI] at hK kD
   dsimp only at hK kD
   obtain⟨HR,HS⟩:=ry bK hb
   generalize a.au.bu.2.1=e at hK HR kD h ⊢
   generalize a.au.bu.1=mj at hK kD h ⊢
   refine aF (by rw [hb];simp) ?_
   have h:Hp O w w6 (q.all b { a.m with au:=mj} ao++ [ai eb 33 [.int .i64 e.1,.int .i64 e.2]]++ [aj values 2 1 iv (flat p)]++ [ai ab 33 [.int .i64 0,.int .i64 0],tS,an (xs.map tE)]):=h
   have h:=h.Li
   refine h.cx (k:=.i .i64) (x:=e.1) 9 rfl rfl ?_
   refine h.ld (n:=1) (k:=.i .i64) (x:=e.2) 9 rfl rfl ?_
   have h:Hp O w w6 (q.all b { a.m with au:=mj} ao++(aj values 2 1 iv (flat p) :: [ai eb 33 [.int .i64 e.1,.int .i64 e.2],ai ab 33 [.int .i64 0,.int .i64 0],tS,an (xs.map tE)])):=h
   have h:=nk h
   refine tx h (row:=a.row) (e:=e) (p:=p) (by rw [hk];exact ht) (by rw [hk];exact bK.may) HR (by rw [hk];exact bW) HS Hp.bX fun T' w7 D3 h=>?_
   refine h.cx (k:=.i .i64) (x:=e.1) 9 rfl rfl ?_
   refine h.ld (n:=1) (k:=.i .i64) (x:=e.2) 9 rfl rfl ?_
   refine h.iR 10 rfl (by simp) rfl fun w8 h=>?_
   refine h.st (n:=1) 10 rfl (by simp) rfl fun w9 h=>?_
   refine h.cx (k:=.i .i64) (x:=e.1) 10 rfl rfl ?_
   refine h.ld (n:=1) (k:=.i .i64) (x:=e.2) 10 rfl rfl ?_
   refine hK w9 (fin ?_)
   refine CH (hoS:=hoS) (B:= [ao,ai eb 33 [.int .i64 e.1,.int .i64 e.2],ai ab 33 [.int .i64 e.1,.int .i64 e.2]]) (m:={ a.m with au:=mj,aJ:=aH a.m.aJ e (some (aG p))}) (q:={ q with T:=T'}) (u:=aj values 2 1 iv (flat p)) kD ?_ hk rfl ?_ h
   ·show eD a.ks (aH a.row e (some p)) (fun x=>(aH a.row e (some p) x).map aG) _
    rw [gG,<-hk]
    exact D3
   ·exact(gG a.row e (some p)).symm
  ·rw [if_pos hb] at yI
   have cX:=(nj bK.u6).1 hb
   rw [yI] at hK
   rw [cX] at hK h ⊢
   refine aE (by simp) ?_
   refine h.iR 10 rfl (by simp) rfl fun w8 h=>?_
   refine h.st (n:=1) 10 rfl (by simp) rfl fun w9 h=>?_
   refine h.cx (k:=.i .i64) (x:=(0:Int)) 10 rfl rfl ?_
   refine h.ld (n:=1) (k:=.i .i64) (x:=(0:Int)) 10 rfl rfl ?_
   have h:Hp O w w9 (q.all b a.m ao++ [ai eb 33 [.int .i64 0,.int .i64 0],aj values 2 1 iv (flat p),ai ab 33 [.int .i64 0,.int .i64 0]]++ [tS,an (xs.map tE)]):=h
   exact hK w9 (fin (CH hoS bK ht hk rfl rfl h))
end
end Go.Proofs.YtcccjgmekakabaaGreat.FW
end

section
namespace Go.Proofs.YtcccjgmekakabaaGreat.FW
open F
open Go Go.Den Go.Proofs
open FI (af ay)
open FT (bM dz aP iv aq)
def CI:PV:=(77,⟨none,0,0⟩,[])
def iU (v:List Int):List Int:=v++List.replicate 8 77
def gP (s:Sl):Sl:=⟨s.a,s.len+8,s.cap⟩
def Fu (x:PV):aa:=aj (gP x.2.1) 2 1 iv (iU x.2.2)
def vM (s:Sl) (xs:List PV):aa:=aX (aj (gP s) 36 2 cY (xs++List.replicate 8 CI)) (an (xs.map Fu))
theorem lq (v:List Int):(iU v).length=v.length+8:=by simp [iU]
theorem ID {s s':Sl} {l h m:Int} {n:Nat} {K:Sl->Prop} (ha:s'.a=s.a) (hc:s'.cap=s.cap) (hh:Cut s' l h m n K):Cut s l h m n K:=by
 unfold Cut at hh ⊢
 rw [ha,hc] at hh
 exact hh
theorem cA.Um {α:Type} {f:α->List Value} {e:TypeId} {n:Nat} (hf: ∀x,(f x).length=n) {w:World} {s:Sl} {l l':List α} {o:List Nat} {m:Nat} (h:cA w ⟨s.a,s.len+m,s.cap⟩ e n f (l++l') o) (hl:l.length=s.len):cA w s e n f l o:=by
 refine⟨hl,?_⟩
 rcases h.2 with ⟨h1,h2,h3,h4⟩ | ⟨b,off,c,h1,h2,h3,h4,h5,h6⟩
 ·exact .inl ⟨h1,by dsimp only at h2;omega,h3,h4⟩
 ·refine .inr ⟨b,off,c,h1,h2,h3,by dsimp only at h4;omega,h5,?_⟩
  have:=congrArg (List.take (s.len*n)) h6
  rw [ah7,ahe (agA _ (by dsimp only;omega)),af5,agT (by rw [iM hf,hl])] at this
  exact this
theorem Q0 {x:PV} (hx:x.2.2.length=x.2.1.len) {w:World} {O:List Nat} (h:(Fu x).holds w O):cA w x.2.1 2 1 iv x.2.2 O:=cA.Um (m:=8) (l':=List.replicate 8 77) aq h hx
theorem IE {s:Sl} {xs:List PV}:Hp.Reads (vM s xs) (gP s) 2 cY (xs++List.replicate 8 CI):=⟨fun{w O} ⟨O1,O2,h1,h2,h3,h4⟩=>⟨O1,cA.toR h1⟩⟩
theorem EZ {s:Sl} {xs:List PV} {x:PV} (hx:x∈xs):Hp.Reads (vM s xs) (gP x.2.1) 1 iv (iU x.2.2):=⟨fun{w O} ⟨O1,O2,h1,h2,h3,h4⟩=>by
 obtain⟨k,hk⟩:=afT hx
 obtain⟨O3,O4,g1,_⟩:=dx (k:=k) (t:=Fu x) (by rw [afC,hk];rfl) h2
 exact⟨O3,cA.toR g1⟩⟩
section
variable {S:List Nat} {w0 w:World} {ae:List aa}
theorem sZ (h:Hp S w0 w ae) {s:Sl} {l:List Int} (hr: ∃o,cf w s 1 iv l o) (hl:l.length<=10000000) {K:Sl->World->Prop}
  (hK: ∀r w',r.len=l.length->r.len+8<=r.cap->Hp S w0 w' (ae++ [aj (gP r) 2 1 iv (iU l)])->K r w'):W0 s w K:=by
 refine PB ?_
 unfold f76
 obtain⟨inf,q1,q2,q3,q4⟩:=FT.jC
 obtain⟨o,yc⟩:=hr
 have eQ:=yc.len
 have g:=((Hp.qY w).ey (t:=kG s 1 iv l) yc (by simp)).nil 2 1 iv
 have g:Hp [] w w [(kG s 1 iv l).ro,aj ⟨none,0,0⟩ 2 1 iv []]:=g
 refine g.gY 1 0 (s:=⟨none,0,0⟩) (s2:=s) (u:=(kG s 1 iv l).ro) rfl rfl (qx Hp.D7) aq FT.eO q1 q3 q2 rfl (by simp [iv,Value.oneCell']) (by rw [q4];show (0+s.len)*8<=_;omega) (by show 0+s.len<=_;omega) fun out w1 g kA _=>?_
 have g:Hp [] w w1 [(kG s 1 iv l).ro,aj out 2 1 iv l]:=g
 refine⟨fun out t mm w'=> ∃k:Nat,t=k /\ k<=8 /\ mm=8 - k /\ Hp [] w w' [(kG s 1 iv l).ro,aj out 2 1 iv (l++List.replicate k 77)],⟨8,0,rfl,by omega,rfl,by simpa using g⟩,?_⟩
 clear g
 rintro out t mm w2 ⟨k,rfl,hk,rfl,g⟩
 have kA:=g.len (s:=out) (e:=2) (n:=1) (f:=iv) (l:=l++List.replicate k 77) 1 rfl
 rw [afw,agN] at kA
 by_cases ar:k < 8
 ·refine aE (by simp;omega) ?_
  refine g.bL 1 (77:Int) (c:= [_]) rfl aq FT.eO q1 q3 q2 rfl rfl (by simp [iv,Value.oneCell']) (by rw [q4];omega) (by omega) fun bH w3 g _ _=>?_
  refine⟨8 - (k+1),by omega,k+1,by rw [aB (by omega) (by omega)];omega,by omega,rfl,?_⟩
  rw [ahG,<-afA]
  exact g
 ·refine aF (by simp;omega) ?_
  obtain rfl:k=8:=by omega
  have dF:=g.cap (s:=out) (e:=2) (n:=1) (f:=iv) (l:=l++List.replicate 8 77) 1 rfl
  refine EK g 1 (s0:=out) rfl rfl (by omega) (by omega) (by simp) ?_
  rw [afu,afu]
  refine hK ⟨out.a,s.len,out.cap⟩ w2 (by dsimp only;omega) (by dsimp only;omega) ?_
  have e:gP ⟨out.a,s.len,out.cap⟩=out:=by
   unfold gP
   dsimp only
   rw [show s.len+8=out.len by omega]
  rw [e]
  exact h.r0 (rest:= [aj out 2 1 iv (iU l)]) rfl (g.oV 1 rfl)
set_option maxHeartbeats 4000000 in
theorem E0 (h:Hp S w0 w ae) {s:Sl} {l:List Part} (hr:vK w s l) (hl:l.length<=10000000) (hv: ∀x∈l,x.2.length<=10000000) {K:Sl->World->Prop}
  (hK: ∀r xs w',xs.map bN=l->xs.length=r.len->(∀x∈xs,x.2.2.length=x.2.1.len /\ x.2.1.len+8<=x.2.1.cap)->r.len+8<=r.cap->Hp S w0 w' (ae++ [vM r xs])->K r w'):WL s w K:=by
 refine Ow ?_
 unfold f24
 obtain⟨inf,i1,i2,i3,i4⟩:=xC
 obtain⟨ys,O,rfl,hO⟩:=hr.DF
 rw [afP] at hl
 have hu:(iN s ys).ro.holds=(iN s ys).holds:=rfl
 have g:=((Hp.qY w).ey hO (by simp)).nil 36 2 cY
 have eQ:=g.df (u:=(iN s ys).ro) 0 rfl (bT hu)
 have g:=g.grow (Fr.refl _ _) (t:=an (([]:List PV).map Fu)) (O:= []) rfl (by simp) rfl
 refine⟨fun out t mm w'=> ∃(k:Nat) (xs:List PV),t=k /\ k<=ys.length /\ mm=ys.length - k /\ xs.length=k /\ xs.map bN=(ys.take k).map bN /\ (∀x∈xs,x.2.2.length=x.2.1.len /\ x.2.1.len+8<=x.2.1.cap) /\ Hp [] w w' [(iN s ys).ro,aj out 36 2 cY xs,an (xs.map Fu)],⟨ys.length,0,[],rfl,by omega,rfl,rfl,rfl,by simp,g⟩,?_⟩
 clear g
 rintro out t mm w1 ⟨k,xs,rfl,hk,rfl,kS,vL,qz,g⟩
 have kA:=g.len (s:=out) (e:=36) (n:=2) (f:=cY) (l:=xs) 1 rfl
 by_cases ar:k < ys.length
 ·refine aE (by simp;omega) ?_
  have hy:ys[k]? =some ys[k]:=by simp [ar]
  have I5:ys[k]∈ys:=afR ar
  have Y9:ys[k].2.2.length<=10000000:=hv (bN ys[k]) (afQ.2 ⟨_,I5,rfl⟩)
  have cX:ys.take (k+1)=ys.take k++ [ys[k]]:=afG ar
  generalize ys[k]=y at hy I5 Y9 cX
  refine g.dr fun w2 g=>?_
  refine g.vH 0 (u:=(iN s ys).ro) rfl (bT hu) (by omega) (by simpa using ar) fun a ha=>?_
  rw [afu]
  refine g.pX (k:=.i .i64) (v:=y.1) 0 (u:=(iN s ys).ro) rfl (bT hu) ha aW hy rfl ?_
  refine g.vH 0 (u:=(iN s ys).ro) rfl (bT hu) (by omega) (by simpa using ar) fun a2 Dx=>?_
  rw [afu]
  refine g.A6 (m:=1) (k:=.sl) (v:=y.2.1) 0 (u:=(iN s ys).ro) rfl (bT hu) Dx aW hy rfl ?_
  have xD: ∃o,cf w2 y.2.1 1 iv y.2.2 o:=by
   obtain⟨O',mv⟩:=g.n9 (i:=0) rfl
   exact(lj hu I5).rd mv
  refine sZ g xD (by omega) fun r w3 fv hrc g=>?_
  have g:Hp [] w w3 [(iN s ys).ro,aj out 36 2 cY xs,an (xs.map Fu),Fu (y.1,r,y.2.2)]:=g
  refine⟨g.C6 0 (u:=(iN s ys).ro) rfl (bT hu) ha aW hy rfl,?_⟩
  refine g.bL 1 ((y.1,r,y.2.2):PV) (c:= [_,_]) rfl aW qj i1 i3 i2 rfl rfl (by simp [cY,Value.oneCell']) (by rw [i4];omega) (by omega) fun bH w4 g _ _=>?_
  have g:=ns g (i:=2) (j:=3) (sub:=Fu) (ys:=xs) (y:=((y.1,r,y.2.2):PV)) (by decide) rfl rfl rfl
  have g:Hp [] w w4 ([(iN s ys).ro,aj bH 36 2 cY (xs++ [((y.1,r,y.2.2):PV)]),an ((xs++ [((y.1,r,y.2.2):PV)]).map Fu)]++ [ao]):=g
  refine⟨ys.length - (k+1),by omega,k+1,xs++ [(y.1,r,y.2.2)],by rw [aB (by omega) (by omega)];omega,by omega,rfl,by simp [kS],by rw [cX,agh,agh,vL];rfl,fun x hx=>?_,g.front⟩
  rcases afB.1 hx with hx | hx
  ·exact qz x hx
  ·simp only [afF] at hx
   subst hx
   exact⟨fv.symm,hrc⟩
 ·refine aF (by simp;omega) ?_
  obtain rfl:k=ys.length:=by omega
  rw [agJ] at vL
  refine⟨fun out t mm w'=> ∃k:Nat,t=k /\ k<=8 /\ mm=8 - k /\ Hp [] w w' [(iN s ys).ro,aj out 36 2 cY (xs++List.replicate k CI),an (xs.map Fu)],⟨8,0,rfl,by omega,rfl,by simpa using g⟩,?_⟩
  clear g
  rintro out t mm w2 ⟨k,rfl,hk,rfl,g⟩
  have kA:=g.len (s:=out) (e:=36) (n:=2) (f:=cY) (l:=xs++List.replicate k CI) 1 rfl
  rw [afw,agN] at kA
  by_cases ar:k < 8
  ·refine aE (by simp;omega) ?_
   refine g.bL 1 CI (c:= [_,_]) rfl aW qj i1 i3 i2 rfl rfl (by simp [cY,Value.oneCell']) (by rw [i4];omega) (by omega) fun bH w3 g _ _=>?_
   refine⟨8 - (k+1),by omega,k+1,by rw [aB (by omega) (by omega)];omega,by omega,rfl,?_⟩
   rw [ahG,<-afA]
   exact g
  ·refine aF (by simp;omega) ?_
   obtain rfl:k=8:=by omega
   have dF:=g.cap (s:=out) (e:=36) (n:=2) (f:=cY) (l:=xs++List.replicate 8 CI) 1 rfl
   refine EK g 1 (s0:=out) rfl rfl (by omega) (by omega) (by simp) ?_
   rw [afu,afu]
   have e:out=gP ⟨out.a,s.len,out.cap⟩:=by
    unfold gP
    dsimp only
    rw [show s.len+8=out.len by omega]
   have g:Hp [] w w2 [(iN s ys).ro,aj (gP ⟨out.a,s.len,out.cap⟩) 36 2 cY (xs++List.replicate 8 CI),an (xs.map Fu)]:=by rw [<-e];exact g
   have g:=g.aL (i:=1) (j:=2) (by omega) rfl rfl rfl (aK _)
   have g:Hp [] w w2 [(iN s ys).ro,vM ⟨out.a,s.len,out.cap⟩ xs,ao]:=g
   exact hK ⟨out.a,s.len,out.cap⟩ xs w2 vL (by dsimp only;omega) qz (by dsimp only;omega) (h.r0 (rest:= [vM ⟨out.a,s.len,out.cap⟩ xs]) rfl (g.oV 1 rfl))
theorem rN {l dG:Sl} {v:List Int} (ha: ∃o,cf w (gP l) 1 iv (iU v) o) (hb: ∃o,cf w dG 1 iv v o) (S4:l.len+8<=l.cap) (gi:v.length<=10000000) {K:Bool->World->Prop} (hK:K true w):W2 l dG w K:=by
 refine PF ?_
 unfold f83
 obtain⟨oa,hA⟩:=ha
 obtain⟨ob,hB⟩:=hb
 have gI:=hA.len
 have qB:=hB.len
 rw [lq] at gI
 have gI:v.length+8=l.len+8:=gI
 refine⟨fun w'=>w=w',?_,?_⟩
 ·refine aF (by simp;omega) (aF (by rw [aB (by omega) (by omega)];simp;omega) rfl)
 rintro w' rfl
 have e0:IntKind.i64.wrap ((dG.len:Int)+8)=((l.len+8:Nat):Int):=by rw [aB (by omega) (by omega)];omega
 rw [e0]
 have hu:Hp.Reads (kG (gP l) 1 iv (iU v)) (gP l) 1 iv (iU v):=Hp.D7
 refine ID (s':=gP l) rfl rfl ?_
 refine Hp.jT hu (by rw [lq];exact gI) aq (by omega) (by omega) (by omega) (agr _) (by show _<=((l.len+8:Nat):Int);omega) fun s2 jO yH jE=>?_
 have e1:((iU v).take ((l.len+8:Nat):Int).toNat).drop (0:Int).toNat=iU v:=by
  rw [afu,afE (by rw [lq];omega)];rfl
 rw [e1] at jO
 rw [afu] at yH
 have yH:s2.len=l.len+8:=by rw [yH];simp
 obtain⟨o2,Fq⟩:=jO.rd hA
 refine⟨fun t mm w'=> ∃k:Nat,t=k /\ k<=l.len+8 /\ mm=l.len+8 - k /\ w=w',⟨l.len+8,0,rfl,by omega,rfl,rfl⟩,?_⟩
 rintro t mm w' ⟨k,rfl,hk,rfl,rfl⟩
 by_cases ar:k < l.len+8
 ·refine aE (by simp;omega) ?_
  have hx:(iU v)[k]? =some ((iU v)[k]'(by rw [lq];omega)):=afD _
  generalize qz:(iU v)[k]'(by rw [lq];omega)=x at hx
  refine⟨fun want w'=>want=x /\ w=w',?_,?_⟩
  ·by_cases I4:k < v.length
   ·refine aE (by simp;omega) ?_
    have I3:v[k]? =some x:=by rw [<-hx];unfold iU;rw [afx I4]
    refine cf.ix aq hB (by omega) (x:=x) (by rw [afu];exact I3) fun ad hc=>?_
    exact ep (k:=.i .i64) (x:=x) (hc 0 (by omega)) rfl ⟨rfl,rfl⟩
   ·refine aF (by simp;omega) ⟨?_,rfl⟩
    unfold iU at hx
    rw [afv (by omega),ahd] at hx
    split at hx
    ·exact afK hx
    ·cases hx
  ·rintro want w' ⟨rfl,rfl⟩
   refine cf.ix aq Fq (by omega) (x:=want) (by rw [afu];exact hx) fun ad hc=>?_
   refine ep (k:=.i .i64) (x:=want) (hc 0 (by omega)) rfl ?_
   exact aF (by simp) ⟨l.len+8 - (k+1),by omega,k+1,by rw [aB (by omega) (by omega)];omega,by omega,rfl,rfl⟩
 ·exact aF (by simp;omega) hK
set_option maxHeartbeats 4000000 in
theorem CJ (h:Hp S w0 w ae) (i:Nat) {s dG:Sl} {xs:List PV} {l:List Part} (hi:(ae[i]?).map aa.holds=some (vM s xs).holds) (hr:vK w dG l) (kS:xs.map bN=l) (iF:xs.length=s.len) (qz: ∀x∈xs,x.2.2.length=x.2.1.len /\ x.2.1.len+8<=x.2.1.cap) (dF:s.len+8<=s.cap) (hl:l.length<=10000000) (hv: ∀x∈l,x.2.length<=10000000) {K:Bool->World->Prop}
  (hK: ∀w',Hp S w0 w' ae->K true w'):WZ s dG w K:=by
 refine PA ?_
 unfold f75
 obtain⟨ys,O,wP,hO⟩:=hr.DF
 have y7:(iN dG ys).ro.holds=(iN dG ys).holds:=rfl
 have g:=(h.IY hi).ey hO (by simp)
 have g:Hp [] w w [(vM s xs).ro,(iN dG ys).ro]:=g
 have RI:=g.df (u:=(iN dG ys).ro) 1 rfl (bT y7)
 have vI:ys.length=xs.length:=by
  have:=congrArg List.length (wP.trans kS.symm)
  simpa using this
 have A3:xs.length=l.length:=by rw [<-kS,afP]
 have e0:IntKind.i64.wrap ((dG.len:Int)+8)=((s.len+8:Nat):Int):=by rw [aB (by omega) (by omega)];omega
 rw [e0]
 have rl:Hp.Reads (vM s xs).ro (gP s) 2 cY (xs++List.replicate 8 CI):=qx IE
 refine ID (s':=gP s) rfl rfl ?_
 refine Hp.jT rl (by simp [gP];omega) aW (by omega) (by omega) (by omega) (agr _) (by show _<=((s.len+8:Nat):Int);omega) fun s2 jO yH jE=>?_
 have e1:((xs++List.replicate 8 CI).take ((s.len+8:Nat):Int).toNat).drop (0:Int).toNat=xs++List.replicate 8 CI:=by
  rw [afu,afE (by simp;omega)];rfl
 rw [e1] at jO
 rw [afu] at yH
 have yH:s2.len=s.len+8:=by rw [yH];simp
 refine⟨fun t mm w'=> ∃k:Nat,t=k /\ k<=s.len+8 /\ mm=s.len+8 - k /\ Hp [] w w' [(vM s xs).ro,(iN dG ys).ro],⟨s.len+8,0,rfl,by omega,rfl,g⟩,?_⟩
 clear g
 rintro t mm w1 ⟨k,rfl,hk,rfl,g⟩
 by_cases ar:k < s.len+8
 ·refine aE (by simp;omega) ?_
  by_cases I4:s.len<=k
  ·refine aE (by simp;omega) ?_
   have hx:(xs++List.replicate 8 CI)[k]? =some CI:=by
    rw [afv (by omega),ahd,if_pos (by omega)]
   refine g.vH 0 (u:=(vM s xs).ro) rfl jO (by omega) (by simp;omega) fun a ha=>?_
   rw [afu]
   refine g.pX (k:=.i .i64) (v:=(77:Int)) 0 (u:=(vM s xs).ro) rfl jO ha aW hx rfl ?_
   refine aF (by simp) ?_
   refine g.vH 0 (u:=(vM s xs).ro) rfl jO (by omega) (by simp;omega) fun a ha=>?_
   rw [afu]
   refine g.A6 (m:=1) (k:=.sl) (v:=⟨none,0,0⟩) 0 (u:=(vM s xs).ro) rfl jO ha aW hx rfl ?_
   exact aF (by simp) ⟨s.len+8 - (k+1),by omega,k+1,by rw [aB (by omega) (by omega)];omega,by omega,rfl,g⟩
  ·refine aF (by simp;omega) ?_
   have vL:xs[k]? =some (xs[k]'(by omega)):=afD _
   have Bb:ys[k]? =some (ys[k]'(by omega)):=afD _
   have G2:bN (xs[k]'(by omega))=bN (ys[k]'(by omega)):=by
    have e:=congrArg (fun L=>L[k]?) (kS.trans wP.symm)
    simp only [afC,vL,Bb,agy] at e
    exact afK e
   generalize xs[k]'(by omega)=x at vL G2
   generalize ys[k]'(by omega)=y at Bb G2
   have hx:(xs++List.replicate 8 CI)[k]? =some x:=by rw [afx (by omega)];exact vL
   have jU:=afz vL
   have I5:=afz Bb
   have ZD:x.1=y.1:=(agK G2).1
   have ZE:x.2.2=y.2.2:=(agK G2).2
   have I3:=hv (bN x) (by rw [<-kS];exact afQ.2 ⟨x,jU,rfl⟩)
   refine g.dr fun w2 g=>?_
   refine g.vH 0 (u:=(vM s xs).ro) rfl jO (by omega) (by simp;omega) fun a ha=>?_
   rw [afu]
   refine g.A6 (m:=1) (k:=.sl) (v:=x.2.1) 0 (u:=(vM s xs).ro) rfl jO ha aW hx rfl ?_
   refine g.vH 1 (u:=(iN dG ys).ro) rfl (bT y7) (by omega) (by rw [afu];omega) fun a4 Yq=>?_
   rw [afu]
   refine g.A6 (m:=1) (k:=.sl) (v:=y.2.1) 1 (u:=(iN dG ys).ro) rfl (bT y7) Yq aW Bb rfl ?_
   refine rN (v:=x.2.2) ?_ ?_ (qz x jU).2 I3 ?_
   ·obtain⟨O',mv⟩:=g.n9 (i:=0) rfl
    exact(EZ jU).rd mv
   ·obtain⟨O',mv⟩:=g.n9 (i:=1) rfl
    rw [ZE]
    exact(lj y7 I5).rd mv
   refine g.dr fun w3 g=>aF (by simp) ?_
   refine g.vH 0 (u:=(vM s xs).ro) rfl jO (by omega) (by simp;omega) fun a5 ha5=>?_
   rw [afu]
   refine g.pX (k:=.i .i64) (v:=x.1) 0 (u:=(vM s xs).ro) rfl jO ha5 aW hx rfl ?_
   refine g.vH 1 (u:=(iN dG ys).ro) rfl (bT y7) (by omega) (by rw [afu];omega) fun a6 ha6=>?_
   rw [afu]
   refine g.pX (k:=.i .i64) (v:=y.1) 1 (u:=(iN dG ys).ro) rfl (bT y7) ha6 aW Bb rfl ?_
   exact aF (by rw [ZD];simp) ⟨s.len+8 - (k+1),by omega,k+1,by rw [aB (by omega) (by omega)];omega,by omega,rfl,g⟩
 ·exact aF (by simp;omega) (hK w1 (h.cB g.fr))
end
end Go.Proofs.YtcccjgmekakabaaGreat.FW
end

section
namespace Go.Proofs.YtcccjgmekakabaaGreat.FW
open F
open Go Go.Den Go.Proofs
open FT (iv aq)
section
variable {S:List Nat} {w0 w:World} {ae:List aa}
theorem vA {n:Nat} {g:Int->List Value} {D:List LM} {l c:Sl} {m:Int} {p r:Nat} (h:Hp S w0 w ae) {i j:Nat} (aR:i≠j) (hi:ae[i]? =some (eg n g D)) (hj:ae[j]? =some (GX (kG l n g (List.replicate p m)) (kG c n g (List.replicate r m)))) (hp:l.len=p) (hr:c.len=r):
  Hp S w0 w ((ae.set i (eg n g (D++ [(l,m),(c,m)]))).set j ao):=
 h.join (c:=eg n g (D++ [(l,m),(c,m)])) aR hi hj rfl rfl rfl (fun w O1 O2 q1 q2 q3=>by
  obtain⟨O3,O4,r1,r2,r3⟩:=q2
  refine⟨fun k hk=>?_,fun x hx=>?_⟩
  ·rcases afB.1 hk with hk | hk
   ·exact q1.1 k hk
   ·rcases(r3 k).1 hk with hk | hk
    ·exact(kG l n g (List.replicate p m)).lt r1 k hk
    ·exact(kG c n g (List.replicate r m)).lt r2 k hk
  ·rcases afB.1 hx with hx | hx
   ·exact(q1.2 x hx).mono fun k hk=>agZ _ hk
   ·simp only [af1,aha,or_false] at hx
    rcases hx with rfl | rfl
    ·exact⟨O3,by rw [hp];exact r1,fun k hk=>ahj _ ((r3 k).2 (.inl hk))⟩
    ·exact⟨O4,by rw [hr];exact r2,fun k hk=>ahj _ ((r3 k).2 (.inr hk))⟩)
theorem vB {n:Nat} {g:Int->List Value} {D D':List LM} (h:Hp S w0 w ae) {i:Nat} (hi:ae[i]? =some (eg n g D)) (hd: ∀x∈D',x∈D):Hp S w0 w (ae.set i (eg n g D')):=
 h.sU hi rfl (fun w O hO=>⟨hO.1,fun x hx=>hO.2 x (hd x hx)⟩) rfl
structure GS (n:Nat) (ec new G D:List LM) (ts us:List aa) (k:Nat):Prop where
 hk:k<=new.length
 g:G.length=k
 d: ∀x∈ec++new.take k++G,x∈D
 t:ts.drop k=us.drop k
 l: ∀x∈G,x.1.len<=20000
set_option maxHeartbeats 16000000 in
theorem vC (h:Hp S w0 w ae) (i:Nat) {bp:Nat} {p:PC} {N M:Nat} (hi:ae[i]? =some (bw bp p N M)) (hN:N+2*M<=1000000000)
  {K:World->Prop} (hK: ∀w',Hp S w0 w' (ae.set i (bw bp p (N+2*M) 0))->K w'):Vc (some ⟨bp,6,none⟩) w K:=by
 refine Pf ?_
 unfold f51
 obtain⟨adS,a1,a2,a3,a4⟩:=AJ
 obtain⟨aa0,b1,b2,b3,b4⟩:=H7
 obtain⟨adT,d1,d2,d3,d4⟩:=MH
 obtain⟨adU,i1,i2,i3,i4⟩:=FT.lN
 obtain⟨adV,j1,j2,j3,j4⟩:=jC
 obtain⟨aa1,e1,e2,e3,e4⟩:=xC
 obtain⟨aa2,u1,u2,u3,u4⟩:=vc
 obtain⟨O,h1,back⟩:=h.f1 hi rfl
 clear h
 have h:=h1
 clear h1
 obtain⟨⟨⟨vV,xV,bA,cN⟩,⟨vP,xP,bB,bU⟩,⟨vR,xR,bJ,bq⟩⟩,⟨⟨fV1,fV2,fV3,ZF⟩,⟨fP1,fP2,fP3,ZG⟩,⟨fR1,fR2,fR3,ZH⟩⟩,h⟩:=jr h (i:=0) rfl
 dsimp only at fV1 fV2 fV3 ZF fP1 fP2 fP3 ZG fR1 fR2 fR3 ZH
 -- phase V
 have h:=fo h (i:=1) rfl
 have h:Hp O w w [ai bp 53 (BK.cells ⟨⟨vV,xV,bA,cN⟩,⟨vP,xP,bB,bU⟩,⟨vR,xR,bJ,bq⟩⟩ p),aj vV 34 1 ly (bA++cN),eS ⟨vP,xP,bB,bU⟩,eT ⟨vR,xR,bJ,bq⟩,aj xV 2 1 ml (bA++cN),eg 1 iv bA,an (cN.map (pend 2 1 iv))]:=h
 have gi:=h.len (s:=vV) 1 rfl
 have kS:=h.len (s:=xV) 4 rfl
 rw [afw] at gi kS
 refine bg ?_
 refine h.GK (k:=.sl) (x:=vV) 0 rfl rfl ?_
 refine bg ?_
 refine h.pV (n:=6) (m:=6) (k:=.i .i64) (x:=(bA.length:Nat)) 0 rfl rfl ?_
 refine⟨fun t mm w'=> ∃(k:Nat) (v x:Sl) (G D:List LM) (ts:List aa),t=((bA.length+k:Nat):Int) /\ GS 1 bA cN G D ts (cN.map (pend 2 1 iv)) k /\ mm=cN.length - k /\ Hp O w w' [ai bp 53 (BK.cells ⟨⟨v,x,bA,cN⟩,⟨vP,xP,bB,bU⟩,⟨vR,xR,bJ,bq⟩⟩ p),aj v 34 1 ly (bA++cN++G),eS ⟨vP,xP,bB,bU⟩,eT ⟨vR,xR,bJ,bq⟩,aj x 2 1 ml (bA++cN++G),eg 1 iv D,an ts],
  ⟨cN.length,0,vV,xV,[],bA,cN.map (pend 2 1 iv),rfl,⟨by omega,rfl,by simp,rfl,by simp⟩,rfl,by rw [afH];exact h⟩,?_⟩
 clear h
 rintro t mm w2 ⟨k,v,x,G,D,ts,rfl,hg,rfl,h⟩
 by_cases ar:k < cN.length
 ·refine aE (by simp;omega) ?_
  have Be:=hg.g
  have AV:=h.len (s:=v) 1 rfl
  have IF:=h.len (s:=x) 4 rfl
  rw [afw,afw] at AV IF
  have hx:(bA++cN++G)[bA.length+k]? =some cN[k]:=by
   rw [afx (by rw [afw];omega),afv (by omega),agI];simp [ar]
  have ht:ts[k]? =some (pend 2 1 iv cN[k]):=by
   have e:=congrArg (fun L=>L[0]?) hg.t
   simpa [ar] using e
  have kF:=ZF _ (afR ar)
  have cX:cN.take (k+1)=cN.take k++ [cN[k]]:=by rw [ag5];simp [ar]
  generalize cN[k]=y at hx ht kF cX
  obtain⟨l,m⟩:=y
  dsimp only at kF
  refine bg ?_
  refine h.GK (k:=.sl) (x:=v) 0 rfl rfl ?_
  refine h.e9 (k:=.sl) (y:=((l,m):LM)) (x:=l) 1 rfl (by omega) (by rw [afu];exact hx) jf rfl ?_
  have h:=h.pick (i:=6) (k:=k) rfl ht rfl
  have h:=h.uH (j:=7) (l:=l) (e:=2) (n:=1) (f:=iv) (y:=m) (p:=l.len) rfl
  have h:Hp O w w2 [ai bp 53 (BK.cells ⟨⟨v,x,bA,cN⟩,⟨vP,xP,bB,bU⟩,⟨vR,xR,bJ,bq⟩⟩ p),aj v 34 1 ly (bA++cN++G),eS ⟨vP,xP,bB,bU⟩,eT ⟨vR,xR,bJ,bq⟩,aj x 2 1 ml (bA++cN++G),eg 1 iv D,an (ts.set k ao),Ed 2 1 iv l l m l.len l.len]:=h
  refine⟨fun l2 t mm w'=> ∃q:Nat,t=q /\ q<=70 /\ mm+q=70 /\ Hp O w w' [ai bp 53 (BK.cells ⟨⟨v,x,bA,cN⟩,⟨vP,xP,bB,bU⟩,⟨vR,xR,bJ,bq⟩⟩ p),aj v 34 1 ly (bA++cN++G),eS ⟨vP,xP,bB,bU⟩,eT ⟨vR,xR,bJ,bq⟩,aj x 2 1 ml (bA++cN++G),eg 1 iv D,an (ts.set k ao),Ed 2 1 iv l l2 m l.len (l.len+q)],⟨70,0,rfl,by omega,by omega,h⟩,?_⟩
  clear h
  rintro l2 t mm w3 ⟨q,rfl,hq,Rh,h⟩
  have fin:NN (some ⟨bp,6,none⟩) fun(OW:Addr)=>
 Ld .sl w3 OW fun(v3:Sl)=>
 Nw (.cells #[.slice l2.a l2.len l2.cap] 34) w3 fun(b3:Addr) wz=>
 bZ .sl Tryz.prog (Builtin.append_ #[46,46] 46 #[.slice v3.a v3.len v3.cap,.slice (some b3) 1 1]) wz fun(s:Sl) wz=>
 NN (some ⟨bp,6,none⟩) fun(Xh:Addr)=>
 St Xh (.slice s.a s.len s.cap) wz fun wz=>
 Dr wz fun wz=>
 NN (some ⟨bp,6,none⟩) fun(Xi:Addr)=>
 Ld .sl wz (Xi.add 3) fun(x3:Sl)=>
 NN (some ⟨bp,6,none⟩) fun(Xj:Addr)=>
 Ld .sl wz (Xj.add 3) fun(x4:Sl)=>
 Ix x4.a x4.len ((bA.length+k:Nat):Int) 1 fun(a3:Addr)=>
 Ld (.i .i64) wz a3 fun(x5:Int)=>
 Nw (.cells #[.int .i64 x5] 2) wz fun(b4:Addr) wz=>
 bZ .sl Tryz.prog (Builtin.append_ #[34,34] 34 #[.slice x3.a x3.len x3.cap,.slice (some b4) 1 1]) wz fun(s2:Sl) wz=>
 NN (some ⟨bp,6,none⟩) fun(OX:Addr)=>
 St (OX.add 3) (.slice s2.a s2.len s2.cap) wz fun wz=>
 ∃m2:Nat,m2 < cN.length - k /\ ∃(k':Nat) (v x:Sl) (G D:List LM) (ts:List aa),IntKind.i64.wrap (((bA.length+k:Nat):Int)+1)=((bA.length+k':Nat):Int) /\ GS 1 bA cN G D ts (cN.map (pend 2 1 iv)) k' /\ m2=cN.length - k' /\ Hp O w wz [ai bp 53 (BK.cells ⟨⟨v,x,bA,cN⟩,⟨vP,xP,bB,bU⟩,⟨vR,xR,bJ,bq⟩⟩ p),aj v 34 1 ly (bA++cN++G),eS ⟨vP,xP,bB,bU⟩,eT ⟨vR,xR,bJ,bq⟩,aj x 2 1 ml (bA++cN++G),eg 1 iv D,an ts]:=by
   have qA:=(h.yu (e:=2) (n:=1) (f:=iv) (l:=l) (c:=l2) (y:=m) (p:=l.len) (m:=l.len+q) 7 rfl).1
   have h:=h.yt (j:=7) (e:=2) (n:=1) (f:=iv) (l:=l) (c:=l2) (y:=m) (p:=l.len) (m:=l.len+q) rfl
   have h:=vA h (i:=5) (j:=7) (by decide) rfl rfl rfl qA
   refine bg ?_
   refine h.GK (k:=.sl) (x:=v) 0 rfl rfl ?_
   refine h.bL 1 ((l2,m):LM) (c:= [_]) rfl jf ME a1 a3 a2 rfl rfl (by simp [Value.oneCell']) (by rw [a4];omega) (by omega) fun s wa h hs _=>?_
   refine bg ?_
   refine h.PW 0 rfl (by simp) rfl fun wb h=>?_
   refine h.dr fun wc h=>?_
   refine bg ?_
   refine h.pV (n:=6) (m:=3) (k:=.sl) (x:=x) 0 rfl rfl ?_
   refine bg ?_
   refine h.pV (n:=6) (m:=3) (k:=.sl) (x:=x) 0 rfl rfl ?_
   refine h.e9 (k:=.i .i64) (y:=((l,m):LM)) (x:=m) 4 rfl (by omega) (by rw [afu];exact hx) fO rfl ?_
   refine h.bL 4 ((l2,m):LM) (c:= [_]) rfl fO H6 j1 j3 j2 rfl rfl (by simp [Value.oneCell']) (by rw [j4];omega) (by omega) fun s2 wd h jO _=>?_
   refine bg ?_
   refine h.A7 (m:=3) 0 rfl (by simp) rfl fun we h=>?_
   rw [afA (bA++cN) G] at h
   have h:Hp O w we [ai bp 53 (BK.cells ⟨⟨s,s2,bA,cN⟩,⟨vP,xP,bB,bU⟩,⟨vR,xR,bJ,bq⟩⟩ p),aj s 34 1 ly (bA++cN++(G++ [(l2,m)])),eS ⟨vP,xP,bB,bU⟩,eT ⟨vR,xR,bJ,bq⟩,aj s2 2 1 ml (bA++cN++(G++ [(l2,m)])),eg 1 iv (D++ [(l,m),(l2,m)]),an (ts.set k ao)]:=h.trim 7
   refine⟨cN.length - (k+1),by omega,k+1,s,s2,G++ [(l2,m)],D++ [(l,m),(l2,m)],ts.set k ao,by rw [aB (by omega) (by omega)];omega,⟨by omega,by simp [Be],fun y hy=>?_,by
    rw [agG (by omega),<-agk,hg.t,agk],fun y hy=>?_⟩,rfl,h⟩
   ·rw [cX] at hy
    simp only [afB,af1,aha,or_false] at hy ⊢
    have:=hg.d y
    simp only [afB] at this
    rcases hy with (hy | hy | hy) | hy | hy
    ·exact .inl (this (.inl (.inl hy)))
    ·exact .inl (this (.inl (.inr hy)))
    ·exact .inr (.inl hy)
    ·exact .inl (this (.inr hy))
    ·exact .inr (.inr hy)
   ·rcases afB.1 hy with hy | hy
    ·exact hg.l y hy
    ·simp only [afF] at hy
     subst hy
     show l2.len<=20000
     omega
  refine bg ?_
  refine h.pV (n:=6) (m:=6) (k:=.i .i64) (x:=(bA.length:Nat)) 0 rfl rfl ?_
  refine AK fun r hr=>?_
  by_cases hqr:q < r
  ·refine aE (by simp;omega) ?_
   refine bg ?_
   refine h.pV (n:=6) (m:=3) (k:=.sl) (x:=x) 0 rfl rfl ?_
   refine h.e9 (k:=.i .i64) (y:=((l,m):LM)) (x:=m) 4 rfl (by omega) (by rw [afu];exact hx) fO rfl ?_
   refine h.BW 7 m (e':=2) (c':=1) (l:=l) (c:=l2) (p:=l.len) (m:=l.len+q) (cs:=iv m) rfl aq H6 j1 j3 j2 rfl rfl (by simp [iv,Value.oneCell']) (by rw [j4];omega) (by omega) fun l3 wb h=>?_
   exact⟨69 - q,by omega,q+1,by rw [aB (by omega) (by omega)];omega,by omega,by omega,h⟩
  ·exact aF (by simp;omega) fin
 ·refine aF (by simp;omega) ?_
  have Be:=hg.g
  obtain rfl:k=cN.length:=by have:=hg.hk;omega
  have AV:=h.len (s:=v) 1 rfl
  refine bg ?_
  refine h.GK (k:=.sl) (x:=v) 0 rfl rfl ?_
  refine bg ?_
  refine h.A7 (m:=6) 0 rfl (by simp) rfl fun w4 h=>?_
  have h:=h.KM (i:=6) rfl (aK _)
  have h:=vB h (i:=5) (n:=1) (g:=iv) (D:=D) (D':=bA++cN++G) rfl (fun y hy=>hg.d y (by rw [afE (afV _)];exact hy))
  have C9:(bA++cN++G).length=v.len:=by have:=h.len (s:=v) 1 rfl;exact this
  have bW:Sh.fits ⟨v,x,bA++cN++G,[]⟩ (N+2*M) 0:=⟨by simp only [afw];omega,by simp,fun y hy=>by
   rcases afB.1 hy with hy | hy
   ·rcases afB.1 hy with hy | hy
    ·exact fV3 y hy
    ·have:=ZF y hy;omega
   ·exact hg.l y hy,fun y hy=>by cases hy⟩
  have h:Hp O w w4 [ai bp 53 (BK.cells ⟨⟨v,x,bA++cN++G,[]⟩,⟨vP,xP,bB,bU⟩,⟨vR,xR,bJ,bq⟩⟩ p),aj v 34 1 ly (bA++cN++G),eS ⟨vP,xP,bB,bU⟩,eT ⟨vR,xR,bJ,bq⟩,aj x 2 1 ml (bA++cN++G),eg 1 iv (bA++cN++G),ao]:=by
   have e:(BK.cells ⟨⟨v,x,bA++cN++G,[]⟩,⟨vP,xP,bB,bU⟩,⟨vR,xR,bJ,bq⟩⟩ p)=((BK.cells ⟨⟨v,x,bA,cN⟩,⟨vP,xP,bB,bU⟩,⟨vR,xR,bJ,bq⟩⟩ p).set 12 (.int .i64 (v.len:Int))):=by
    show [_,_,_,_,_,_,_,_,_,_,_,_,_,_,_]= [_,_,_,_,_,_,_,_,_,_,_,_,_,_,_]
    rw [C9]
   rw [e];exact h
  have h:Hp O w w4 [aj v 34 1 ly (bA++cN++G++ []),aj x 2 1 ml (bA++cN++G++ []),eg 1 iv (bA++cN++G),an (([]:List LM).map (pend 2 1 iv)),ai bp 53 (BK.cells ⟨⟨v,x,bA++cN++G,[]⟩,⟨vP,xP,bB,bU⟩,⟨vR,xR,bJ,bq⟩⟩ p),eS ⟨vP,xP,bB,bU⟩,eT ⟨vR,xR,bJ,bq⟩]:=by
   rw [afH];exact h.gC [1,4,5,6,0,2,3] (by decide) rfl
  have h:=gd ⟨v,x,bA++cN++G,[]⟩ h
  have h:Hp O w w4 [ai bp 53 (BK.cells ⟨⟨v,x,bA++cN++G,[]⟩,⟨vP,xP,bB,bU⟩,⟨vR,xR,bJ,bq⟩⟩ p),eS ⟨vP,xP,bB,bU⟩,fm ⟨v,x,bA++cN++G,[]⟩,eT ⟨vR,xR,bJ,bq⟩]:=h.gC [1,2,0,3] (by decide) rfl
  clear C9
  generalize bA++cN++G=bA at bW h
  generalize v=vV at bW h
  generalize x=xV at bW h
  have hfV:=bW
  clear bW
  -- phase P
  have h:=fo h (i:=1) rfl
  have h:Hp O w w4 [ai bp 53 (BK.cells ⟨⟨vV,xV,bA,[]⟩,⟨vP,xP,bB,bU⟩,⟨vR,xR,bJ,bq⟩⟩ p),aj vP 37 1 ly (bB++bU),fm ⟨vV,xV,bA,[]⟩,eT ⟨vR,xR,bJ,bq⟩,aj xP 3 1 ml (bB++bU),eg 2 g1 bB,an (bU.map (pend 36 2 g1))]:=h
  have gi:=h.len (s:=vP) 1 rfl
  have kS:=h.len (s:=xP) 4 rfl
  rw [afw] at gi kS
  refine bg ?_
  refine h.pV (n:=6) (m:=1) (k:=.sl) (x:=vP) 0 rfl rfl ?_
  refine bg ?_
  refine h.pV (n:=6) (m:=7) (k:=.i .i64) (x:=(bB.length:Nat)) 0 rfl rfl ?_
  refine⟨fun t mm w'=> ∃(k:Nat) (v x:Sl) (G D:List LM) (ts:List aa),t=((bB.length+k:Nat):Int) /\ GS 2 bB bU G D ts (bU.map (pend 36 2 g1)) k /\ mm=bU.length - k /\ Hp O w w' [ai bp 53 (BK.cells ⟨⟨vV,xV,bA,[]⟩,⟨v,x,bB,bU⟩,⟨vR,xR,bJ,bq⟩⟩ p),aj v 37 1 ly (bB++bU++G),fm ⟨vV,xV,bA,[]⟩,eT ⟨vR,xR,bJ,bq⟩,aj x 3 1 ml (bB++bU++G),eg 2 g1 D,an ts],
   ⟨bU.length,0,vP,xP,[],bB,bU.map (pend 36 2 g1),rfl,⟨by omega,rfl,by simp,rfl,by simp⟩,rfl,by rw [afH];exact h⟩,?_⟩
  clear h
  rintro t mm w5 ⟨k,v,x,G,D,ts,rfl,hg,rfl,h⟩
  by_cases ar:k < bU.length
  ·refine aE (by simp;omega) ?_
   have Be:=hg.g
   have AV:=h.len (s:=v) 1 rfl
   have IF:=h.len (s:=x) 4 rfl
   rw [afw,afw] at AV IF
   have hx:(bB++bU++G)[bB.length+k]? =some bU[k]:=by
    rw [afx (by rw [afw];omega),afv (by omega),agI];simp [ar]
   have ht:ts[k]? =some (pend 36 2 g1 bU[k]):=by
    have e:=congrArg (fun L=>L[0]?) hg.t
    simpa [ar] using e
   have kF:=ZG _ (afR ar)
   have cX:bU.take (k+1)=bU.take k++ [bU[k]]:=by rw [ag5];simp [ar]
   generalize bU[k]=y at hx ht kF cX
   obtain⟨l,m⟩:=y
   dsimp only at kF
   refine bg ?_
   refine h.pV (n:=6) (m:=1) (k:=.sl) (x:=v) 0 rfl rfl ?_
   refine h.e9 (k:=.sl) (y:=((l,m):LM)) (x:=l) 1 rfl (by omega) (by rw [afu];exact hx) jf rfl ?_
   have h:=h.pick (i:=6) (k:=k) rfl ht rfl
   have h:=h.uH (j:=7) (l:=l) (e:=36) (n:=2) (f:=g1) (y:=m) (p:=l.len) rfl
   have h:Hp O w w5 [ai bp 53 (BK.cells ⟨⟨vV,xV,bA,[]⟩,⟨v,x,bB,bU⟩,⟨vR,xR,bJ,bq⟩⟩ p),aj v 37 1 ly (bB++bU++G),fm ⟨vV,xV,bA,[]⟩,eT ⟨vR,xR,bJ,bq⟩,aj x 3 1 ml (bB++bU++G),eg 2 g1 D,an (ts.set k ao),Ed 36 2 g1 l l m l.len l.len]:=h
   refine⟨fun l2 t mm w'=> ∃q:Nat,t=q /\ q<=70 /\ mm+q=70 /\ Hp O w w' [ai bp 53 (BK.cells ⟨⟨vV,xV,bA,[]⟩,⟨v,x,bB,bU⟩,⟨vR,xR,bJ,bq⟩⟩ p),aj v 37 1 ly (bB++bU++G),fm ⟨vV,xV,bA,[]⟩,eT ⟨vR,xR,bJ,bq⟩,aj x 3 1 ml (bB++bU++G),eg 2 g1 D,an (ts.set k ao),Ed 36 2 g1 l l2 m l.len (l.len+q)],⟨70,0,rfl,by omega,by omega,h⟩,?_⟩
   clear h
   rintro l2 t mm w6 ⟨q,rfl,hq,Rh,h⟩
   have fin:NN (some ⟨bp,6,none⟩) fun(OW:Addr)=>
  Ld .sl w6 (OW.add 1) fun(p3:Sl)=>
  Nw (.cells #[.slice l2.a l2.len l2.cap] 37) w6 fun(b6:Addr) wz=>
  bZ .sl Tryz.prog (Builtin.append_ #[47,47] 47 #[.slice p3.a p3.len p3.cap,.slice (some b6) 1 1]) wz fun(s3:Sl) wz=>
  NN (some ⟨bp,6,none⟩) fun(OY:Addr)=>
  St (OY.add 1) (.slice s3.a s3.len s3.cap) wz fun wz=>
  Dr wz fun wz=>
  NN (some ⟨bp,6,none⟩) fun(OZ:Addr)=>
  Ld .sl wz (OZ.add 4) fun(y2:Sl)=>
  NN (some ⟨bp,6,none⟩) fun(O9:Addr)=>
  Ld .sl wz (O9.add 4) fun(y3:Sl)=>
  Ix y3.a y3.len ((bB.length+k:Nat):Int) 1 fun(a6:Addr)=>
  Ld (.i .i64) wz a6 fun(x7:Int)=>
  Nw (.cells #[.int .i64 x7] 3) wz fun(b7:Addr) wz=>
  bZ .sl Tryz.prog (Builtin.append_ #[49,49] 49 #[.slice y2.a y2.len y2.cap,.slice (some b7) 1 1]) wz fun(s4:Sl) wz=>
  NN (some ⟨bp,6,none⟩) fun(Pa:Addr)=>
  St (Pa.add 4) (.slice s4.a s4.len s4.cap) wz fun wz=>
  ∃m2:Nat,m2 < bU.length - k /\ ∃(k':Nat) (v x:Sl) (G D:List LM) (ts:List aa),IntKind.i64.wrap (((bB.length+k:Nat):Int)+1)=((bB.length+k':Nat):Int) /\ GS 2 bB bU G D ts (bU.map (pend 36 2 g1)) k' /\ m2=bU.length - k' /\ Hp O w wz [ai bp 53 (BK.cells ⟨⟨vV,xV,bA,[]⟩,⟨v,x,bB,bU⟩,⟨vR,xR,bJ,bq⟩⟩ p),aj v 37 1 ly (bB++bU++G),fm ⟨vV,xV,bA,[]⟩,eT ⟨vR,xR,bJ,bq⟩,aj x 3 1 ml (bB++bU++G),eg 2 g1 D,an ts]:=by
    have qA:=(h.yu (e:=36) (n:=2) (f:=g1) (l:=l) (c:=l2) (y:=m) (p:=l.len) (m:=l.len+q) 7 rfl).1
    have h:=h.yt (j:=7) (e:=36) (n:=2) (f:=g1) (l:=l) (c:=l2) (y:=m) (p:=l.len) (m:=l.len+q) rfl
    have h:=vA h (i:=5) (j:=7) (by decide) rfl rfl rfl qA
    refine bg ?_
    refine h.pV (n:=6) (m:=1) (k:=.sl) (x:=v) 0 rfl rfl ?_
    refine h.bL 1 ((l2,m):LM) (c:= [_]) rfl jf MF b1 b3 b2 rfl rfl (by simp [Value.oneCell']) (by rw [b4];omega) (by omega) fun s wa h hs _=>?_
    refine bg ?_
    refine h.A7 (m:=1) 0 rfl (by simp) rfl fun wb h=>?_
    refine h.dr fun wc h=>?_
    refine bg ?_
    refine h.pV (n:=6) (m:=4) (k:=.sl) (x:=x) 0 rfl rfl ?_
    refine bg ?_
    refine h.pV (n:=6) (m:=4) (k:=.sl) (x:=x) 0 rfl rfl ?_
    refine h.e9 (k:=.i .i64) (y:=((l,m):LM)) (x:=m) 4 rfl (by omega) (by rw [afu];exact hx) fO rfl ?_
    refine h.bL 4 ((l2,m):LM) (c:= [_]) rfl fO AI i1 i3 i2 rfl rfl (by simp [Value.oneCell']) (by rw [i4];omega) (by omega) fun s2 wd h jO _=>?_
    refine bg ?_
    refine h.A7 (m:=4) 0 rfl (by simp) rfl fun we h=>?_
    rw [afA (bB++bU) G] at h
    have h:Hp O w we [ai bp 53 (BK.cells ⟨⟨vV,xV,bA,[]⟩,⟨s,s2,bB,bU⟩,⟨vR,xR,bJ,bq⟩⟩ p),aj s 37 1 ly (bB++bU++(G++ [(l2,m)])),fm ⟨vV,xV,bA,[]⟩,eT ⟨vR,xR,bJ,bq⟩,aj s2 3 1 ml (bB++bU++(G++ [(l2,m)])),eg 2 g1 (D++ [(l,m),(l2,m)]),an (ts.set k ao)]:=h.trim 7
    refine⟨bU.length - (k+1),by omega,k+1,s,s2,G++ [(l2,m)],D++ [(l,m),(l2,m)],ts.set k ao,by rw [aB (by omega) (by omega)];omega,⟨by omega,by simp [Be],fun y hy=>?_,by
     rw [agG (by omega),<-agk,hg.t,agk],fun y hy=>?_⟩,rfl,h⟩
    ·rw [cX] at hy
     simp only [afB,af1,aha,or_false] at hy ⊢
     have:=hg.d y
     simp only [afB] at this
     rcases hy with (hy | hy | hy) | hy | hy
     ·exact .inl (this (.inl (.inl hy)))
     ·exact .inl (this (.inl (.inr hy)))
     ·exact .inr (.inl hy)
     ·exact .inl (this (.inr hy))
     ·exact .inr (.inr hy)
    ·rcases afB.1 hy with hy | hy
     ·exact hg.l y hy
     ·simp only [afF] at hy
      subst hy
      show l2.len<=20000
      omega
   refine bg ?_
   refine h.pV (n:=6) (m:=7) (k:=.i .i64) (x:=(bB.length:Nat)) 0 rfl rfl ?_
   refine AK fun r hr=>?_
   by_cases hqr:q < r
   ·refine aE (by simp;omega) ?_
    refine bg ?_
    refine h.pV (n:=6) (m:=4) (k:=.sl) (x:=x) 0 rfl rfl ?_
    refine h.e9 (k:=.i .i64) (y:=((l,m):LM)) (x:=m) 4 rfl (by omega) (by rw [afu];exact hx) fO rfl ?_
    refine h.BW 7 m (e':=36) (c':=1) (l:=l) (c:=l2) (p:=l.len) (m:=l.len+q) (cs:=g1 m) rfl QK qj e1 e3 e2 rfl rfl (by simp [Value.oneCell']) (by rw [e4];omega) (by omega) fun l3 wb h=>?_
    exact⟨69 - q,by omega,q+1,by rw [aB (by omega) (by omega)];omega,by omega,by omega,h⟩
   ·exact aF (by simp;omega) fin
  ·refine aF (by simp;omega) ?_
   have Be:=hg.g
   obtain rfl:k=bU.length:=by have:=hg.hk;omega
   have AV:=h.len (s:=v) 1 rfl
   refine bg ?_
   refine h.pV (n:=6) (m:=1) (k:=.sl) (x:=v) 0 rfl rfl ?_
   refine bg ?_
   refine h.A7 (m:=7) 0 rfl (by simp) rfl fun w7 h=>?_
   have h:=h.KM (i:=6) rfl (aK _)
   have h:=vB h (i:=5) (n:=2) (g:=g1) (D:=D) (D':=bB++bU++G) rfl (fun y hy=>hg.d y (by rw [afE (afV _)];exact hy))
   have C9:(bB++bU++G).length=v.len:=by have:=h.len (s:=v) 1 rfl;exact this
   have bW:Sh.fits ⟨v,x,bB++bU++G,[]⟩ (N+2*M) 0:=⟨by simp only [afw];omega,by simp,fun y hy=>by
    rcases afB.1 hy with hy | hy
    ·rcases afB.1 hy with hy | hy
     ·exact fP3 y hy
     ·have:=ZG y hy;omega
    ·exact hg.l y hy,fun y hy=>by cases hy⟩
   have h:Hp O w w7 [ai bp 53 (BK.cells ⟨⟨vV,xV,bA,[]⟩,⟨v,x,bB++bU++G,[]⟩,⟨vR,xR,bJ,bq⟩⟩ p),aj v 37 1 ly (bB++bU++G),fm ⟨vV,xV,bA,[]⟩,eT ⟨vR,xR,bJ,bq⟩,aj x 3 1 ml (bB++bU++G),eg 2 g1 (bB++bU++G),ao]:=by
    have e:(BK.cells ⟨⟨vV,xV,bA,[]⟩,⟨v,x,bB++bU++G,[]⟩,⟨vR,xR,bJ,bq⟩⟩ p)=((BK.cells ⟨⟨vV,xV,bA,[]⟩,⟨v,x,bB,bU⟩,⟨vR,xR,bJ,bq⟩⟩ p).set 13 (.int .i64 (v.len:Int))):=by
     show [_,_,_,_,_,_,_,_,_,_,_,_,_,_,_]= [_,_,_,_,_,_,_,_,_,_,_,_,_,_,_]
     rw [C9]
    rw [e];exact h
   have h:Hp O w w7 [aj v 37 1 ly (bB++bU++G++ []),aj x 3 1 ml (bB++bU++G++ []),eg 2 g1 (bB++bU++G),an (([]:List LM).map (pend 36 2 g1)),ai bp 53 (BK.cells ⟨⟨vV,xV,bA,[]⟩,⟨v,x,bB++bU++G,[]⟩,⟨vR,xR,bJ,bq⟩⟩ p),fm ⟨vV,xV,bA,[]⟩,eT ⟨vR,xR,bJ,bq⟩]:=by
    rw [afH];exact h.gC [1,4,5,6,0,2,3] (by decide) rfl
   have h:=gd ⟨v,x,bB++bU++G,[]⟩ h
   have h:Hp O w w7 [ai bp 53 (BK.cells ⟨⟨vV,xV,bA,[]⟩,⟨v,x,bB++bU++G,[]⟩,⟨vR,xR,bJ,bq⟩⟩ p),eT ⟨vR,xR,bJ,bq⟩,fm ⟨vV,xV,bA,[]⟩,eS ⟨v,x,bB++bU++G,[]⟩]:=h.gC [1,3,2,0] (by decide) rfl
   clear C9
   generalize bB++bU++G=bB at bW h
   generalize v=vP at bW h
   generalize x=xP at bW h
   have hfP:=bW
   clear bW
   -- phase R
   have h:=fo h (i:=1) rfl
   have h:Hp O w w7 [ai bp 53 (BK.cells ⟨⟨vV,xV,bA,[]⟩,⟨vP,xP,bB,[]⟩,⟨vR,xR,bJ,bq⟩⟩ p),aj vR 71 1 ly (bJ++bq),fm ⟨vV,xV,bA,[]⟩,eS ⟨vP,xP,bB,[]⟩,aj xR 3 1 ml (bJ++bq),eg 3 g2 bJ,an (bq.map (pend 75 3 g2))]:=h
   have gi:=h.len (s:=vR) 1 rfl
   have kS:=h.len (s:=xR) 4 rfl
   rw [afw] at gi kS
   refine bg ?_
   refine h.pV (n:=6) (m:=2) (k:=.sl) (x:=vR) 0 rfl rfl ?_
   refine bg ?_
   refine h.pV (n:=6) (m:=8) (k:=.i .i64) (x:=(bJ.length:Nat)) 0 rfl rfl ?_
   refine⟨fun t mm w'=> ∃(k:Nat) (v x:Sl) (G D:List LM) (ts:List aa),t=((bJ.length+k:Nat):Int) /\ GS 3 bJ bq G D ts (bq.map (pend 75 3 g2)) k /\ mm=bq.length - k /\ Hp O w w' [ai bp 53 (BK.cells ⟨⟨vV,xV,bA,[]⟩,⟨vP,xP,bB,[]⟩,⟨v,x,bJ,bq⟩⟩ p),aj v 71 1 ly (bJ++bq++G),fm ⟨vV,xV,bA,[]⟩,eS ⟨vP,xP,bB,[]⟩,aj x 3 1 ml (bJ++bq++G),eg 3 g2 D,an ts],
    ⟨bq.length,0,vR,xR,[],bJ,bq.map (pend 75 3 g2),rfl,⟨by omega,rfl,by simp,rfl,by simp⟩,rfl,by rw [afH];exact h⟩,?_⟩
   clear h
   rintro t mm w8 ⟨k,v,x,G,D,ts,rfl,hg,rfl,h⟩
   by_cases ar:k < bq.length
   ·refine aE (by simp;omega) ?_
    have Be:=hg.g
    have AV:=h.len (s:=v) 1 rfl
    have IF:=h.len (s:=x) 4 rfl
    rw [afw,afw] at AV IF
    have hx:(bJ++bq++G)[bJ.length+k]? =some bq[k]:=by
     rw [afx (by rw [afw];omega),afv (by omega),agI];simp [ar]
    have ht:ts[k]? =some (pend 75 3 g2 bq[k]):=by
     have e:=congrArg (fun L=>L[0]?) hg.t
     simpa [ar] using e
    have kF:=ZH _ (afR ar)
    have cX:bq.take (k+1)=bq.take k++ [bq[k]]:=by rw [ag5];simp [ar]
    generalize bq[k]=y at hx ht kF cX
    obtain⟨l,m⟩:=y
    dsimp only at kF
    refine bg ?_
    refine h.pV (n:=6) (m:=2) (k:=.sl) (x:=v) 0 rfl rfl ?_
    refine h.e9 (k:=.sl) (y:=((l,m):LM)) (x:=l) 1 rfl (by omega) (by rw [afu];exact hx) jf rfl ?_
    have h:=h.pick (i:=6) (k:=k) rfl ht rfl
    have h:=h.uH (j:=7) (l:=l) (e:=75) (n:=3) (f:=g2) (y:=m) (p:=l.len) rfl
    have h:Hp O w w8 [ai bp 53 (BK.cells ⟨⟨vV,xV,bA,[]⟩,⟨vP,xP,bB,[]⟩,⟨v,x,bJ,bq⟩⟩ p),aj v 71 1 ly (bJ++bq++G),fm ⟨vV,xV,bA,[]⟩,eS ⟨vP,xP,bB,[]⟩,aj x 3 1 ml (bJ++bq++G),eg 3 g2 D,an (ts.set k ao),Ed 75 3 g2 l l m l.len l.len]:=h
    refine⟨fun l2 t mm w'=> ∃q:Nat,t=q /\ q<=70 /\ mm+q=70 /\ Hp O w w' [ai bp 53 (BK.cells ⟨⟨vV,xV,bA,[]⟩,⟨vP,xP,bB,[]⟩,⟨v,x,bJ,bq⟩⟩ p),aj v 71 1 ly (bJ++bq++G),fm ⟨vV,xV,bA,[]⟩,eS ⟨vP,xP,bB,[]⟩,aj x 3 1 ml (bJ++bq++G),eg 3 g2 D,an (ts.set k ao),Ed 75 3 g2 l l2 m l.len (l.len+q)],⟨70,0,rfl,by omega,by omega,h⟩,?_⟩
    clear h
    rintro l2 t mm w9 ⟨q,rfl,hq,Rh,h⟩
    have fin:NN (some ⟨bp,6,none⟩) fun(OW:Addr)=>
   Ld .sl w9 (OW.add 2) fun(r5:Sl)=>
   Nw (.cells #[.slice l2.a l2.len l2.cap] 71) w9 fun(b9:Addr) wz=>
   bZ .sl Tryz.prog (Builtin.append_ #[48,48] 48 #[.slice r5.a r5.len r5.cap,.slice (some b9) 1 1]) wz fun(s5:Sl) wz=>
   NN (some ⟨bp,6,none⟩) fun(Pb:Addr)=>
   St (Pb.add 2) (.slice s5.a s5.len s5.cap) wz fun wz=>
   Dr wz fun wz=>
   NN (some ⟨bp,6,none⟩) fun(Pc:Addr)=>
   Ld .sl wz (Pc.add 5) fun(z2:Sl)=>
   NN (some ⟨bp,6,none⟩) fun(Pd:Addr)=>
   Ld .sl wz (Pd.add 5) fun(z3:Sl)=>
   Ix z3.a z3.len ((bJ.length+k:Nat):Int) 1 fun(a9:Addr)=>
   Ld (.i .i64) wz a9 fun(x9:Int)=>
   Nw (.cells #[.int .i64 x9] 3) wz fun(Xz:Addr) wz=>
   bZ .sl Tryz.prog (Builtin.append_ #[49,49] 49 #[.slice z2.a z2.len z2.cap,.slice (some Xz) 1 1]) wz fun(s6:Sl) wz=>
   NN (some ⟨bp,6,none⟩) fun(Pe:Addr)=>
   St (Pe.add 5) (.slice s6.a s6.len s6.cap) wz fun wz=>
   ∃m2:Nat,m2 < bq.length - k /\ ∃(k':Nat) (v x:Sl) (G D:List LM) (ts:List aa),IntKind.i64.wrap (((bJ.length+k:Nat):Int)+1)=((bJ.length+k':Nat):Int) /\ GS 3 bJ bq G D ts (bq.map (pend 75 3 g2)) k' /\ m2=bq.length - k' /\ Hp O w wz [ai bp 53 (BK.cells ⟨⟨vV,xV,bA,[]⟩,⟨vP,xP,bB,[]⟩,⟨v,x,bJ,bq⟩⟩ p),aj v 71 1 ly (bJ++bq++G),fm ⟨vV,xV,bA,[]⟩,eS ⟨vP,xP,bB,[]⟩,aj x 3 1 ml (bJ++bq++G),eg 3 g2 D,an ts]:=by
     have qA:=(h.yu (e:=75) (n:=3) (f:=g2) (l:=l) (c:=l2) (y:=m) (p:=l.len) (m:=l.len+q) 7 rfl).1
     have h:=h.yt (j:=7) (e:=75) (n:=3) (f:=g2) (l:=l) (c:=l2) (y:=m) (p:=l.len) (m:=l.len+q) rfl
     have h:=vA h (i:=5) (j:=7) (by decide) rfl rfl rfl qA
     refine bg ?_
     refine h.pV (n:=6) (m:=2) (k:=.sl) (x:=v) 0 rfl rfl ?_
     refine h.bL 1 ((l2,m):LM) (c:= [_]) rfl jf MG d1 d3 d2 rfl rfl (by simp [Value.oneCell']) (by rw [d4];omega) (by omega) fun s wa h hs _=>?_
     refine bg ?_
     refine h.A7 (m:=2) 0 rfl (by simp) rfl fun wb h=>?_
     refine h.dr fun wc h=>?_
     refine bg ?_
     refine h.pV (n:=6) (m:=5) (k:=.sl) (x:=x) 0 rfl rfl ?_
     refine bg ?_
     refine h.pV (n:=6) (m:=5) (k:=.sl) (x:=x) 0 rfl rfl ?_
     refine h.e9 (k:=.i .i64) (y:=((l,m):LM)) (x:=m) 4 rfl (by omega) (by rw [afu];exact hx) fO rfl ?_
     refine h.bL 4 ((l2,m):LM) (c:= [_]) rfl fO AI i1 i3 i2 rfl rfl (by simp [Value.oneCell']) (by rw [i4];omega) (by omega) fun s2 wd h jO _=>?_
     refine bg ?_
     refine h.A7 (m:=5) 0 rfl (by simp) rfl fun we h=>?_
     rw [afA (bJ++bq) G] at h
     have h:Hp O w we [ai bp 53 (BK.cells ⟨⟨vV,xV,bA,[]⟩,⟨vP,xP,bB,[]⟩,⟨s,s2,bJ,bq⟩⟩ p),aj s 71 1 ly (bJ++bq++(G++ [(l2,m)])),fm ⟨vV,xV,bA,[]⟩,eS ⟨vP,xP,bB,[]⟩,aj s2 3 1 ml (bJ++bq++(G++ [(l2,m)])),eg 3 g2 (D++ [(l,m),(l2,m)]),an (ts.set k ao)]:=h.trim 7
     refine⟨bq.length - (k+1),by omega,k+1,s,s2,G++ [(l2,m)],D++ [(l,m),(l2,m)],ts.set k ao,by rw [aB (by omega) (by omega)];omega,⟨by omega,by simp [Be],fun y hy=>?_,by
      rw [agG (by omega),<-agk,hg.t,agk],fun y hy=>?_⟩,rfl,h⟩
     ·rw [cX] at hy
      simp only [afB,af1,aha,or_false] at hy ⊢
      have:=hg.d y
      simp only [afB] at this
      rcases hy with (hy | hy | hy) | hy | hy
      ·exact .inl (this (.inl (.inl hy)))
      ·exact .inl (this (.inl (.inr hy)))
      ·exact .inr (.inl hy)
      ·exact .inl (this (.inr hy))
      ·exact .inr (.inr hy)
     ·rcases afB.1 hy with hy | hy
      ·exact hg.l y hy
      ·simp only [afF] at hy
       subst hy
       show l2.len<=20000
       omega
    by_cases hqr:q < 70
    ·refine aE (by simp;omega) ?_
     refine bg ?_
     refine h.pV (n:=6) (m:=5) (k:=.sl) (x:=x) 0 rfl rfl ?_
     refine h.e9 (k:=.i .i64) (y:=((l,m):LM)) (x:=m) 4 rfl (by omega) (by rw [afu];exact hx) fO rfl ?_
     refine h.BW 7 m (e':=75) (c':=1) (l:=l) (c:=l2) (p:=l.len) (m:=l.len+q) (cs:=g2 m) rfl QL qk u1 u3 u2 rfl rfl (by simp [Value.oneCell']) (by rw [u4];omega) (by omega) fun l3 wb h=>?_
     exact⟨69 - q,by omega,q+1,by rw [aB (by omega) (by omega)];omega,by omega,by omega,h⟩
    ·exact aF (by simp;omega) fin
   ·refine aF (by simp;omega) ?_
    have Be:=hg.g
    obtain rfl:k=bq.length:=by have:=hg.hk;omega
    have AV:=h.len (s:=v) 1 rfl
    refine bg ?_
    refine h.pV (n:=6) (m:=2) (k:=.sl) (x:=v) 0 rfl rfl ?_
    refine bg ?_
    refine h.A7 (m:=8) 0 rfl (by simp) rfl fun pj h=>?_
    have h:=h.KM (i:=6) rfl (aK _)
    have h:=vB h (i:=5) (n:=3) (g:=g2) (D:=D) (D':=bJ++bq++G) rfl (fun y hy=>hg.d y (by rw [afE (afV _)];exact hy))
    have C9:(bJ++bq++G).length=v.len:=by have:=h.len (s:=v) 1 rfl;exact this
    have bW:Sh.fits ⟨v,x,bJ++bq++G,[]⟩ (N+2*M) 0:=⟨by simp only [afw];omega,by simp,fun y hy=>by
     rcases afB.1 hy with hy | hy
     ·rcases afB.1 hy with hy | hy
      ·exact fR3 y hy
      ·have:=ZH y hy;omega
     ·exact hg.l y hy,fun y hy=>by cases hy⟩
    have h:Hp O w pj [ai bp 53 (BK.cells ⟨⟨vV,xV,bA,[]⟩,⟨vP,xP,bB,[]⟩,⟨v,x,bJ++bq++G,[]⟩⟩ p),aj v 71 1 ly (bJ++bq++G),fm ⟨vV,xV,bA,[]⟩,eS ⟨vP,xP,bB,[]⟩,aj x 3 1 ml (bJ++bq++G),eg 3 g2 (bJ++bq++G),ao]:=by
     have e:(BK.cells ⟨⟨vV,xV,bA,[]⟩,⟨vP,xP,bB,[]⟩,⟨v,x,bJ++bq++G,[]⟩⟩ p)=((BK.cells ⟨⟨vV,xV,bA,[]⟩,⟨vP,xP,bB,[]⟩,⟨v,x,bJ,bq⟩⟩ p).set 14 (.int .i64 (v.len:Int))):=by
      show [_,_,_,_,_,_,_,_,_,_,_,_,_,_,_]= [_,_,_,_,_,_,_,_,_,_,_,_,_,_,_]
      rw [C9]
     rw [e];exact h
    have h:Hp O w pj [aj v 71 1 ly (bJ++bq++G++ []),aj x 3 1 ml (bJ++bq++G++ []),eg 3 g2 (bJ++bq++G),an (([]:List LM).map (pend 75 3 g2)),ai bp 53 (BK.cells ⟨⟨vV,xV,bA,[]⟩,⟨vP,xP,bB,[]⟩,⟨v,x,bJ++bq++G,[]⟩⟩ p),fm ⟨vV,xV,bA,[]⟩,eS ⟨vP,xP,bB,[]⟩]:=by
     rw [afH];exact h.gC [1,4,5,6,0,2,3] (by decide) rfl
    have h:=gd ⟨v,x,bJ++bq++G,[]⟩ h
    have h:Hp O w pj [ai bp 53 (BK.cells ⟨⟨vV,xV,bA,[]⟩,⟨vP,xP,bB,[]⟩,⟨v,x,bJ++bq++G,[]⟩⟩ p),fm ⟨vV,xV,bA,[]⟩,eS ⟨vP,xP,bB,[]⟩,eT ⟨v,x,bJ++bq++G,[]⟩]:=h.gC [1,2,3,0] (by decide) rfl
    have h:=ma (N:=N+2*M) (M:=0) ⟨⟨vV,xV,bA,[]⟩,⟨vP,xP,bB,[]⟩,⟨v,x,bJ++bq++G,[]⟩⟩ ⟨hfV,hfP,bW⟩ h
    have:=back (rest:= []) rfl rfl h
    rw [afH] at this
    exact hK pj this
end
end Go.Proofs.YtcccjgmekakabaaGreat.FW
end

section
namespace Go.Proofs.YtcccjgmekakabaaGreat.FW
open F
open Go Go.Den Go.Proofs
open FI (af ay)
open FT (az di bM cc dz aP gm bD iv aq)
open FP (dX tB aV eI bS bI aT cw)
theorem ph {et em e:TypeId} {n:Nat} {g:Int->List Value} {w:World}:(pd et em e n g ⟨⟨none,0,0⟩,⟨none,0,0⟩,[],[]⟩).holds w []:=
 ⟨[],[],cA.nil,⟨[],[],cA.nil,⟨[],[],⟨by simp,by simp⟩,rfl,by simp,by simp⟩,by simp,by simp⟩,by simp,by simp⟩
def fx (ab bb:Nat) (ks gv od ws:Sl):PC:=⟨.pointer (some ⟨ab,0,none⟩),.pointer (some ⟨bb,0,none⟩),.slice ks.a ks.len ks.cap,.slice gv.a gv.len gv.cap,.slice od.a od.len od.cap,.slice ws.a ws.len ws.cap⟩
section
variable {S:List Nat} {w0 w:World} {ae:List aa}
theorem IG (h:Hp S w0 w ae) {i bp:Nat} {p:PC} (hi:ae[i]? =some (ai bp 53 [p.a,p.b,p.k,p.g,p.o,p.s,.slice none 0 0,.slice none 0 0,.slice none 0 0,.slice none 0 0,.slice none 0 0,.slice none 0 0,.int .i64 0,.int .i64 0,.int .i64 0])):Hp S w0 w (ae.set i (bw bp p 0 0)):=
 h.sU hi rfl (fun w O hO=>by
  have hf:Sh.fits ⟨⟨none,0,0⟩,⟨none,0,0⟩,[],[]⟩ 0 0:=⟨by simp,by simp,by simp,by simp⟩
  refine⟨⟨⟨⟨none,0,0⟩,⟨none,0,0⟩,[],[]⟩,⟨⟨none,0,0⟩,⟨none,0,0⟩,[],[]⟩,⟨⟨none,0,0⟩,⟨none,0,0⟩,[],[]⟩⟩,⟨hf,hf,hf⟩,O,[],hO,⟨[],[],ph,⟨[],[],ph,ph,by simp,by simp⟩,by simp,by simp⟩,by simp,by simp⟩) rfl
theorem jg (h:Hp S w0 w ae) (i:Nat) {bp c N M:Nat} {p:PC} {k:Kd} {x:k.T} {K:k.T->Prop} (hi:(ae[i]?).map aa.holds=some (bw bp p N M).holds) (hc: [p.a,p.b,p.k,p.g,p.o,p.s][c]? =some (k.inj x)) (hK:K x):Ld k w ((⟨bp,0,none⟩:Addr).add c) K:=by
 obtain⟨O,q,hq,O1,O2,⟨hb,_⟩,_⟩:=h.dQ hi
 have ar:=(aft.1 hc).1
 have e:(q.cells p)[c]? =some (k.inj x):=by
  show ([p.a,p.b,p.k,p.g,p.o,p.s]++_)[c]? =_
  rw [afx ar];exact hc
 rw [Addr.aQ,agH]
 exact Go.Den.ld hb e hK
theorem gH (h:Hp S w0 w ae) (i:Nat) {bp N M:Nat} {p:PC} {k:Kd} {x:k.T} {K:k.T->Prop} (hi:(ae[i]?).map aa.holds=some (bw bp p N M).holds) (hc:p.a=k.inj x) (hK:K x):Ld k w ⟨bp,0,none⟩ K:=by
 have:=jg h i (c:=0) (k:=k) (x:=x) hi (by rw [hc];rfl) hK
 rwa [Addr.aQ,agH] at this
theorem f3r (h:Hp S w0 w ae) {i i' tt j:Nat} (aR: [i,i',tt].Nodup) (hj:j ∉ [i,i',tt]) {t u v x:aa} (hi:ae[i]? =some t) (fK:ae[i']? =some u) (v9:ae[tt]? =some v) (hx:ae[j]? =some x) (ho:t.own=true) (lu:u.own=true) (PU:v.own=true):
  ∃O,Hp O w w [t,u,v,x.ro] /\ ∀{w':World} {t' u' v':aa} {rest:List aa},t'.own=true->u'.own=true->v'.own=true->Hp.owns rest=true->Hp O w w' (t' :: u' :: v' :: rest)->Hp S w0 w' (((ae.set i t').set i' u').set tt v'++rest):=by
 obtain⟨O,h1,h2⟩:=h.frame [i,i',tt] [j] aR (fun k hk bG=>by simp only [afF] at bG;subst bG;exact hj hk) (ts:= [t,u,v]) (us:= [x]) rfl rfl (Hp.L9 hi fK v9) (Hp.uB hx) (by simp [ho,lu,PU])
 exact⟨O,by simpa using h1,fun{w' t' u' v' rest} q1 q2 q3 hr hp=>h2 (ts':= [t',u',v']) rfl (by simp [q1,q2,q3]) (Hp.hM hr) (by simpa using hp)⟩
end
end Go.Proofs.YtcccjgmekakabaaGreat.FW
end

section
namespace Go.Proofs.YtcccjgmekakabaaGreat.FW
open F
open Go Go.Den Go.Proofs
open FI (af ay)
open FT (az di bM cc dz aP gm bD iv aq)
open FP (dX tB aV eI bS bI aT cw)
def nu:ByteArray:=⟨#[111,118,101,114]⟩
theorem AW (a:WA):Bytes a.snap:=by
 intro x hx
 unfold WA.snap at hx
 rcases afB.1 hx with hx | hx
 ·rcases afB.1 hx with hx | hx
  ·exact FP.o9 _ x hx
  ·exact FP.o9 _ x hx
 ·obtain⟨e,_,hx⟩:=ag0.1 hx
  unfold lW at hx
  rcases afB.1 hx with hx | hx
  ·exact FP.fS (hU _) x hx
  ·exact FP.u0 _ x hx
theorem E1 {a:WA} (hf:a.fits):a.snap.length<=1000000:=by
 obtain⟨g1,g2,g3,g4⟩:=lX hf.1.u6
 have r1:=fH a.au.aM
 have r2:=fH a.au.free
 have gI:=kf hf.1
 have h:=AR (l:=a.rows) fun r hr=>by
  obtain⟨p,VU,hp,lx,Fs,qD⟩:=n6 hf hr
  obtain⟨rf,qC⟩:=lk hf.1.len.2 hf.1.four Fs qD
  rw [lx]
  exact⟨rf,fun y hy=>(qC y hy).1⟩
 have fv:a.rows.length=a.all.length:=by unfold WA.rows;rw [afP]
 have e:a.snap=bS a.au.aM++bS a.au.free++iO a.rows:=by rw [DJ hf];rfl
 rw [e,afw,afw]
 omega
section
variable {S:List Nat} {w0 w:World} {ae:List aa}
set_option maxHeartbeats 16000000 in
theorem AX (h:Hp S w0 w ae) (i i' tt j:Nat) (aR: [i,i',tt].Nodup) (Js:j ∉ [i,i',tt]) {bp ab bb N:Nat} {ks gv od ws:Sl} {a:WA} {ys:List KS} {u:aa} (hi:ae[i]? =some (bw bp (fx ab bb ks gv od ws) N 0)) (fK:ae[i']? =some (tW ab a)) (v9:ae[tt]? =some (iT bb a)) (hj:ae[j]? =some u) (hu:u.holds=(fZ ks ys).holds) (hk:kinds ys=a.ks) (hN:N<=100000000)
  {K:Bool->World->Prop} (hK: ∀w',Hp S w0 w' (ae.set i (bw bp (fx ab bb ks gv od ws) (N+12000) 0))->K true w'):Sj (some ⟨bp,0,none⟩) w K:=by
 refine Od ?_
 unfold f12
 obtain⟨ad8,s1,s2,s3,s4⟩:=wk
 obtain⟨ad9,k1,k2,k3,k4⟩:=xg
 obtain⟨aea,b1,b2,b3,b4⟩:=FP.yD
 obtain⟨O,h1,back⟩:=f3r h aR Js hi fK v9 hj rfl rfl rfl
 have fin: ∀{w':World} {more:List aa},Hp O w w' ([bw bp (fx ab bb ks gv od ws) (N+12000) 0,tW ab a,iT bb a]++more)->K true w':=fun{w' more} h2=>by
  have:=back (rest:= []) rfl rfl rfl rfl h2.front
  rw [afH] at this
  have e1:(ae.set i (bw bp (fx ab bb ks gv od ws) (N+12000) 0)).set i' (tW ab a)=ae.set i (bw bp (fx ab bb ks gv od ws) (N+12000) 0):=Hp.cK (by
   have:i≠i':=by simp at aR;exact aR.1.1
   rw [afY this];exact fK)
  have e2:(ae.set i (bw bp (fx ab bb ks gv od ws) (N+12000) 0)).set tt (iT bb a)=ae.set i (bw bp (fx ab bb ks gv od ws) (N+12000) 0):=Hp.cK (by
   have:i≠tt:=by simp at aR;exact aR.1.2
   rw [afY this];exact v9)
  rw [e1,e2] at this
  exact hK w' this
 clear h
 have h:=h1
 clear h1 hK
 obtain⟨bK,bW⟩:=TI h 1 rfl
 have hf:a.fits:=⟨bK,bW⟩
 have yc: ∀{w':World} {t1 t2 t3:aa} {l:List aa},Hp O w w' (t1 :: t2 :: t3 :: u.ro :: l)->y5 w' ks a.ks:=fun{w' t1 t2 t3 l} h=>by
  obtain⟨O',g⟩:=h.n9 (i:=3) rfl
  have g:u.holds w' O':=g
  rw [hu] at g
  rw [<-hk]
  exact vn g
 have ZI:a.ks.length=ks.len:=(yc h).len
 have aa7:=bK.len
 have Un:=bK.four
 have MW:=AW a
 have eQ:=E1 hf
 have Q1:bV (strOf a.snap)=a.snap:=fN MW
 have fv:a.rows.length<=200:=by have:=kf bK;unfold WA.rows;rw [afP];exact this
 have VV: ∀r∈a.rows,r.2.length<=12 /\ ∀y∈r.2,y.2.length<=4:=fun r hr=>by
  obtain⟨p,VU,hp,lx,Fs,qD⟩:=n6 hf hr
  obtain⟨rf,qC⟩:=lk bK.len.2 bK.four Fs qD
  rw [lx]
  exact⟨rf,fun y hy=>(qC y hy).1⟩
 refine bg ?_
 refine gH h 0 (k:=.p) (x:=some ⟨ab,0,none⟩) rfl rfl ?_
 refine HO h 1 rfl fun r w1 h=>?_
 refine bg ?_
 refine gH h 0 (k:=.p) (x:=some ⟨ab,0,none⟩) rfl rfl ?_
 refine HO h 1 rfl fun s w2 h=>?_
 refine bg ?_
 refine jg h 0 (c:=1) (k:=.p) (x:=some ⟨bb,0,none⟩) rfl rfl ?_
 refine LD h 2 rfl fun t w3 h=>?_
 refine bg ?_
 refine gH h 0 (k:=.p) (x:=some ⟨ab,0,none⟩) rfl rfl ?_
 refine AE h 1 rfl fun x w4 h=>?_
 refine bg ?_
 refine gH h 0 (k:=.p) (x:=some ⟨ab,0,none⟩) rfl rfl ?_
 refine AE h 1 rfl fun y w5 h=>?_
 refine bg ?_
 refine jg h 0 (c:=1) (k:=.p) (x:=some ⟨bb,0,none⟩) rfl rfl ?_
 refine ER h 2 rfl fun z zs w6 Ip RM VD h=>?_
 refine bg ?_
 refine gH h 0 (k:=.p) (x:=some ⟨ab,0,none⟩) rfl rfl ?_
 refine DA h 1 rfl fun k w7 h=>?_
 refine bg ?_
 refine gH h 0 (k:=.p) (x:=some ⟨ab,0,none⟩) rfl rfl ?_
 refine DA h 1 rfl fun l w8 h=>?_
 refine bg ?_
 refine gH h 0 (k:=.p) (x:=some ⟨ab,0,none⟩) rfl rfl ?_
 refine lY h 1 rfl fun m w9 h=>?_
 refine bg ?_
 refine gH h 0 (k:=.p) (x:=some ⟨ab,0,none⟩) rfl rfl ?_
 refine lY h 1 rfl fun n pj h=>?_
 refine bg ?_
 refine jg h 0 (c:=1) (k:=.p) (x:=some ⟨bb,0,none⟩) rfl rfl ?_
 refine AS h 2 rfl fun r2 wx h=>?_
 have h:Hp O w wx [bw bp (fx ab bb ks gv od ws) N 0,tW ab a,iT bb a,u.ro,aZ r a.rows,aZ s a.rows,aZ t a.rows,fX x (Value.int .i64) (Value.int .i64) a.shape,fX y (Value.int .i64) (Value.int .i64) a.shape,aj z 157 2 rD zs,aD k a.ks,aD l a.ks,tB m a.snap,tB n a.snap,tB r2 a.snap]:=h
 refine h.Ef 14 (u:=tB r2 a.snap) rfl Hp.bX (strOf a.snap) Q1 ?_
 have same: ∀{w':World} {p1 p2:Sl} {K:Bool->World->Prop} {wg:List aa} (i1 i2:Nat),Hp O w w' wg->(wg[i1]?).map aa.holds=some (aZ p1 a.rows).holds->(wg[i2]?).map aa.holds=some (aZ p2 a.rows).holds->(∀w2,Hp O w w2 wg->K true w2)->Sk p1 p2 w' K:=fun{w' p1 p2 K wg} i1 i2 h e1 e2 hK=>by
  obtain⟨O1,ZJ⟩:=h.dQ e1
  obtain⟨O2,hO2⟩:=h.dQ e2
  refine wD (Cu ZJ) (Cu hO2) (by omega) (fun r hr=>⟨by have:=(VV r hr).1;omega,fun y hy=>by have:=(VV r hr).2 y hy;omega⟩) fun w2 iH=>?_
  rw [decide_eq_true rfl]
  exact hK w2 (h.cB iH)
 refine same 4 6 h rfl rfl fun z9 h=>?_
 refine mo h 7 9 (u:=aj z 157 2 rD zs) rfl rfl Hp.bX (by omega) Ip RM fun MC h=>?_
 have kin: ∀{w':World} {p1:Sl} {K:Bool->World->Prop} {t1 t2 t3:aa} {l:List aa} (i1:Nat),Hp O w w' (t1 :: t2 :: t3 :: u.ro :: l)->((t1 :: t2 :: t3 :: u.ro :: l)[i1]?).map aa.holds=some (aD p1 a.ks).holds->(∀w2,Hp O w w2 (t1 :: t2 :: t3 :: u.ro :: l)->K true w2)->Rk p1 ks w' K:=fun{w' p1 K t1 t2 t3 l} i1 h e1 hK=>by
  obtain⟨O1,ZJ⟩:=h.dQ e1
  refine nt (AM ZJ) (yc h) (by omega) (fun x hx=>by have:=Un x hx;omega) fun w2 iH=>?_
  rw [decide_eq_true rfl]
  exact hK w2 (h.cB iH)
 refine bg ?_
 refine jg h 0 (c:=2) (k:=.sl) (x:=ks) rfl rfl ?_
 refine kin 10 h rfl fun RD h=>?_
 refine⟨fun w'=>Hp O w w' [bw bp (fx ab bb ks gv od ws) N 0,tW ab a,iT bb a,u.ro,aZ r a.rows,aZ s a.rows,aZ t a.rows,fX x (Value.int .i64) (Value.int .i64) a.shape,fX y (Value.int .i64) (Value.int .i64) a.shape,aj z 157 2 rD zs,aD k a.ks,aD l a.ks,tB m a.snap,tB n a.snap,tB r2 a.snap],?_,?_⟩
 ·refine aF (by simp) (aF (by simp) (aF (by simp) ?_))
  refine h.Ef 12 (u:=tB m a.snap) rfl Hp.bX (strOf a.snap) Q1 ?_
  exact aF (by simp) h
 clear h
 rintro TP h
 refine bg ?_
 have Uo: ∀r∈a.rows,r.2.length<=13 /\ ∀y∈r.2,y.2.length<=10000:=fun r hr=>⟨by have:=(VV r hr).1;omega,fun y hy=>by have:=(VV r hr).2 y hy;omega⟩
 have eb:((⟨bp,0,none⟩:Addr).add 6)=⟨bp,6,none⟩:=by rw [Addr.aQ]
 rw [eb]
 refine xJ h 0 4 (by decide) (l:=r) (ps:=a.rows) rfl rfl (by omega) (by omega) Uo fun RF h=>?_
 refine bg ?_
 rw [eb]
 refine vC h 0 (N:=N) (M:=0+14*a.rows.length+1) rfl (by omega) fun QH h=>?_
 have h:Hp O w QH [bw bp (fx ab bb ks gv od ws) (N+2*(0+14*a.rows.length+1)) 0,tW ab a,iT bb a,u.ro,ao,aZ s a.rows,aZ t a.rows,fX x (Value.int .i64) (Value.int .i64) a.shape,fX y (Value.int .i64) (Value.int .i64) a.shape,aj z 157 2 rD zs,aD k a.ks,aD l a.ks,tB m a.snap,tB n a.snap,tB r2 a.snap]:=h
 have h:=rB h (i:=0) (N':=N+6000) (M':=0) rfl (by omega) (by omega)
 have h:Hp O w QH [bw bp (fx ab bb ks gv od ws) (N+6000) 0,tW ab a,iT bb a,u.ro,ao,aZ s a.rows,aZ t a.rows,fX x (Value.int .i64) (Value.int .i64) a.shape,fX y (Value.int .i64) (Value.int .i64) a.shape,aj z 157 2 rD zs,aD k a.ks,aD l a.ks,tB m a.snap,tB n a.snap,tB r2 a.snap]:=h
 refine⟨fun w'=>Hp O w w' [bw bp (fx ab bb ks gv od ws) (N+6000) 0,tW ab a,iT bb a,u.ro,aZ s a.rows,aZ t a.rows,fX y (Value.int .i64) (Value.int .i64) a.shape,aj z 157 2 rD zs,aD k a.ks,aD l a.ks,tB m a.snap,tB n a.snap],?_,?_⟩
 ·refine aE (by simp) ?_
  refine h.update (ek:=Value.int .i64) (ev:=Value.int .i64) (g:=a.shape) (k:= -1) (v:=7) 7 rfl rfl ox wv rfl fun VJ h=>?_
  refine h.update (ek:=Value.int .i64) (ev:=Value.int .i64) (k:=2) (v:=1000) 7 rfl rfl ox wv rfl fun TQ h=>?_
  exact h.gC [0,1,2,3,5,6,8,9,10,11,12,13] (by decide) rfl
 clear h
 rintro VJ h
 obtain⟨vs,IW,h⟩:=h.dy (i:=8) rfl
 have gi:vs.length=a.ks.length:=by rw [<-IW,afP]
 have h:Hp O w VJ [bw bp (fx ab bb ks gv od ws) (N+6000) 0,tW ab a,iT bb a,u.ro,aZ s a.rows,aZ t a.rows,fX y (Value.int .i64) (Value.int .i64) a.shape,aj z 157 2 rD zs,aj k 107 2 du vs,aD l a.ks,tB m a.snap,tB n a.snap,an (vs.map tF)]:=h
 have cU:=h.len (s:=k) 8 rfl
 refine⟨fun t0 mm w'=> ∃(q:Nat) (us:List KS) (ts:List aa),t0=q /\ q<=vs.length /\ mm=vs.length - q /\ us.length=vs.length /\ us.drop q=vs.drop q /\ ts.drop q=(vs.map tF).drop q /\ Hp O w w' [bw bp (fx ab bb ks gv od ws) (N+6000) 0,tW ab a,iT bb a,u.ro,aZ s a.rows,aZ t a.rows,fX y (Value.int .i64) (Value.int .i64) a.shape,aj z 157 2 rD zs,aj k 107 2 du us,aD l a.ks,tB m a.snap,tB n a.snap,an ts],
  ⟨vs.length,0,vs,vs.map tF,rfl,by omega,rfl,rfl,rfl,rfl,h⟩,?_⟩
 clear h
 rintro t0 mm TQ ⟨q,us,ts,rfl,hq,rfl,LK,hud,Fp,h⟩
 by_cases ar:q < vs.length
 ·refine aE (by simp;omega) ?_
  have hy:us[q]? =some vs[q]:=by
   have e:=congrArg (fun L=>L[0]?) hud
   simpa [ar] using e
  have ht:ts[q]? =some (tF vs[q]):=by
   have e:=congrArg (fun L=>L[0]?) Fp
   simpa [ar] using e
  have QA:vs[q].2.2.length<=4:=Un (lg vs[q]) (by rw [<-IW];exact ahf (afR ar))
  generalize vs[q]=v at hy ht QA
  refine h.sq (s:=k) (l:=us) (f:=du) (n:=2) (e:=107) 8 rfl (by omega) (by rw [afu];exact hy) aU fun ad hc=>?_
  refine j8 (k:=.sl) (x:=v.2.1) (hc 1 (by omega)) rfl ?_
  have h:=h.pick (i:=12) (k:=q) rfl ht rfl
  have h:Hp O w TQ [bw bp (fx ab bb ks gv od ws) (N+6000) 0,tW ab a,iT bb a,u.ro,aZ s a.rows,aZ t a.rows,fX y (Value.int .i64) (Value.int .i64) a.shape,aj z 157 2 rD zs,aj k 107 2 du us,aD l a.ks,tB m a.snap,tB n a.snap,an (ts.set q ao),aj v.2.1 9 1 sv v.2.2]:=h
  have ee:=h.len (s:=v.2.1) 13 rfl
  refine⟨fun t0 mm w'=> ∃(p:Nat) (fs:List ByteArray),t0=p /\ p<=v.2.1.len /\ mm=v.2.1.len - p /\ fs.length=v.2.1.len /\ Hp O w w' [bw bp (fx ab bb ks gv od ws) (N+6000) 0,tW ab a,iT bb a,u.ro,aZ s a.rows,aZ t a.rows,fX y (Value.int .i64) (Value.int .i64) a.shape,aj z 157 2 rD zs,aj k 107 2 du us,aD l a.ks,tB m a.snap,tB n a.snap,an (ts.set q ao),aj v.2.1 9 1 sv fs],⟨v.2.1.len,0,v.2.2,rfl,by omega,rfl,ee,h⟩,?_⟩
  clear h
  rintro t0 mm w20 ⟨p,fs,rfl,hp,rfl,ZK,h⟩
  by_cases yG:p < v.2.1.len
  ·refine aE (by simp;omega) ?_
   refine h.mL (s:=v.2.1) (y:=nu) 13 rfl (by omega) (by rw [afu];omega) cR rfl rfl fun ZL h=>?_
   exact⟨v.2.1.len - (p+1),by omega,p+1,fs.set _ nu,by rw [aB (by omega) (by omega)];omega,by omega,rfl,by simpa using ZK,h⟩
  ·refine aF (by simp;omega) ?_
   refine h.HK (l:= [nu,nu,nu,nu,nu]) (f:=sv) (n:=1) (c:= [_,_,_,_,_]) rfl rfl cR fun b ZL h=>?_
   refine h.gY 13 14 (s:=v.2.1) (s2:=⟨some ⟨b,0,none⟩,5,5⟩) rfl rfl Hp.bX cR p6 s1 s3 s2 rfl (by simp [sv,Value.oneCell']) (by rw [s4];show (v.2.1.len+5)*16<=_;omega) (by show v.2.1.len+5<=_;omega) fun f w22 h _ _=>?_
   refine h.GM (s:=k) (l:=us) (y:=((nu,f,[]):KS)) 8 rfl (by omega) (by rw [afu];omega) aU rfl rfl rfl fun w23 h=>?_
   rw [afu] at h
   refine⟨vs.length - (q+1),by omega,q+1,us.set q (nu,f,[]),ts.set q ao,by rw [aB (by omega) (by omega)];omega,by omega,rfl,by simpa using LK,by
    rw [agG (by omega),<-agk,hud,agk],by
    rw [agG (by omega),<-agk,Fp,agk],h.trim 13⟩
 ·refine aF (by simp;omega) ?_
  refine h.HK (l:= [((nu,⟨none,0,0⟩,[]):KS),(nu,⟨none,0,0⟩,[])]) (f:=du) (n:=2) (c:= [_,_,_,_]) rfl rfl aU fun b w20 h=>?_
  refine h.gY 8 13 (s:=k) (s2:=⟨some ⟨b,0,none⟩,2,2⟩) rfl rfl Hp.bX aU dR k1 k3 k2 rfl (by simp [du,Value.oneCell']) (by rw [k4];show (k.len+2)*40<=_;omega) (by show k.len+2<=_;omega) fun k2 ZL h R4 _=>?_
  have R4:k2.len=k.len+2:=R4
  have h:Hp O w ZL [bw bp (fx ab bb ks gv od ws) (N+6000) 0,tW ab a,iT bb a,u.ro,aZ s a.rows,aZ t a.rows,fX y (Value.int .i64) (Value.int .i64) a.shape,aj z 157 2 rD zs,aD l a.ks,tB n a.snap,tB m a.snap]:=h.gC [0,1,2,3,4,5,6,7,9,11,10] (by decide) rfl
  have Fh:=h.len (s:=m) 10 rfl
  refine⟨fun t0 mm w'=> ∃(q:Nat) (us:List Int),t0=q /\ q<=m.len /\ mm=m.len - q /\ us.length=m.len /\ Hp O w w' [bw bp (fx ab bb ks gv od ws) (N+6000) 0,tW ab a,iT bb a,u.ro,aZ s a.rows,aZ t a.rows,fX y (Value.int .i64) (Value.int .i64) a.shape,aj z 157 2 rD zs,aD l a.ks,tB n a.snap,tB m us],⟨m.len,0,a.snap,rfl,by omega,rfl,Fh,h⟩,?_⟩
  clear h
  rintro t0 mm w22 ⟨q,us,rfl,hq,rfl,LK,h⟩
  by_cases yA:q < m.len
  ·refine aE (by simp;omega) ?_
   refine h.mL (s:=m) (y:=201) 10 rfl (by omega) (by rw [afu];omega) bx rfl rfl fun w23 h=>?_
   exact⟨m.len - (q+1),by omega,q+1,us.set _ 201,by rw [aB (by omega) (by omega)];omega,by omega,rfl,by simpa using LK,h⟩
  refine aF (by simp;omega) ?_
  refine⟨fun m9 t0 mm w'=> ∃(q:Nat) (us:List Int),t0=q /\ q<=70 /\ mm+q=70 /\ us.length=m.len+q /\ Hp O w w' [bw bp (fx ab bb ks gv od ws) (N+6000) 0,tW ab a,iT bb a,u.ro,aZ s a.rows,aZ t a.rows,fX y (Value.int .i64) (Value.int .i64) a.shape,aj z 157 2 rD zs,aD l a.ks,tB n a.snap,tB m9 us],⟨70,0,us,rfl,by omega,by omega,LK,h⟩,?_⟩
  clear h
  rintro m9 t0 mm w23 ⟨q2,us2,rfl,KN,Rh,ZM,h⟩
  by_cases Ha:q2 < 70
  ·refine aE (by simp;omega) ?_
   have hm9:=h.len (s:=m9) 10 rfl
   refine h.bL 10 (201:Int) (c:= [_]) rfl bx zR b1 b3 b2 rfl rfl (by simp [Value.oneCell']) (by rw [b4];omega) (by omega) fun SB w24 h _ _=>?_
   exact⟨69 - q2,by omega,q2+1,us2++ [201],by rw [aB (by omega) (by omega)];omega,by omega,by omega,by simp [ZM];omega,h⟩
  refine aF (by simp;omega) ?_
  refine same 4 5 h rfl rfl fun w24 h=>?_
  refine mo h 6 7 (u:=aj z 157 2 rD zs) rfl rfl Hp.bX (by omega) Ip RM fun w25 h=>?_
  refine bg ?_
  refine jg h 0 (c:=2) (k:=.sl) (x:=ks) rfl rfl ?_
  refine kin 8 h rfl fun w26 h=>?_
  refine bg ?_
  rw [eb]
  refine xJ h 0 4 (by decide) (l:=s) (ps:=a.rows) rfl rfl (by omega) (by omega) Uo fun w27 h=>?_
  refine bg ?_
  rw [eb]
  refine vC h 0 (N:=N+6000) (M:=0+14*a.rows.length+1) rfl (by omega) fun w28 h=>?_
  have h:=rB h (i:=0) (N':=N+12000) (M':=0) rfl (by omega) (by omega)
  have h:Hp O w w28 [bw bp (fx ab bb ks gv od ws) (N+12000) 0,tW ab a,iT bb a,u.ro,ao,aZ t a.rows,fX y (Value.int .i64) (Value.int .i64) a.shape,aj z 157 2 rD zs,aD l a.ks,tB n a.snap,tB m9 us2]:=h
  refine⟨fun w'=>Hp O w w' [bw bp (fx ab bb ks gv od ws) (N+12000) 0,tW ab a,iT bb a,tB n a.snap],?_,?_⟩
  ·refine aE (by simp) ?_
   refine h.update (ek:=Value.int .i64) (ev:=Value.int .i64) (g:=a.shape) (k:= -2) (v:=8) 6 rfl rfl ox wv rfl fun w29 h=>?_
   exact h.gC [0,1,2,9] (by decide) rfl
  clear h
  rintro w29 h
  refine aE rfl (aE rfl (aE rfl ?_))
  refine h.Ef 3 (u:=tB n a.snap) rfl Hp.bX (strOf a.snap) Q1 ?_
  refine aE (by simp) ?_
  refine bg ?_
  refine jg h 0 (c:=2) (k:=.sl) (x:=ks) rfl rfl ?_
  have e:((k2.len:Int) ==IntKind.i64.wrap ((ks.len:Int)+2))=true:=by
   rw [aB (by omega) (by omega)]
   simp;omega
  rw [e]
  exact fin (more:= [tB n a.snap]) h
end
end Go.Proofs.YtcccjgmekakabaaGreat.FW
end

section
namespace Go.Proofs.YtcccjgmekakabaaGreat.FW
open F
open Go Go.Den Go.Proofs
open FI (af ay)
open FT (bM dz aP iv aq)
def PC.wO (p:PC):Nat->Value->PC
 | 0,v=>{ p with a:=v}
 | 1,v=>{ p with b:=v}
 | 2,v=>{ p with k:=v}
 | 3,v=>{ p with g:=v}
 | 4,v=>{ p with o:=v}
 | _,v=>{ p with s:=v}
theorem E2 (q:BK) (p:PC) {c:Nat} (hc:c < 6) (v:Value):(q.cells p).set c v=q.cells (p.wO c v):=by
 match c,hc with
 | 0,_=>rfl
 | 1,_=>rfl
 | 2,_=>rfl
 | 3,_=>rfl
 | 4,_=>rfl
 | 5,_=>rfl
section
variable {S:List Nat} {w0 w:World} {ae:List aa}
theorem LL (h:Hp S w0 w ae) (i:Nat) {bp c N M:Nat} {p:PC} {v:Value} {K:World->Prop} (hi:ae[i]? =some (bw bp p N M)) (hc:c < 6) (hv:v.oneCell'=true) (hK: ∀w',Hp S w0 w' (ae.set i (bw bp (p.wO c v) N M))->K w'):St ((⟨bp,0,none⟩:Addr).add c) v w K:=by
 obtain⟨O,⟨q,hq,O1,O2,⟨hb,rfl⟩,h2,h3,h4⟩,back⟩:=h.step hi rfl
 refine Go.Den.Bx hb (by show c < 15;omega) hv fun w' iV hf _=>hK w' ?_
 rw [E2 q p hc v] at iV
 have iH:Fr O w w':=hf.mono (fun k hk=>.inl ((h4 k).2 (.inl hk)))
 refine back iH (t':=bw bp (p.wO c v) N M) (O':=O) ⟨q,hq,[bp],O2,⟨iV,rfl⟩,?_,h3,h4⟩ (fun k hk=>.inl hk) rfl
 exact(aX (fm q.V) (aX (eS q.P) (eT q.R))).fr h2 hf (fun k hk bG=>h3 k bG hk)
theorem Up {i1 i2 i3 i4 i5:Nat} {t1 t2 t3 t4 t5:aa} (h1:ae[i1]? =some t1) (h2:ae[i2]? =some t2) (h3:ae[i3]? =some t3) (h4:ae[i4]? =some t4) (h5:ae[i5]? =some t5): ∀n j:Nat,[i1,i2,i3,i4,i5][n]? =some j->ae[j]? = [t1,t2,t3,t4,t5][n]? :=fun n j hn=>by
 match n,hn with
 | 0,hn=>simp only [afJ,afy] at hn;subst hn;simpa using h1
 | 1,hn=>simp only [af8,afJ,afy] at hn;subst hn;simpa using h2
 | 2,hn=>simp only [af8,afJ,afy] at hn;subst hn;simpa using h3
 | 3,hn=>simp only [af8,afJ,afy] at hn;subst hn;simpa using h4
 | 4,hn=>simp only [af8,afJ,afy] at hn;subst hn;simpa using h5
theorem f5r (h:Hp S w0 w ae) {i1 i2 i3 i4 i5 j:Nat} (aR: [i1,i2,i3,i4,i5].Nodup) (hj:j ∉ [i1,i2,i3,i4,i5]) {t1 t2 t3 t4 t5 u:aa} (h1:ae[i1]? =some t1) (h2:ae[i2]? =some t2) (h3:ae[i3]? =some t3) (h4:ae[i4]? =some t4) (h5:ae[i5]? =some t5) (hu:ae[j]? =some u) (ho:Hp.owns [t1,t2,t3,t4,t5]=true):
  ∃O,Hp O w w [t1,t2,t3,t4,t5,u.ro] /\ ∀{w':World} {Uq Ur Us Ut Uu:aa},Hp.owns [Uq,Ur,Us,Ut,Uu]=true->Hp O w w' [Uq,Ur,Us,Ut,Uu]->Hp S w0 w' (((((ae.set i1 Uq).set i2 Ur).set i3 Us).set i4 Ut).set i5 Uu):=by
 obtain⟨O,g1,g2⟩:=h.frame [i1,i2,i3,i4,i5] [j] aR (fun k hk bG=>by simp only [afF] at bG;subst bG;exact hj hk) (ts:= [t1,t2,t3,t4,t5]) (us:= [u]) rfl rfl (Up h1 h2 h3 h4 h5) (Hp.uB hu) (Hp.hM ho)
 refine⟨O,by simpa using g1,fun{w' Uq Ur Us Ut Uu} lu hp=>?_⟩
 have:=g2 (ts':= [Uq,Ur,Us,Ut,Uu]) (rest:= []) rfl (Hp.hM lu) (by simp) (by rw [afH];exact hp)
 rw [afH] at this
 exact this
set_option maxHeartbeats 4000000 in
theorem AY (h:Hp S w0 w ae) (i i' tt g j k:Nat) (aR: [i,i',tt,g,j].Nodup) (zK:k ∉ [i,i',tt,g,j]) {bp ab bb N M:Nat} {ks gv od ws:Sl} {a:WA} {G:List bM} {l dG:Sl} {xs ys:List PV} {ps:List Part} {u:aa}
  (hi:ae[i]? =some (bw bp (fx ab bb ks gv od ws) N M)) (fK:ae[i']? =some (tW ab a)) (v9:ae[tt]? =some (iT bb a)) (hg:ae[g]? =some (aj gv 33 2 dz G)) (hj:ae[j]? =some (vM l xs)) (hk:ae[k]? =some u) (hu:u.holds=(iN dG ys).holds)
  (lx:xs.map bN=ps) (hyp:ys.map bN=ps) (iF:xs.length=l.len) (qz: ∀x∈xs,x.2.2.length=x.2.1.len /\ x.2.1.len+8<=x.2.1.cap) (dF:l.len+8<=l.cap)
  (Fm: ∀x∈ps,-9223372036854775808<=x.1 /\ x.1<=9223372036854775807) (qD: ∀x∈ps,FP.dX x.2) (yG:ps.length<=1000000) (Ey: ∀x∈ps,x.2.length<=10000000) (hG:G.length<=1000000)
  {K:Bool->World->Prop} (hK: ∀LN w',Hp S w0 w' (((((ae.set i (bw bp (fx ab bb ks LN od ws) N M)).set i' (tW ab (a.spawn ps).1)).set tt (iT bb (a.spawn ps).1)).set g (aj LN 33 2 dz (G++if (a.spawn ps).2.2=0 then [(a.spawn ps).2.1] else []))).set j (vM l xs))->K true w'):WK (some ⟨bp,0,none⟩) l dG w K:=by
 refine Ov ?_
 unfold f23
 obtain⟨inf,q1,q2,q3,q4⟩:=FT.Md
 obtain⟨O,h1,back⟩:=f5r h aR zK hi fK v9 hg hj hk rfl
 clear h
 have h:=h1
 clear h1
 have kS:xs.length=ps.length:=by rw [<-lx,afP]
 refine bg ?_
 refine gH h 0 (k:=.p) (x:=some ⟨ab,0,none⟩) rfl rfl ?_
 refine LJ h 1 4 (by decide) (xs:=xs) (tS:=aj (gP l) 36 2 cY (xs++List.replicate 8 CI)) (tE:=Fu) rfl rfl lx rfl (fun _=>rfl) ⟨fun{w O} hO=>⟨O,cA.toR (cA.Um (m:=8) (l':=List.replicate 8 CI) aW hO iF)⟩⟩ (fun x hx {w O} hO=>Q0 (qz x hx).1 hO) Fm qD yG fun w1 h=>?_
 have h:Hp O w w1 [bw bp (fx ab bb ks gv od ws) N M,tW ab (a.spawn ps).1,iT bb a,aj gv 33 2 dz G,vM l xs,u.ro]:=h
 refine h.nw (c:= [_,_]) fun eb w2 h=>?_
 refine h.iR 6 rfl (by simp) rfl fun w3 h=>?_
 refine h.st (n:=1) 6 rfl (by simp) rfl fun w4 h=>?_
 refine bg ?_
 refine jg h 0 (c:=1) (k:=.p) (x:=some ⟨bb,0,none⟩) rfl rfl ?_
 have rdw: ∀{w':World} {ts:List aa},Hp O w w' ts->ts[5]? =some u.ro->vK w' dG ps:=fun{w' ts} h h5=>by
  obtain⟨O',mv⟩:=h.n9 h5
  have mv:u.holds w' O':=mv
  rw [hu] at mv
  rw [<-hyp]
  exact⟨ys,rfl,mv.2.1.imp fun o ho=>ho.1,fun x hx=>(mv.2.2 x hx).imp fun o ho=>ho.1⟩
 refine IB h 2 rfl (rdw h rfl) Fm qD yG fun w5 h=>?_
 refine h.nw (c:= [_,_]) fun gb w6 h=>?_
 refine h.iR 7 rfl (by simp) rfl fun w7 h=>?_
 refine h.st (n:=1) 7 rfl (by simp) rfl fun w8 h=>?_
 generalize yI:a.spawn ps=sp at h hK ⊢
 obtain⟨a',e,f⟩:=sp
 dsimp only at h hK ⊢
 have h:Hp O w w8 [bw bp (fx ab bb ks gv od ws) N M,tW ab a',iT bb a',aj gv 33 2 dz G,vM l xs,u.ro,ai eb 33 [.int .i64 e.1,.int .i64 e.2],ai gb 33 [.int .i64 e.1,.int .i64 e.2]]:=h
 refine CJ h 4 (l:=ps) rfl (rdw h rfl) lx iF qz dF (by omega) Ey fun w9 h=>?_
 refine⟨fun w'=> ∃LN,Hp O w w' [bw bp (fx ab bb ks LN od ws) N M,tW ab a',iT bb a',aj LN 33 2 dz (G++if f=0 then [e] else []),vM l xs,u.ro,ai eb 33 [.int .i64 e.1,.int .i64 e.2],ai gb 33 [.int .i64 e.1,.int .i64 e.2]],?_,?_⟩
 ·by_cases hf:f=0
  ·refine aE (by simpa using hf) ?_
   refine h.dr fun pj h=>bg ?_
   refine jg h 0 (c:=3) (k:=.sl) (x:=gv) rfl rfl ?_
   refine h.cx (k:=.i .i64) (x:=e.1) 6 rfl rfl ?_
   refine h.ld (n:=1) (k:=.i .i64) (x:=e.2) 6 rfl rfl ?_
   have sB:=h.len (s:=gv) (e:=33) (n:=2) (f:=dz) (l:=G) 3 rfl
   refine h.bL 3 e (c:= [_,_]) rfl aP T0 q1 q3 q2 rfl rfl (by simp [dz,Value.oneCell']) (by rw [q4];omega) (by omega) fun s' wx h _ _=>?_
   refine bg ?_
   refine LL h 0 (c:=3) (v:=.slice s'.a s'.len s'.cap) rfl (by omega) rfl fun z9 h=>?_
   exact⟨s',by rw [if_pos hf];exact h⟩
  ·exact aF (by simpa using hf) ⟨gv,by rw [if_neg hf,afH];exact h⟩
 clear h
 rintro pj ⟨LN,h⟩
 refine aE rfl ?_
 refine h.cx (k:=.i .i64) (x:=e.1) 6 rfl rfl ?_
 refine h.ld (n:=1) (k:=.i .i64) (x:=e.2) 6 rfl rfl ?_
 refine h.cx (k:=.i .i64) (x:=e.1) 7 rfl rfl ?_
 refine h.ld (n:=1) (k:=.i .i64) (x:=e.2) 7 rfl rfl ?_
 refine FT.xe (aE (by simp) ?_)
 have:=back rfl (h.trim 5)
 have hb:(f ==f)=true:=by simp
 rw [hb]
 exact hK LN pj this
end
end Go.Proofs.YtcccjgmekakabaaGreat.FW
end

section
namespace Go.Proofs.YtcccjgmekakabaaGreat.FW
open F
open Go Go.Den Go.Proofs
open FI (af ay cS)
open FT (az di bM cc dz aP gm bD iv aq)
open FP (dX tB aV eI bS bI aT cw cT Acc ax fi)
noncomputable def nx (bs:List Int):Option (af×List Int):=match lZ bs with
 | none=>none
 | some r1=>match lZ r1.2 with
  | none=>none
  | some r2=>(cS 200 r1.1 r2.1).map fun m=>(m,r2.2)
section
variable {S:List Nat} {w0 w:World} {ae:List aa}
set_option maxHeartbeats 4000000 in
theorem wG (h:Hp S w0 w ae) (j:Nat) {u:aa} {ks b:Sl} {bs:List Int} {l:KD} (hj:ae[j]? =some u) (hu:Hp.Reads u b 1 eC bs) (hb:Bytes bs) (hl:bs.length<=9000000000000000) (dF:b.len<=b.cap) (jk:Nat) {uk:aa} {ys:List KS} (kN:ae[jk]? =some uk) (Uv:uk.holds=(fZ ks ys).holds) (cU:kinds ys=l) (hm:cC l) {K:Option Addr->Int->World->Prop}
  (da: ∀w',nx bs=none->Hp S w0 w' ae->K none 0 w') (mY: ∀m rest wb w',nx bs=some (m,rest)->rest.length < bs.length->bs.drop (bs.length - rest.length)=rest->Hp S w0 w' (ae++ [iT wb (sJ l m)])->K (some ⟨wb,0,none⟩) ((bs.length - rest.length:Nat):Int) w'):WV ks b w K:=by
 refine Pu ?_
 unfold f69
 obtain⟨vc,i1,i2,i3,i4⟩:=vc
 have gN:=(aft.1 hj).1
 have qB:=h.df j (by rw [hj];rfl) hu
 have gj: ∀{l':List aa},(ae++l')[j]? =some u:=fun{l'}=>by rw [afx gN];exact hj
 have g0: ∀{l:List aa} (k:Nat),(ae++l)[ae.length+k]? =l[k]? :=fun{l} k=>by rw [afv (by omega)];simp
 refine FP.qw h j (by rw [hj];rfl) hu hb hl dF fun s1 X1 n1 w1 ML h=>?_
 have yU:=cT.size ML
 by_cases h1:n1=0
 ·refine aE (by simp [h1]) (da w1 ?_ h.front)
  unfold nx
  rw [rK ML (.inl h1)]
 refine aF (by simpa using h1) ?_
 refine Hp.jT (s:=b) hu qB bx yU.1 (by omega) (by omega) (agr _) (by omega) fun s2 jO EA aei=>?_
 have e1:(bs.take ((b.len:Int)).toNat).drop n1.toNat=bs.drop n1.toNat:=by rw [afu,afE (by omega)]
 rw [e1] at jO
 have eU:Bytes (bs.drop n1.toNat):=fun y hy=>hb y (ag2 hy)
 refine FP.qw h j (u:=u) (by rw [gj];rfl) jO eU (by rw [af4];omega) (by omega) fun s3 X2 n2 w2 Fq h=>?_
 have Ig:=cT.size Fq
 rw [af4] at Ig
 have h:Hp S w0 w2 (ae++ [aj s1 2 1 iv X1,aj s3 2 1 iv X2]):=by
  simp only [afA,af3,aga] at h
  exact h
 have vF:=cT.few ML
 have iH:=cT.few Fq
 have MP:(¬ ∀x∈X1,0<=x /\ x<=1000001)->nx bs=none:=fun hx=>by
  unfold nx
  rw [rK ML (.inr hx)]
 refine rI h (ae.length+0) (u:=aj s1 2 1 iv X1) (X:=X1) (by rw [g0];rfl) Hp.bX (by omega) (fun HF r1 w3 h=>?_) (fun HF w3 h=>?_)
 case refine_2=>
  refine rI h (ae.length+1) (u:=aj s3 2 1 iv X2) (X:=X2) (by rw [g0];rfl) Hp.bX (by omega) (fun vJ r2 w4 h=>?_) (fun vJ w4 h=>?_)
  ·exact aE (by simp) (da w4 (MP HF) h.front.front)
  ·exact aE (by simp) (da w4 (MP HF) h.front)
 have MQ:(n2=0 \/ ¬ ∀x∈X2,0<=x /\ x<=1000001)->nx bs=none:=fun hx=>by
  unfold nx
  rw [rJ ML h1 HF]
  dsimp only
  rw [rK Fq hx]
 rw [afA] at h
 refine rI h (ae.length+1) (u:=aj s3 2 1 iv X2) (X:=X2) (by rw [g0];rfl) Hp.bX (by omega) (fun vJ r2 w4 h=>?_) (fun vJ w4 h=>?_)
 case refine_2=>exact aE (by simp) (da w4 (MQ (.inr vJ)) h.front)
 by_cases h2:n2=0
 ·exact aE (by simp [h2]) (da w4 (MQ (.inl h2)) h.front.front)
 refine aF (by simpa using h2) ?_
 have pF:nx bs=(cS 200 X1 X2).map fun m=>(m,(bs.drop n1.toNat).drop n2.toNat):=by
  unfold nx
  rw [rJ ML h1 HF]
  dsimp only
  rw [rJ Fq h2 vJ]
 have h:Hp S w0 w4 (ae++ [aj s1 2 1 iv X1,aj s3 2 1 iv X2,aj r1 3 1 iv X1,aj r2 3 1 iv X2]):=by
  simp only [afA,af3,aga] at h
  exact h
 refine FI.LG h (ae.length+2) (ae.length+3) (u:=aj r1 3 1 iv X1) (v:=aj r2 3 1 iv X2) (by rw [g0];rfl) (by rw [g0];rfl) Hp.bX Hp.bX (by omega) (fun w5 B6 h=>?_) (fun m pb w5 B6 h=>?_)
 ·exact aE (by simp) (da w5 (by rw [pF,B6];rfl) h.front)
 refine aF (by simp) ?_
 obtain⟨wE,mZ⟩:=FI.Af B6
 have Q2:=(aft.1 kN).1
 have EE:y5 w5 ks l:=by
  obtain⟨O,hO⟩:=h.n9 (i:=jk) (by rw [afA,afx Q2];exact kN)
  rw [Uv] at hO
  rw [<-cU];exact vn hO
 have wo:=hm.2.2.1
 have h4:=hm.1
 refine yO h EE (by omega) (fun x hx=>by have:=(h4 x hx).1;omega) fun r w6 h=>?_
 refine h.nw (c:= [_,_,_]) fun wb w7 h=>?_
 have h:Hp S w0 w7 (ae++ [aj s1 2 1 iv X1,aj s3 2 1 iv X2,aj r1 3 1 iv X1,aj r2 3 1 iv X2]++ [ay 177 pb m,aD r l,ai wb 73 [.slice r.a r.len r.cap,.pointer (some ⟨pb,0,none⟩),.slice none 0 0]]):=by
  simp only [afA,af3,aga] at h ⊢
  exact h
 have h:=h.dY
 refine FI.QV h (ae.length+0) (m:=m) wE.toOk (by rw [g0];rfl) fun all w8 h=>?_
 have h:=h.gE 75 3 rdv gJ fj
 have oc:=af.gB m m.ah.length
 have yz:=wE.toOk.fe
 have bc:=vv (ks:=l) wE.toOk
 have Is:=CC hm wE mZ
 have wi:IntKind.i64.wrap (n1+n2)=((bs.length - ((bs.drop n1.toNat).drop n2.toNat).length:Nat):Int):=by
  rw [aB (by omega) (by omega),af4,af4];omega
 have fin:=mY m ((bs.drop n1.toNat).drop n2.toNat) wb
 rw [<-wi] at fin
 generalize m.eA m.ah.length=es at h oc bc
 have h:Hp S w0 w8 (ae++ [ay 177 pb m,aD r l,ai wb 73 [.slice r.a r.len r.cap,.pointer (some ⟨pb,0,none⟩),.slice none 0 0],aj all 33 2 dz es,aZ ⟨none,0,0⟩ []]):=by
  simp only [afA,af3,aga] at h ⊢
  exact h
 have s0: ∀{l:List aa} (k:Nat) (t:aa),(ae++l).set (ae.length+k) t=ae++l.set k t:=fun{l} k t=>by rw [afI _ _ (by omega)];simp
 have gI:=h.len (s:=all) (e:=33) (n:=2) (f:=dz) (l:=es) (ae.length+3) (by rw [g0];rfl)
 refine⟨fun t mm w'=> ∃(k:Nat) (L:Sl),t=k /\ k<=es.length /\ mm=es.length - k /\ Hp S w0 w' (ae++ [ay 177 pb m,aD r l,ai wb 73 [.slice r.a r.len r.cap,.pointer (some ⟨pb,0,none⟩),.slice L.a L.len L.cap],aj all 33 2 dz es,aZ L ((es.take k).map fun e=>(e,[]))]),⟨es.length,0,⟨none,0,0⟩,rfl,by omega,rfl,h⟩,?_⟩
 clear h
 rintro t mm w9 ⟨k,L,rfl,hk,rfl,h⟩
 by_cases ar:k < es.length
 ·refine aE (by simp;omega) ?_
  have hx:es[k]? =some es[k]:=by simp [ar]
  have cX:es.take (k+1)=es.take k++ [es[k]]:=afG ar
  generalize es[k]=e at hx cX
  refine h.dr fun pj h=>?_
  have kA:=(h.gF (s:=L) (l:=(es.take k).map fun e=>(e,[])) (e:=75) (n:=3) (cells:=rdv) (sub:=gJ) (vis:=fj) (ae.length+4) (by rw [g0];rfl)).1
  rw [afP,afM] at kA
  refine h.ld (n:=2) (k:=.sl) (x:=L) (ae.length+2) (by rw [g0];rfl) rfl ?_
  refine h.sq (s:=all) (l:=es) (f:=dz) (n:=2) (e:=33) (ae.length+3) (by rw [g0];rfl) (by omega) (by rw [afu];exact hx) aP fun ad hc=>?_
  refine ep (k:=.i .i64) (x:=e.1) (hc 0 (by omega)) rfl ?_
  refine j8 (k:=.i .i64) (x:=e.2) (hc 1 (by omega)) rfl ?_
  have h:=h.gE 36 2 cY tV bN
  rw [afA] at h
  refine h.jL (ae.length+4) (ae.length+5) (by omega) ((e,⟨none,0,0⟩,[]):RV) (cells:=rdv) (sub:=gJ) (vis:=fj) (c:= [_,_,_]) (by rw [g0];rfl) (by rw [g0];rfl) rfl cd qk i1 i3 i2 rfl rfl (by simp [rdv,Value.oneCell']) (by rw [i4];omega) (by omega) fun s2 wx h jO=>?_
  rw [s0,s0] at h
  refine h.st (n:=2) (ae.length+2) (by rw [g0];rfl) (by simp) rfl fun z9 h=>?_
  rw [s0] at h
  have h:Hp S w0 z9 (ae++ [ay 177 pb m,aD r l,ai wb 73 [.slice r.a r.len r.cap,.pointer (some ⟨pb,0,none⟩),.slice s2.a s2.len s2.cap],aj all 33 2 dz es,aZ s2 ((es.take k).map (fun e=>(e,[]))++ [(e,[])])]++ [ao]):=by
   rw [afA];exact h
  refine⟨es.length - (k+1),by omega,k+1,s2,by rw [aB (by omega) (by omega)];omega,by omega,rfl,?_⟩
  rw [cX,agh]
  exact h.front
 ·refine aF (by simp;omega) ?_
  rw [afE (by omega),<-bc] at h
  refine fin w9 (by rw [pF,B6];rfl) (by rw [af4,af4];omega) ?_ ?_
  ·rw [agk,af4]
   congr 1
   omega
  ·have h:=h.aL (i:=ae.length+0) (j:=ae.length+4) (by omega) (by rw [g0];rfl) (by rw [g0];rfl) rfl rfl
   rw [s0,s0] at h
   have h:=h.aL (i:=ae.length+1) (j:=ae.length+0) (by omega) (by rw [g0];rfl) (by rw [g0];rfl) rfl rfl
   rw [s0,s0] at h
   have h:=h.aL (i:=ae.length+2) (j:=ae.length+1) (by omega) (by rw [g0];rfl) (by rw [g0];rfl) rfl rfl
   rw [s0,s0] at h
   have h:=h.jA (i:=ae.length+2) Is (by rw [g0];rfl) rfl
   rw [s0] at h
   have h:=h.mg (f:=fun q:RH=>kz (sJ l m).fits (aX (ai wb 73 q.cells) (aX (aD q.K l) (aX (ay 177 q.p m) (aZ q.L (sJ l m).rows))))) (i:=ae.length+2) ⟨r,pb,L⟩ (by rw [g0];rfl) rfl
   rw [s0] at h
   have h:Hp S w0 w9 (ae++ [ao,ao]++ [iT wb (sJ l m)]++ [aj all 33 2 dz es,ao]):=by
    simp only [afA,af3,aga]
    exact h
   exact h.front.nT
end
end Go.Proofs.YtcccjgmekakabaaGreat.FW
end

section
namespace Go.Proofs.YtcccjgmekakabaaGreat.FW
open F
open Go Go.Den Go.Proofs
open FI (af ay cS)
open FT (az di bM cc dz aP gm bD iv aq)
open FP (dX tB aV eI lT bS bI aT cw cT Acc ax fi)
theorem E3 {l:KD} (hm:cC l) (bs:List Int):load l bs=(match nx bs with
  | none=>(none,64)
  | some mr=>match cE l (mr.1.eA mr.1.ah.length) mr.2 (fun _=>none) with
   | none=>(none,64)
   | some r=>if r.2= [] then (some ⟨l,mr.1,r.1⟩,0) else (none,64)):=by
 unfold load nx
 rw [if_neg (by simpa using hm)]
 cases lZ bs with
 | none=>rfl
 | some r1=>
  dsimp only
  cases lZ r1.2 with
  | none=>rfl
  | some r2=>
   dsimp only
   cases cS 200 r1.1 r2.1 with
   | none=>rfl
   | some m=>rfl
theorem tG {ks:KD} {set:Int} {vs:List Int} {i:Nat} {k:ByteArray×List ByteArray} (hk:ks[i]? =some k):
  (fJ ks set vs).getD i none=if bit set (i+1)=1 then some ((vs.drop (eL ks set i)).take k.2.length) else none:=by
 rw [afO,qo hk];rfl
theorem vD {ks:KD} {set:Int} {vs ws:List Int}: ∀j,j<=ks.length->eL ks set j<=vs.length->aY (fJ ks set (vs++ws)) j=aY (fJ ks set vs) j
 | 0,_,_=>rfl
 | j+1,hj,ha=>by
  have hk:ks[j]? =some ks[j]:=by simp [show j < ks.length by omega]
  have hs:=qp (set:=set) hk
  have abd:=qn ks set (show j<=j+1 by omega)
  rw [aY,aY,vD j (by omega) (by omega)]
  rw [tG hk,tG hk]
  by_cases hb:bit set (j+1)=1
  ·rw [if_pos hb] at hs
   rw [if_pos hb,if_pos hb,List.drop_append_of_le_length (by omega),List.take_append_of_le_length (by rw [af4];omega)]
  ·rw [if_neg hb,if_neg hb]
theorem E4 {ks:KD} {set:Int} {vs:List Int} {j:Nat} (hj:j < ks.length) (hb: ¬bit set (j+1)=1):aY (fJ ks set vs) (j+1)=aY (fJ ks set vs) j:=by
 have hk:ks[j]? =some ks[j]:=by simp [hj]
 rw [aY,tG hk,if_neg hb,afH]
theorem IH {ks:KD} {set:Int} {vs ws:List Int} {j:Nat} {k:ByteArray×List ByteArray} (hk:ks[j]? =some k) (hb:bit set (j+1)=1) (hv:vs.length=eL ks set j) (hw:ws.length=k.2.length):
  aY (fJ ks set (vs++ws)) (j+1)=aY (fJ ks set vs) j++ [(((j+1:Nat):Int),ws)]:=by
 have hj:=(aft.1 hk).1
 rw [aY,vD j (by omega) (by omega),tG hk,if_pos hb,<-hv,ahJ,<-hw,agJ]
theorem LO {set:Int} {k:Nat} (h0:0<=set) (h1:set < 18446744073709551616) (hk:k < 64):
  IntKind.u64.wrap ((BitVec.ofInt 64 (Int.fdiv set (2 ^ (min (Int.toNat (k:Int)) 64))) &&& BitVec.ofInt 64 1).toNat:Nat)=bit set k:=by
 obtain⟨s,rfl⟩: ∃s:Nat,set=s:=⟨set.toNat,by omega⟩
 rw [afu,show min k 64=k by omega]
 have Zf:Int.fdiv (s:Int) (2 ^ k)=((s / 2 ^ k:Nat):Int):=by
  rw [ag4 _ (by exact_mod_cast Nat.zero_le _)];simp
 have hle:s / 2 ^ k<=s:=Nat.div_le_self _ _
 rw [Zf,DC (by omega)]
 unfold bit
 simp
theorem II {k:Nat} (hk:k<=13):IntKind.u64.wrap (1*2 ^ (min (Int.toNat (k:Int)) 64))=((2 ^ k:Nat):Int):=by
 have:(2:Nat) ^ k<=2 ^ 13:=ag1 (by omega) hk
 rw [afu,show min k 64=k by omega,FP.kH]
 have e:(1*2 ^ k:Int)=((2 ^ k:Nat):Int):=by simp
 rw [e]
 have ZN:(2:Nat) ^ 13=8192:=by decide
 rw [ZN] at this
 generalize (2:Nat) ^ k=x at this ⊢
 omega
theorem yS {s k:Nat}:((2 ^ k:Nat):Int)<=(s:Int)↔(s:Int) / 2 ^ k≠0:=by
 have e:((s:Int) / 2 ^ k)=((s / 2 ^ k:Nat):Int):=by simp
 rw [e]
 constructor
 ·intro h h2
  have:0 < s / 2 ^ k:=Nat.div_pos (by omega) (ain _)
  omega
 ·intro h
  rcases ahY s (2 ^ k) with h2 | h2
  ·rw [Nat.div_eq_of_lt h2] at h;exact absurd rfl h
  ·omega
end Go.Proofs.YtcccjgmekakabaaGreat.FW
end

section
namespace Go.Proofs.YtcccjgmekakabaaGreat.FW
open F
open Go Go.Den Go.Proofs
open FI (af ay cS)
open FT (az di bM cc dz aP gm bD iv aq)
open FP (dX tB aV eI lT bS bI aT cw cT Acc ax fi bz)
section
variable {S:List Nat} {w0 w:World} {ae:List aa}
set_option maxHeartbeats 16000000 in
theorem DL (h:Hp S w0 w ae) (j:Nat) {u:aa} {ks b:Sl} {bs:List Int} {l:KD} (hj:ae[j]? =some u) (hu:Hp.Reads u b 1 eC bs) (hb:Bytes bs) (hl:bs.length<=9000000000000000) (dF:b.len<=b.cap) (jk:Nat) {uk:aa} {ys:List KS} (kN:ae[jk]? =some uk) (Uv:uk.holds=(fZ ks ys).holds) (cU:kinds ys=l)
  (nH:l.length<=10000000) (dw: ∀x∈l,x.2.length<=10000000 /\ x.1.size<=1000000000000 /\ ∀y∈x.2,y.size<=1000000000000) {K:Option Addr->Int->World->Prop}
  (da: ∀e w',load l bs=(none,e)->Hp S w0 w' ae->K none e w') (mY: ∀a wb w',load l bs=(some a,0)->Hp S w0 w' (ae++ [iT wb a])->K (some ⟨wb,0,none⟩) 0 w'):WI ks b w K:=by
 refine Oo ?_
 unfold f21
 obtain⟨jC,q1,q2,q3,q4⟩:=FT.jC
 obtain⟨H7,i1,i2,i3,i4⟩:=xC
 have gN:=(aft.1 hj).1
 have Q2:=(aft.1 kN).1
 have qB:=h.df j (by rw [hj];rfl) hu
 have EE:y5 w ks l:=by
  obtain⟨O,hO⟩:=h.n9 kN
  rw [Uv] at hO
  rw [<-cU];exact vn hO
 have ZI:=EE.len
 refine EN EE nH dw fun w1 vF=>?_
 have h:=h.cB vF
 by_cases hm:cC l
 case neg=>
  refine aE (by simp [hm]) (da 65 w1 ?_ h)
  unfold load;rw [if_pos hm]
 refine aF (by simp [hm]) ?_
 have eK:=E3 hm bs
 refine wG h j hj hu hb hl dF jk kN Uv cU hm (fun w2 pF h=>?_) (fun m rest wb w2 pF fv cq h=>?_)
 ·rw [pF] at eK
  exact aE (by simp) (da 64 w2 eK h)
 rw [pF] at eK
 dsimp only at eK
 refine aF (by simp;omega) ?_
 have pa: ∀x∈l,x.2.length<=4:=fun x hx=>(hm.1 x hx).1
 have wo:1<=l.length /\ l.length<=12:=⟨hm.2.1,hm.2.2.1⟩
 have gj: ∀{l':List aa},(ae++l')[j]? =some u:=fun{l'}=>by rw [afx gN];exact hj
 have gjk: ∀{l':List aa},(ae++l')[jk]? =some uk:=fun{l'}=>by rw [afx Q2];exact kN
 have g0: ∀{l:List aa} (k:Nat),(ae++l)[ae.length+k]? =l[k]? :=fun{l} k=>by rw [afv (by omega)];simp
 have s0: ∀{l:List aa} (k:Nat) (t:aa),(ae++l).set (ae.length+k) t=ae++l.set k t:=fun{l} k t=>by rw [afI _ _ (by omega)];simp
 obtain⟨O,h1,back⟩:=h.X0 (i:=ae.length+0) (j:=j) (j':=jk) (by omega) (by omega) (by rw [g0];rfl) gj gjk rfl
 clear h
 obtain⟨q,IJ,h⟩:=tz h1
 clear h1
 have IK:=vv (ks:=l) (m:=m) IJ.1.u6
 have wE:m.Hl:=IJ.1.Ck
 have mZ:m.aA=200:=IJ.1.aA
 have y7: ∀{b':Sl} {c:List Int},Hp.Reads u b' 1 eC c->Hp.Reads u.ro b' 1 eC c:=fun hr=>⟨fun{w O} h=>hr.rd h⟩
 have Q3:uk.ro.holds=(fZ ks ys).holds:=Uv
 have Cx:(m.eA m.ah.length).length<=200:=by
  have h1:=af.gB m m.ah.length
  have h2:=wE.toOk.fe
  omega
 have bE:(m.eA m.ah.length).Nodup:=by
  rw [agE]
  refine ahX (fun{x y} h e=>?_) (FI.iA m m.ah.length).2
  rw [e] at h;omega
 have cP: ∀e,e∈m.eA m.ah.length↔m.is e.1 e.2=true:=fun e=>vo wE.toOk
 have MR: ∀row:bM->Option PL,(⟨l,m,row⟩:WA).rows=(m.eA m.ah.length).map fun e=>(e,partsOf ((row e).getD [])):=fun row=>rfl
 rw [IK] at h
 generalize m.eA m.ah.length=es at eK h Cx bE cP MR IK
 have h:Hp O w2 w2 [ai wb 73 q.cells,aD q.K l,ay 177 q.p m,aZ q.L (es.map fun e=>(e,[])),u.ro,uk.ro]:=h
 refine⟨fun at_ t mm w'=> ∃(k:Nat) (cur:List Int) (row:bM->Option PL) (R:List gL),t=k /\ k<=es.length /\ mm=es.length - k /\ at_=((bs.length - cur.length:Nat):Int) /\ cur.length<=bs.length /\ bs.drop (bs.length - cur.length)=cur /\
   cE l (es.drop k) cur row=cE l es rest (fun _=>none) /\ (∀e,(row e).isSome=true↔e∈es.take k) /\ (∀e p,row e=some p->dX (flat p) /\ p.fit l) /\
   R=(es.take k).map (fun e=>(e,partsOf ((row e).getD [])))++(es.drop k).map (fun e=>(e,[])) /\
   Hp O w2 w' [ai wb 73 q.cells,aD q.K l,ay 177 q.p m,aZ q.L R,u.ro,uk.ro],
  ⟨es.length,0,rest,fun _=>none,_,rfl,by omega,rfl,rfl,by omega,cq,rfl,by simp,by simp,by simp,h⟩,?_⟩
 clear h cq fv
 rintro at_ t mm w3 ⟨k,cur,row,R,rfl,hk,rfl,rfl,qA,DM,cq,ei,Az,hR,h⟩
 have bad: ∀{w':World} {ts:List aa},Hp O w2 w' ts->cE l es rest (fun _=>none)=none \/ (∃r,cE l es rest (fun _=>none)=some r /\ r.2≠ [])->K none 64 w':=fun{w' ts} h ff=>by
  refine da 64 w' ?_ ?_
  ·rw [eK]
   rcases ff with ff | ⟨r,hr,aR⟩
   ·rw [ff]
   ·rw [hr];dsimp only;rw [if_neg aR]
  ·have h2:=h.EC.trim 1
   have:=back (t':=ao) (rest:= []) rfl rfl h2
   rw [afH,s0] at this
   exact this.front
 have YO:R.length=es.length:=by rw [hR];simp;omega
 have Uh:=(h.gF (s:=q.L) (l:=R) (e:=75) (n:=3) (cells:=rdv) (sub:=gJ) (vis:=fj) 3 rfl).1
 refine bg ?_
 refine h.ld (n:=2) (k:=.sl) (x:=q.L) 0 rfl rfl ?_
 have MS: ∀{c:List Int} {K':Sl->Prop},c.length<=bs.length->bs.drop (bs.length - c.length)=c->(∀s',Hp.Reads u.ro s' 1 eC c->s'.len=c.length->K' s')->Cut ⟨b.a,b.len,b.cap⟩ ((bs.length - c.length:Nat):Int) (b.len:Int) (b.cap:Int) 1 K':=fun{c K'} Ep jE hK'=>by
  refine Hp.jT (s:=b) (y7 hu) qB bx (by omega) (by omega) (by omega) (agr _) (by omega) fun s' qy cW _=>?_
  have e1:(bs.take ((b.len:Nat):Int).toNat).drop ((bs.length - c.length:Nat):Int).toNat=c:=by rw [afu,afu,afE (by omega),jE]
  rw [e1] at qy
  exact hK' s' qy (by rw [cW,afu,afu];omega)
 have me: ∀{c:List Int} {n:Int},c.length<=bs.length->bs.drop (bs.length - c.length)=c->0<=n->n<=c.length->IntKind.i64.wrap (((bs.length - c.length:Nat):Int)+n)=((bs.length - (c.drop n.toNat).length:Nat):Int) /\ (c.drop n.toNat).length<=bs.length /\ bs.drop (bs.length - (c.drop n.toNat).length)=c.drop n.toNat:=fun{c n} Ep jE xz tU=>by
  have e1:bs.length - (c.drop n.toNat).length=(bs.length - c.length)+n.toNat:=by rw [af4];omega
  refine⟨by rw [aB (by omega) (by omega),e1];omega,by rw [af4];omega,?_⟩
  rw [e1,<-agk,jE]
 have LP: ∀{c:List Int},bs.drop (bs.length - c.length)=c->Bytes c:=fun{c} hc x hx=>hb x (by rw [<-hc] at hx;exact ag2 hx)
 by_cases ar:k < es.length
 ·refine aE (by simp;omega) ?_
  have hx:es[k]? =some es[k]:=by simp [ar]
  have xi:es.drop k=es[k] :: es.drop (k+1):=agf ar
  have cX:es.take (k+1)=es.take k++ [es[k]]:=afG ar
  have sV:es[k] ∉ es.take k:=fun Qt=>by
   obtain⟨j0,Ib⟩:=afT Qt
   have Ic:=(aft.1 Ib).1
   rw [agc] at Ib
   split at Ib
   ·have:=(agF (i:=j0) (j:=k) (l:=es) (by simp at Ic;omega) bE).1 (by rw [Ib,hx])
    simp at Ic;omega
   ·cases Ib
  generalize es[k]=e at hx xi cX sV
  rw [xi] at cq
  have hRk:R[k]? =some (e,[]):=by
   rw [hR,xi,afv (by simp;omega)]
   simp [show k - min k es.length=0 by omega]
  refine MS qA DM fun s2 jO EA=>?_
  refine FP.k7 h 4 (u:=u.ro) rfl jO (LP DM) (by omega) ?_
  have QP:=bz (LP DM)
  rw [cE] at cq
  generalize hgu:ax cur=gu at QP cq ⊢
  obtain⟨set,sz⟩:=gu
  dsimp only at QP cq ⊢
  obtain⟨z0,z1,y0,y1,y10,_⟩:=QP
  obtain⟨sn,rfl⟩: ∃sn:Nat,set=sn:=⟨set.toNat,by omega⟩
  refine⟨fun w'=> ¬(sz=0 \/ (sn:Int) % 2=1 \/ (sn:Int) / 2 ^ (l.length+1)≠0) /\ w'=w3,?_,?_⟩
  ·by_cases hz:sz=0
   ·refine aE (by simp [hz]) (bad h (.inl ?_))
    rw [<-cq,if_pos (.inl hz)]
   refine aF (by simpa using hz) ?_
   refine⟨by omega,?_⟩
   have Y7:Int.tmod (sn:Int) 2=(sn:Int) % 2:=ahE (by omega)
   rw [Y7]
   by_cases Ie:(sn:Int) % 2=1
   ·refine aE (by simpa using Ie) (bad h (.inl ?_))
    rw [<-cq,if_pos (.inr (.inl Ie))]
   refine aF (by simpa using Ie) ?_
   have I4:IntKind.i64.wrap ((ks.len:Int)+1)=((l.length+1:Nat):Int):=by rw [aB (by omega) (by omega)];omega
   rw [I4,II (by omega)]
   refine⟨by omega,?_⟩
   by_cases qt:(sn:Int) / 2 ^ (l.length+1)=0
   ·refine aF ?_ ⟨?_,rfl⟩
    ·have:=mt (yS (s:=sn) (k:=l.length+1)).1 (by simpa using qt)
     simpa using this
    ·rintro(h | h | h)
     ·exact hz h
     ·omega
     ·exact h qt
   ·refine aE ?_ (bad h (.inl ?_))
    ·have:=(yS (s:=sn) (k:=l.length+1)).2 qt
     simpa using this
    ·rw [<-cq,if_pos (.inr (.inr qt))]
  rintro w' ⟨fY,rfl⟩
  rw [if_neg fY] at cq
  simp only [not_or,ahW] at fY
  obtain⟨hz,hev,qt⟩:=fY
  have QQ:sn < 8192:=by
   have: ¬((2 ^ (l.length+1):Nat):Int)<=(sn:Int):=mt yS.1 (by simpa using qt)
   have h2:=(ag1 (n:=2) (by omega) (show l.length+1<=13 by omega))
   have ZN:(2:Nat) ^ 13=8192:=by decide
   rw [ZN] at h2
   generalize (2:Nat) ^ (l.length+1)=x at this h2
   omega
  obtain⟨a1,a2,a3⟩:=me qA DM y0 y1
  rw [a1]
  generalize cur.drop sz.toNat=dg at a1 a2 a3 cq ⊢
  have Zg:=fR pa (sn:Int) l.length
  refine⟨fun uw kk m3 w'=> ∃(i:Nat) (wH vs:List Int),kk=((i+1:Nat):Int) /\ i<=l.length /\ m3=l.length - i /\ uw=((bs.length - wH.length:Nat):Int) /\ wH.length<=bs.length /\ bs.drop (bs.length - wH.length)=wH /\
    vs.length=eL l sn i /\ dX vs /\ cZ (eL l sn l.length) dg=(cZ (eL l sn l.length - vs.length) wH).map (fun r=>(vs++r.1,r.2)) /\
    Hp O w2 w' [ai wb 73 q.cells,aD q.K l,ay 177 q.p m,aZ q.L (R.set k (e,aY (fJ l sn vs) i)),u.ro,uk.ro],
   ⟨l.length,0,dg,[],rfl,by omega,rfl,rfl,a2,a3,rfl,(fun x hx=>by cases hx),by simp,by rw [show R.set k (e,aY (fJ l sn []) 0)=R from Hp.ru hRk];exact h⟩,?_⟩
  clear h a1 a2 a3
  rintro uw kk m3 w4 ⟨i,wH,vs,rfl,hi,rfl,rfl,Q4,CK,gi,xD,gK,h⟩
  by_cases ky:i < l.length
  ·refine aE (by simp;omega) ⟨by omega,?_⟩
   rw [LO (by omega) (by omega) (by omega)]
   by_cases kp:bit (sn:Int) (i+1)=1
   case neg=>
    have qI:bit (sn:Int) (i+1)=0:=by unfold bit at kp ⊢;omega
    refine aE (by rw [qI];rfl) ⟨l.length - (i+1),by omega,i+1,wH,vs,by rw [aB (by omega) (by omega)];omega,by omega,rfl,rfl,Q4,CK,?_,xD,gK,?_⟩
    ·rw [eL,if_neg kp,gi];rfl
    ·rw [E4 ky kp];exact h
   refine aF (by rw [kp];simp) ?_
   have vI:ys.length=l.length:=by rw [<-cU];simp [kinds]
   have Bb:ys[i]? =some (ys[i]'(by omega)):=by simp [show i < ys.length by omega]
   generalize ys[i]'(by omega)=y at Bb
   have wF:l[i]? =some (y.1,y.2.2):=by rw [<-cU];unfold kinds;rw [afC,Bb];rfl
   have Jn:=(vl h 5 (s:=ks) (xs:=ys) (by rw [<-Q3];rfl) y (afz Bb)).2
   have RC:y.2.2.length<=4:=pa _ (afz wF)
   have Uw:=qp (set:=(sn:Int)) wF
   rw [if_pos kp] at Uw
   have aem:=qn l (sn:Int) (show i+1<=l.length by omega)
   dsimp only at Uw
   refine h.nw (c:= [_,_]) fun pb w5 h=>?_
   refine h.iR 6 rfl (by simp) rfl fun w6 h=>?_
   refine h.st (n:=1) 6 rfl (by simp) rfl fun w7 h=>?_
   have h:=h.nil 2 1 iv
   have h:Hp O w2 w7 [ai wb 73 q.cells,aD q.K l,ay 177 q.p m,aZ q.L (R.set k (e,aY (fJ l sn vs) i)),u.ro,uk.ro,ai pb 36 [.int .i64 ((i+1:Nat):Int),.slice none 0 0],aj ⟨none,0,0⟩ 2 1 iv []]:=h
   refine⟨fun BH jj m5 w'=> ∃(jn:Nat) (my ws:List Int) (V:Sl),jj=(jn:Int) /\ jn<=y.2.2.length /\ m5=y.2.2.length - jn /\ BH=((bs.length - my.length:Nat):Int) /\ my.length<=bs.length /\ bs.drop (bs.length - my.length)=my /\
     ws.length=jn /\ dX ws /\ cZ (eL l sn l.length) dg=(cZ (eL l sn l.length - vs.length - jn) my).map (fun r=>(vs++ws++r.1,r.2)) /\
     Hp O w2 w' [ai wb 73 q.cells,aD q.K l,ay 177 q.p m,aZ q.L (R.set k (e,aY (fJ l sn vs) i)),u.ro,uk.ro,ai pb 36 [.int .i64 ((i+1:Nat):Int),.slice V.a V.len V.cap],aj V 2 1 iv ws],
    ⟨y.2.2.length,0,wH,[],⟨none,0,0⟩,rfl,by omega,rfl,rfl,Q4,CK,rfl,(fun x hx=>by cases hx),by simpa using gK,h⟩,?_⟩
   clear h
   rintro BH jj m5 w8 ⟨jn,my,ws,V,rfl,Js,rfl,rfl,Q5,vE,RI,hwr,RN,h⟩
   have xf:=h.len (s:=V) (l:=ws) (e:=2) (n:=1) (f:=iv) 7 rfl
   have I4:IntKind.i64.wrap (((i+1:Nat):Int) - 1)=(i:Int):=by rw [aB (by omega) (by omega)];omega
   rw [I4]
   refine h.vH 5 (u:=uk.ro) rfl (nY Q3) (by omega) (by simpa using (show i < ys.length by omega)) fun x y4=>?_
   rw [afu]
   refine h.A6 (m:=1) (k:=.sl) (v:=y.2.1) 5 (u:=uk.ro) rfl (nY Q3) y4 aU Bb rfl ?_
   by_cases gN:jn < y.2.2.length
   ·refine aE (by simp;omega) ?_
    refine MS Q5 vE fun s3 I1 aen=>?_
    refine FP.qd h 4 (u:=u.ro) rfl I1 (LP vE) (by omega) ?_
    obtain⟨x0,x1,x2,x3,x4,_⟩:=bz (LP vE)
    have Zl:fi my=(lT (ax my).1,(ax my).2):=rfl
    have FU:eL l sn l.length - vs.length - jn=(eL l sn l.length - vs.length - (jn+1))+1:=by omega
    rw [FU,cZ] at RN
    by_cases Ig:(fi my).2=0
    ·refine aE (by simp [Ig]) (bad h (.inl ?_))
     rw [if_pos Ig] at RN
     rw [<-cq,RN];rfl
    refine aF (by simpa using Ig) ?_
    rw [if_neg Ig] at RN
    have td:(fi my).2=(ax my).2:=rfl
    obtain⟨b1,b2,b3⟩:=me Q5 vE (n:=(fi my).2) (by omega) (by omega)
    refine h.ld (n:=1) (k:=.sl) (x:=V) 6 rfl rfl ?_
    refine h.bL 7 ((fi my).1) (c:= [_]) rfl aq FT.eO q1 q3 q2 rfl rfl (by simp [iv,Value.oneCell']) (by rw [q4];omega) (by omega) fun V2 w9 h _ _=>?_
    refine h.st (n:=1) 6 rfl (by simp) rfl fun pj h=>?_
    refine⟨y.2.2.length - (jn+1),by omega,jn+1,my.drop (fi my).2.toNat,ws++ [(fi my).1],V2,by rw [aB (by omega) (by omega)];omega,by omega,rfl,b1,b2,b3,by simp [RI],?_,?_,h⟩
    ·intro z hz
     rcases afB.1 hz with hz | hz
     ·exact hwr z hz
     ·simp only [afF] at hz
      subst hz
      rw [Zl]
      exact DB x0 x1
    ·rw [RN,Option.map_map]
     congr 1
     funext r
     simp
   ·refine aF (by simp;omega) ?_
    obtain rfl:jn=y.2.2.length:=by omega
    refine h.dr fun w9 h=>?_
    refine bg (h.ld (n:=2) (k:=.sl) (x:=q.L) 0 rfl rfl (bg (h.ld (n:=2) (k:=.sl) (x:=q.L) 0 rfl rfl ?_)))
    have mw:(R.set k (e,aY (fJ l sn vs) i))[k]? =some (e,aY (fJ l sn vs) i):=by rw [afX (by omega)]
    obtain⟨xs,x',iF,vL,I3,h⟩:=h.LH (i:=3) (k:=k) rfl mw (fun _=>rfl)
    have h:Hp O w2 w9 [ai wb 73 q.cells,aD q.K l,ay 177 q.p m,aj q.L 75 3 rdv xs,u.ro,uk.ro,ai pb 36 [.int .i64 ((i+1:Nat):Int),.slice V.a V.len V.cap],aj V 2 1 iv ws,an ((xs.map gJ).set k ao),bn x'.2.1 x'.2.2]:=h
    have HF:x'.1=e:=congrArg Prod.fst I3
    have vJ:x'.2.2=aY (fJ l sn vs) i:=congrArg Prod.snd I3
    have aeo:xs.length=es.length:=by have:=congrArg List.length iF;simp only [afP,agi] at this;omega
    refine h.sq (s:=q.L) (l:=xs) (f:=rdv) (n:=3) (e:=75) 3 rfl (by omega) (by rw [afu];exact vL) cd fun ad hc=>?_
    refine j8 (k:=.sl) (x:=x'.2.1) (hc 2 (by omega)) rfl ?_
    refine h.cx (k:=.i .i64) (x:=((i+1:Nat):Int)) 6 rfl rfl ?_
    refine h.ld (n:=1) (k:=.sl) (x:=V) 6 rfl rfl ?_
    have yG:=(h.gF (s:=x'.2.1) (l:=x'.2.2) (e:=36) (n:=2) (cells:=cY) (sub:=tV) (vis:=bN) 9 rfl).1
    have QZ:=g9 (fJ l sn vs) i
    rw [<-vJ] at QZ
    refine h.jL (e:=36) (n:=2) (l:=x'.2.2) (s:=x'.2.1) 9 7 (by omega) ((((i+1:Nat):Int),V,ws):PV) (cells:=cY) (sub:=tV) (vis:=bN) (c:= [_,_]) rfl rfl rfl aW qj i1 i3 i2 rfl rfl (by simp [cY,Value.oneCell']) (by rw [i4];omega) (by omega) fun P2 pj h hP2=>?_
    have h:Hp O w2 pj [ai wb 73 q.cells,aD q.K l,ay 177 q.p m,aj q.L 75 3 rdv xs,u.ro,uk.ro,ai pb 36 [.int .i64 ((i+1:Nat):Int),.slice V.a V.len V.cap],ao,an ((xs.map gJ).set k ao),bn P2 (x'.2.2++ [(((i+1:Nat):Int),ws)])]:=h
    refine⟨h.IZ (n:=2) 0 rfl rfl,?_⟩
    refine h.Db (s:=q.L) (l:=xs) (f:=rdv) (n:=3) (e:=75) 3 (y:=x') (y':=(x'.1,P2,x'.2.2++ [(((i+1:Nat):Int),ws)])) (m:=2) rfl (by omega) (by rw [afu];exact vL) cd (by omega) rfl rfl fun wx h=>?_
    rw [afu] at h
    have h:=h.EV (i:=3) (j:=8) (m:=9) (k:=k) (cells:=rdv) (sub:=gJ) (vis:=fj) (xs:=xs) (x':=(x'.1,P2,x'.2.2++ [(((i+1:Nat):Int),ws)])) (by omega) (by omega) (by omega) (by omega) rfl rfl rfl rfl
    have h:Hp O w2 wx ([ai wb 73 q.cells,aD q.K l,ay 177 q.p m,aZ q.L ((xs.map fj).set k (x'.1,x'.2.2++ [(((i+1:Nat):Int),ws)])),u.ro,uk.ro]++ [ai pb 36 [.int .i64 ((i+1:Nat):Int),.slice V.a V.len V.cap],ao,ao,ao]):=h
    rw [iF,agz,HF,vJ,<-IH wF kp gi RI] at h
    refine⟨l.length - (i+1),by omega,i+1,my,vs++ws,by rw [aB (by omega) (by omega)];omega,by omega,rfl,rfl,Q5,vE,by rw [afw,RI];omega,?_,?_,h.front⟩
    ·intro z hz
     rcases afB.1 hz with hz | hz
     ·exact xD z hz
     ·exact hwr z hz
    ·rw [RN,afw,RI,Nat.sub_sub]
  ·refine aF (by simp;omega) ?_
   obtain rfl:i=l.length:=by omega
   rw [gi,af9,cZ] at gK
   have gK:cZ (eL l sn l.length) dg=some (vs,wH):=by rw [gK];simp
   rw [gK] at cq
   dsimp only at cq
   have rf:=vj gi
   have qC:=AG gi
   have hpo:aY (fJ l sn vs) l.length=partsOf (fJ l sn vs):=by unfold partsOf;rw [nq]
   rw [hpo] at h
   generalize fJ l sn vs=p at cq rf qC h
   refine⟨es.length - (k+1),by omega,k+1,wH,aH row e (some p),R.set k (e,partsOf p),by rw [aB (by omega) (by omega)];omega,by omega,rfl,rfl,Q4,CK,cq,fun x=>?_,fun x p' Br=>?_,?_,h⟩
   ·rw [cX]
    unfold aH
    by_cases Fj:x=e
    ·rw [if_pos Fj];simp [Fj]
    ·rw [if_neg Fj,ei x];simp [Fj]
   ·unfold aH at Br
    split at Br
    ·obtain rfl:=afK Br
     rw [rf];exact⟨xD,qC⟩
    ·exact Az x p' Br
   ·rw [hR,cX,xi,agl,afI _ _ (by simp;omega)]
    have e0:k - ((es.take k).map (fun e=>(e,partsOf ((row e).getD [])))).length=0:=by simp;omega
    rw [e0,afN,agh]
    have e1:(es.take k).map (fun x=>(x,partsOf ((aH row e (some p) x).getD [])))=(es.take k).map (fun x=>(x,partsOf ((row x).getD []))):=by
     refine ahu fun x hx=>?_
     unfold aH
     rw [if_neg (fun Fj:x=e=>sV (by rw [<-Fj];exact hx))]
    rw [e1]
    simp [aH]
 ·refine aF (by simp;omega) ?_
  obtain rfl:k=es.length:=by omega
  rw [agq (afV _),cE] at cq
  rw [agJ] at ei
  rw [agJ,agq (afV _),ahq,afH] at hR
  by_cases Ly:cur= []
  ·refine aF (by simp;rw [Ly];simp;omega) ?_
   have QS:load l bs=(some ⟨l,m,row⟩,0):=by rw [eK,<-cq];dsimp only;rw [if_pos Ly]
   have QT:(⟨l,m,row⟩:WA).fits:=⟨⟨wE,mZ,hm,(fun e=>by
    have h1:=ei e
    have h2:=cP e
    show (row e).isSome=m.is e.1 e.2
    cases ha:(row e).isSome with
    | true=>exact(h2.1 (h1.1 ha)).symm
    | false=>
     cases hb:m.is e.1 e.2 with
     | false=>rfl
     | true=>rw [h1.2 (h2.2 hb)] at ha;cases ha),fun e p hp=>(Az e p hp).1⟩,fun e p hp=>(Az e p hp).2⟩
   refine mY _ wb w3 QS ?_
   rw [hR,<-MR] at h
   have h:=qv (b:=wb) (a:=⟨l,m,row⟩) q (rest:= [u.ro,uk.ro]) QT h
   have:=back (t':=iT wb ⟨l,m,row⟩) (rest:= []) rfl rfl (h.trim 1)
   rw [afH,s0] at this
   exact this
  ·have kx:0 < cur.length:=List.length_pos_iff.2 Ly
   refine aE (by simp;omega) (bad h (.inr ⟨(row,cur),cq.symm,Ly⟩))
end
end Go.Proofs.YtcccjgmekakabaaGreat.FW
end

section
namespace Go.Proofs.YtcccjgmekakabaaGreat.FW
open F
open Go Go.Den Go.Proofs Go.RowKit
theorem Ux:Tryz.prog.underlying 107=some (.struct (Tryz.prog.fieldsOf 107)):=by kernel_rfl
theorem Uy:Tryz.prog.cellsOf 9=1:=by kernel_rfl
theorem Uz:Tryz.prog.cellsOf 45=1:=by kernel_rfl
theorem UA:Tryz.prog.cellsOf 107=2:=by kernel_rfl
theorem IL {w:World} {B n:Nat} {cs:List Value} (h:tj Tryz.prog w B n 45 cs): ∃(s:Sl) (l:List ByteArray) (o:List Nat),cs= [.slice s.a s.len s.cap] /\ cf w s 1 sv l o /\ l.length<=B /\ s.len<=s.cap /\ ∀x∈l,x.size<=B:=by
 obtain⟨s,l,o,h1,h2,h3,_,h4,h5⟩:=um (f:=sv) (G:=fun x=>x.size<=B) p6 Uy (by omega) (fun m ci _ hr=>by
  obtain⟨x,hx,_,h⟩:=wW KY hr
  exact⟨x,hx,h⟩) h
 exact⟨s,l,o,h1,h2,h4,h5,h3⟩
theorem IM {w:World} {B m:Nat} {ci:List Value} (hl:ci.length=2) (h:tj Tryz.prog w B m 107 ci):
  ∃x:KS,ci=du x /\ x.2.1.len<=x.2.1.cap /\ (∃o,cf w x.2.1 1 sv x.2.2 o) /\ x.2.2.length<=B /\ x.1.size<=B /\ ∀y∈x.2.2,y.size<=B:=by
 obtain⟨_,q,hf⟩:=DU Ux h
 match ci,hl with
 | [c0,c1],_=>
  obtain⟨m0,e0,_,h0⟩:=wW KY (zq hf 0 (ft:=9) (off:=0) (sz:=1) (by kernel_rfl) Uy)
  obtain⟨s,l,o,e1,h1,h2,h3,h4⟩:=IL (zq hf 1 (ft:=45) (off:=1) (sz:=1) (by kernel_rfl) Uz)
  simp only [ahv,List.drop_succ_cons,ah4,List.take_zero,ahr,and_true] at e0 e1
  subst e0 e1
  exact⟨(m0,s,l),rfl,h3,⟨o,h1⟩,h2,h0,h4⟩
theorem E5 {w:World} {B n:Nat} {a:Option Addr} {len cap:Nat} (h:tj Tryz.prog w B n 22 [.slice a len cap]):
  ∃(ys:List KS) (O:List Nat),(fZ ⟨a,len,cap⟩ ys).holds w O /\ ys.length<=B /\ ∀x∈ys,x.2.2.length<=B /\ x.1.size<=B /\ ∀y∈x.2.2,y.size<=B:=by
 obtain⟨s,l,o,h1,h2,h3,_,h4,h5⟩:=um (f:=du) (G:=fun x=>x.2.1.len<=x.2.1.cap /\ (∃o,cf w x.2.1 1 sv x.2.2 o) /\ x.2.2.length<=B /\ x.1.size<=B /\ ∀y∈x.2.2,y.size<=B) dR UA (by omega) (fun m ci hl hr=>IM hl hr) h
 simp only [ahr,Value.slice.injEq,and_true] at h1
 obtain⟨rfl,rfl,rfl⟩:=h1
 refine⟨l,List.range w.heap.size,⟨fun k hk=>agC.1 hk,⟨o,h2,fun k hk=>agC.2 (h2.lt k hk)⟩,fun x hx=>?_⟩,h4,fun x hx=>(h3 x hx).2.2⟩
 obtain⟨q1,⟨o',q2⟩,_⟩:=h3 x hx
 exact⟨q1,o',q2,fun k hk=>agC.2 (q2.lt k hk)⟩
end Go.Proofs.YtcccjgmekakabaaGreat.FW
end

section
namespace Go.Proofs.YtcccjgmekakabaaGreat.FW
open F
open Go Go.Den Go.Proofs Go.RowKit
open FI (af ay cS)
open FT (bM dz aP iv aq)
open FP (dX tB cT)
def wI:ByteArray:=⟨#[0,0,0,0,0,0,0,0]⟩
theorem AZ (a b:ByteArray):bV (a++b)=bV a++bV b:=by
 unfold bV
 rw [<-agh,<-Array.toList_append,<-ByteArray.data_append]
theorem E6:bV wI=List.replicate 8 0:=by decide+kernel
theorem CL (a:WA) (e:bM):(a.cI e).1.ks=a.ks:=by
 unfold WA.cI;split <;> rfl
theorem IN (a:WA) (ps:List Part):(a.spawn ps).1.ks=a.ks:=by
 unfold WA.spawn;split
 ·rfl
 ·split <;> rfl
section
variable {S:List Nat} {w0 w:World} {ae:List aa}
theorem xS (h:Hp S w0 w ae) {s:ByteArray} {K:Sl->World->Prop} (hK: ∀x w',x.len=s.size->x.len<=x.cap->Hp S w0 w' (ae++ [kG x 1 eC (bV s)])->K x w'):bZ .sl Tryz.prog (convert 9 23 (.string s)) w K:=by
 obtain⟨x,w',hr,hx⟩:=zS h (K:=fun x w'=>x.len=s.size /\ x.len<=x.cap->K x w') (s:=s) (fun x w' h hx=>hK x w' hx.1 hx.2 h)
 refine⟨x,w',hr,hx ?_⟩
 have:=Lib.run_convert_string_bytes w 9 23 5 s KY zR Tb
 have hh:=hr.symm.trans this
 injection hh with h1 h2
 simp only [Kd.inj,Value.slice.injEq] at h1
 obtain⟨_,h3,h4⟩:=h1
 exact⟨h3,by rw [h3,h4];exact grownCap_ge _ _ _ _⟩
def oF:aa:=iN ⟨none,0,0⟩ []
theorem E7 (h:Hp S w0 w ae):Hp S w0 w (ae++ [oF]):=h.grow (Fr.refl _ _) (t:=oF) (O:= []) ⟨by simp,⟨[],cf.nil rfl,by simp⟩,by simp⟩ (by simp) rfl
set_option maxHeartbeats 8000000 in
theorem sM (h:Hp S w0 w ae) (jk jl:Nat) {ks l:Sl} {ys:List KS} {u ul:aa} {b:ByteArray} {bs:List Int} (kN:(ae[jk]?).map aa.holds=some u.holds) (gN:(ae[jl]?).map aa.holds=some ul.holds) (hu:u.holds=(fZ ks ys).holds) (LK:Hp.Reads ul l 1 eC (bs++List.replicate 8 0)) (hb:bV b=bs) (S4:l.len<=l.cap) (qB:bs.length<=1000000000000)
  (nH:ys.length<=10000000) (dw: ∀x∈ys,x.2.2.length<=10000000 /\ x.1.size<=1000000000000 /\ ∀y∈x.2.2,y.size<=1000000000000) {K:Bool->World->Prop} (hK: ∀w',Hp S w0 w' ae->K true w'):c6 ks l b w K:=by
 refine Sy ?_
 unfold f6
 have cU:(kinds ys).length=ys.length:=by simp [kinds]
 have ZO: ∀x∈kinds ys,x.1.size<=1000000000000 /\ ∀y∈x.2,y.size<=1000000000000:=fun x hx=>by
  obtain⟨y,hy,rfl⟩:=afQ.1 hx
  exact⟨(dw y hy).2.1,(dw y hy).2.2⟩
 have IP: ∀x∈kinds ys,x.2.length<=10000000 /\ x.1.size<=1000000000000 /\ ∀y∈x.2,y.size<=1000000000000:=fun x hx=>by
  obtain⟨y,hy,rfl⟩:=afQ.1 hx
  exact dw y hy
 have vX:Bytes bs:=by rw [<-hb];exact BY b
 have VW:b.size=bs.length:=by rw [<-hb,mX]
 have g:=h.X4 (i:=jk) (j:=jl) (t:=u) (u:=ul) kN gN
 have hlen:=g.df (u:=ul.ro) 1 rfl (qx LK)
 rw [afw,agN] at hlen
 have y7:u.ro.holds=(fZ ks ys).holds:=hu
 have H9: ∀{w':World} {ts:List aa},Hp [] w w' (u.ro :: ts)->y5 w' ks (kinds ys):=fun{w' ts} g=>by
  obtain⟨O,hO⟩:=g.n9 (i:=0) rfl
  rw [y7] at hO
  exact vn hO
 refine vm g (H9 g) (by omega) (fun x hx=>(IP x hx).1) fun k xs w1 vL kS qz EL g=>?_
 have g:Hp [] w w1 [u.ro,ul.ro,qs k xs]:=g
 have G2:xs.length=ys.length:=by have:=congrArg List.length vL;simpa [kinds] using this
 refine Hp.jT (u:=ul.ro) (s:=l) (qx LK) (by simp;omega) bx (by omega) (by omega) (by omega) (agr _) (by omega) fun s hs eQ Ff=>?_
 have e1:((bs++List.replicate 8 0).take ((b.size:Nat):Int).toNat).drop (0:Int).toNat=bs:=by
  rw [afu,VW,List.take_left];rfl
 rw [e1] at hs
 rw [afu] at eQ
 have eQ:s.len=b.size:=by rw [eQ];simp
 have Ff:s.cap=l.cap:=by rw [Ff];simp
 have rdx:y5 w1 k (kinds ys):=by
  obtain⟨O,hO⟩:=g.n9 (i:=2) rfl
  rw [<-vL];exact vn (Dz hO kS qz)
 have hz8:bV (b++wI)=bs++List.replicate 8 0:=by rw [AZ,hb,E6]
 have UB:(⟨#[0,0,0,0,0,0,0,0]⟩:ByteArray).size=8:=rfl
 refine QO g 1 rdx (by omega) ZO (u:=ul.ro) rfl hs vX (by omega) (by omega) fun hRR=>⟨fun a wb w2 eK g=>?_,fun e w2 eK g=>?_⟩
 case refine_2=>
  have g:Hp [] w w2 [u.ro,ul.ro,qs k xs]:=g
  refine mn g 2 0 (by decide) (u:=u.ro) rfl kS qz EL rfl y7 vL (by omega) (fun x hx=>?_) fun w3 g=>?_
  ·have:=IP (x.1,x.2.2) (by rw [<-vL];exact afQ.2 ⟨x,hx,rfl⟩)
   exact this.1
  refine xS g fun x w4 iF EL g=>?_
  have g:Hp [] w w4 [u.ro,ul.ro,ao,kG x 1 eC (bV b)]:=g
  refine DL g 3 (u:=kG x 1 eC (bV b)) rfl (by rw [hb];exact Hp.D7) vX (by omega) EL 0 rfl y7 rfl (by omega) IP (fun e' w5 jN g=>?_) (fun a' wb' w5 jN g=>?_)
  ·rw [eK] at jN
   obtain rfl:=(agK jN).2
   refine g.Ef 1 (u:=ul.ro) rfl (qx LK) (b++wI) hz8 ?_
   refine⟨by rw [UB];omega,?_⟩
   refine aF ?_ (aE rfl (hK w5 (h.cB g.fr)))
   have:=rC (b++wI)
   unfold wI at this
   unfold wI
   rw [this];simp
  ·rw [eK] at jN;cases jN
 have g:Hp [] w w2 [u.ro,ul.ro,qs k xs,tW wb a]:=g
 refine mn g 2 0 (by decide) (u:=u.ro) rfl kS qz EL rfl y7 vL (by omega) (fun x hx=>?_) fun w3 g=>?_
 ·have:=IP (x.1,x.2.2) (by rw [<-vL];exact afQ.2 ⟨x,hx,rfl⟩)
  exact this.1
 have UC:cC (kinds ys):=by
  unfold load at eK
  split at eK
  ·cases eK
  ·rename_i hm;simpa using hm
 obtain⟨UD,UE,_⟩:=EM vX (hRR UC).1 (hRR UC).2 eK
 refine xS g fun x w4 iF EL g=>?_
 have g:Hp [] w w4 [u.ro,ul.ro,ao,tW wb a,kG x 1 eC (bV b)]:=g
 refine DL g 4 (u:=kG x 1 eC (bV b)) rfl (by rw [hb];exact Hp.D7) vX (by omega) EL 0 rfl y7 rfl (by omega) IP (fun e' w5 jN g=>?_) (fun a' xb w5 jN g=>?_)
 ·rw [eK] at jN;cases jN
 rw [eK] at jN
 obtain rfl:=afK (agK jN).1
 have g:Hp [] w w5 [u.ro,ul.ro,ao,tW wb a,kG x 1 eC (bV b),iT xb a]:=g
 refine g.Ef 1 (u:=ul.ro) rfl (qx LK) (b++wI) hz8 ?_
 refine⟨by rw [UB];omega,?_⟩
 refine aF ?_ (aF (by simp) ?_)
 ·have:=rC (b++wI)
  unfold wI at this
  unfold wI
  rw [this];simp
 refine g.nw (c:= [_,_,_,_,_,_,_,_,_,_,_,_,_,_,_]) fun bp w6 g=>?_
 have g:=IG g (i:=6) (p:=fx wb xb ks ⟨none,0,0⟩ ⟨none,0,0⟩ ⟨none,0,0⟩) rfl
 have g:=E7 (g.nil 33 2 dz)
 have g:Hp [] w w6 [u.ro,ul.ro,ao,tW wb a,kG x 1 eC (bV b),iT xb a,bw bp (fx wb xb ks ⟨none,0,0⟩ ⟨none,0,0⟩ ⟨none,0,0⟩) 0 0,aj ⟨none,0,0⟩ 33 2 dz [],oF]:=g
 have g:=g.gC [0,6,3,5,7,8] (by decide) (ts:= [u.ro,bw bp (fx wb xb ks ⟨none,0,0⟩ ⟨none,0,0⟩ ⟨none,0,0⟩) 0 0,tW wb a,iT xb a,aj ⟨none,0,0⟩ 33 2 dz [],oF]) rfl
 refine AX g 1 2 3 0 (by decide) (by decide) (N:=0) (u:=u.ro) (ys:=ys) rfl rfl rfl rfl y7 UE.symm (by omega) fun w7 g=>?_
 have g:Hp [] w w7 [u.ro,bw bp (fx wb xb ks ⟨none,0,0⟩ ⟨none,0,0⟩ ⟨none,0,0⟩) (0+12000) 0,tW wb a,iT xb a,aj ⟨none,0,0⟩ 33 2 dz [],oF]:=g
 refine⟨fun w'=>Hp [] w w' [u.ro,bw bp (fx wb xb ks ⟨none,0,0⟩ ⟨none,0,0⟩ ⟨none,0,0⟩) (0+12000) 0,tW wb a,iT xb a,aj ⟨none,0,0⟩ 33 2 dz [],oF],?_,?_⟩
 ·refine aF (by simp) ?_
  refine lY g 2 rfl fun r w8 g=>?_
  refine g.Ef 6 (u:=tB r a.snap) rfl Hp.bX b (by rw [hb,UD]) ?_
  exact aF (yN b) (g.trim 6)
 clear g
 rintro w8 g
 refine g.nw (c:= [_,_]) fun fb w9 g=>?_
 refine g.iR 6 rfl (by simp) rfl fun pj g=>?_
 refine g.st (n:=1) 6 rfl (by simp) rfl fun wx g=>?_
 refine⟨fun w'=> ∃e:bM,Hp [] w w' [u.ro,bw bp (fx wb xb ks ⟨none,0,0⟩ ⟨none,0,0⟩ ⟨none,0,0⟩) (0+12000) 0,tW wb a,iT xb a,aj ⟨none,0,0⟩ 33 2 dz [],oF,ai fb 33 [.int .i64 e.1,.int .i64 e.2]],?_,?_⟩
 ·refine bg ?_
  obtain⟨q,rx,hf,DI,g3⟩:=tA g 3 (b:=xb) (a:=a) rfl
  have Uh:=g3.df (u:=mq q.L rx) (s:=q.L) (l:=rx) (f:=EP) (n:=3) 2 rfl (dU rfl)
  refine g3.ld (n:=2) (k:=.sl) (x:=q.L) 0 rfl rfl ?_
  by_cases h0:0 < rx.length
  ·refine aE (by simp;omega) (bg ?_)
   refine g3.ld (n:=2) (k:=.sl) (x:=q.L) 0 rfl rfl ?_
   have Bf:rx[0]? =some rx[0]:=by simp [h0]
   generalize rx[0]=y at Bf
   refine g3.vH 2 (u:=mq q.L rx) (j:=0) rfl (dU rfl) (by omega) (by simpa using h0) fun z hz=>?_
   refine g3.pX (k:=.i .i64) (v:=y.1.1) (j:=(0:Int).toNat) 2 (u:=mq q.L rx) rfl (dU rfl) hz (fun _=>rfl) Bf rfl ?_
   refine g3.A6 (m:=1) (k:=.i .i64) (v:=y.1.2) (j:=(0:Int).toNat) 2 (u:=mq q.L rx) rfl (dU rfl) hz (fun _=>rfl) Bf rfl ?_
   refine g.iR 6 rfl (by simp) rfl fun z9 g=>?_
   refine g.st (n:=1) 6 rfl (by simp) rfl fun MC g=>?_
   exact⟨y.1,g⟩
  ·exact aF (by simp;omega) ⟨(0,0),g⟩
 clear g
 rintro z9 ⟨e,g⟩
 refine g.cx (k:=.i .i64) (x:=e.1) 6 rfl rfl ?_
 refine g.ld (n:=1) (k:=.i .i64) (x:=e.2) 6 rfl rfl ?_
 refine xB g 2 rfl fun MC g=>?_
 refine g.cx (k:=.i .i64) (x:=e.1) 6 rfl rfl ?_
 refine g.ld (n:=1) (k:=.i .i64) (x:=e.2) 6 rfl rfl ?_
 refine CG g 3 rfl fun RD g=>?_
 have UF:=CL a e
 generalize (a.cI e).2=er at g ⊢
 generalize (a.cI e).1=a1 at g UF ⊢
 have g:=g.gC [0,1,2,3,4,5] (by decide) (ts:= [u.ro,bw bp (fx wb xb ks ⟨none,0,0⟩ ⟨none,0,0⟩ ⟨none,0,0⟩) (0+12000) 0,tW wb a1,iT xb a1,aj ⟨none,0,0⟩ 33 2 dz [],oF]) rfl
 refine⟨fun ok t mm w'=> ∃(k:Nat) (a':WA) (gv:Sl) (G:List bM),ok=true /\ t=k /\ k<=3 /\ mm=3 - k /\ a'.ks=kinds ys /\ G.length<=k /\ Hp [] w w' [u.ro,bw bp (fx wb xb ks gv ⟨none,0,0⟩ ⟨none,0,0⟩) (0+12000) 0,tW wb a',iT xb a',aj gv 33 2 dz G,oF],
  ⟨3,0,a1,⟨none,0,0⟩,[],by simp,rfl,by omega,rfl,UF.trans UE,by simp,g⟩,?_⟩
 clear g
 rintro ok t mm TP ⟨k,a',gv,G,rfl,rfl,hk,rfl,I8,hG,g⟩
 by_cases ar:k < 3
 ·refine aE (by simp;omega) ?_
  have Lz:vK TP ⟨none,0,0⟩ []:=⟨[],rfl,⟨[],cf.nil rfl⟩,by simp⟩
  refine E0 g Lz (by simp) (by simp) fun r xs RF lx kS qz EL g=>?_
  have Bf:xs= []:=by simpa using lx
  subst Bf
  refine AY g 1 2 3 4 6 5 (by decide) (by decide) (xs:= []) (ys:= []) (ps:= []) (u:=oF) rfl rfl rfl rfl rfl rfl rfl rfl rfl kS (by simp) EL (by simp) (by simp) (by simp) (by simp) (by omega) fun LN QH g=>?_
  have UG:=IN a' []
  generalize (a'.spawn []).2.2=x2 at g
  generalize (a'.spawn []).2.1=x1 at g
  generalize (a'.spawn []).1=a2 at g UG
  have g:=g.trim 6
  refine⟨3 - (k+1),by omega,k+1,a2,LN,G++(if x2=0 then [x1] else []),rfl,by rw [aB (by omega) (by omega)];omega,by omega,rfl,UG.trans I8,?_,g⟩
  split <;> simp <;> omega
 ·refine aF (by simp;omega) ?_
  refine AX g 1 2 3 0 (by decide) (by decide) (N:=0+12000) (u:=u.ro) (ys:=ys) rfl rfl rfl rfl y7 I8.symm (by omega) fun RF g=>?_
  exact hK RF (h.cB g.fr)
end
end Go.Proofs.YtcccjgmekakabaaGreat.FW
end

section
namespace Go.Proofs.YtcccjgmekakabaaGreat.FW
open F
open Go Go.Den Go.Proofs Go.RowKit
open FI (af ay cS pk z6 xj)
open FT (bM dz aP iv aq)
open FP (dX tB cT)
theorem ZP:Tryz.prog.cellsOf 5=1:=by kernel_rfl
theorem UH:Tryz.prog.underlying 5=some (.int .u8):=by kernel_rfl
theorem E8 {w:World} {B n:Nat} {cs:List Value} (h:tj Tryz.prog w B n 23 cs): ∃(s:Sl) (l:List Int) (o:List Nat),cs= [.slice s.a s.len s.cap] /\ cf w s 1 eC l o /\ Bytes l /\ l.length<=B /\ s.len<=s.cap:=by
 obtain⟨s,l,o,h1,h2,hb,h3,h4,h5⟩:=um (f:=eC) (G:=fun x=>0<=x /\ x < 256) zR ZP (by omega) (fun m ci _ hr=>by
  obtain⟨x,hx,hw⟩:=Np UH hr
  have hm:IntKind.u8.min<=x /\ x<=IntKind.u8.max:=by simpa [Lit.wf] using hw
  have h1:IntKind.u8.min=0:=by decide
  have h2:IntKind.u8.max=255:=by decide
  exact⟨x,hx,by omega⟩) h
 exact⟨s,l,o,h1,h2,hb,h4,h5⟩
theorem w8 (n:Int):IntKind.u8.wrap n=n % 256:=by simp only [IntKind.wrap,IntKind.bits,IntKind.signed,Bool.false_and];simp
set_option maxHeartbeats 4000000 in
theorem CM {w:World} {ks b:Sl} {ys:List KS} {O o:List Nat} {bs:List Int} {at_ A4:Int} (hr:(fZ ks ys).holds w O) (hl:ys.length<=10000000) (dw: ∀x∈ys,x.2.2.length<=10000000 /\ x.1.size<=1000000000000 /\ ∀y∈x.2.2,y.size<=1000000000000) (hb:cf w b 1 eC bs o) (vX:Bytes bs) (qB:bs.length<=1000000000000)
  (ha: -9223372036854775808<=at_) {K:Bool->World->Prop} (hK: ∀w',Fr [] w w'->K true w'):c3 ks b at_ A4 w K:=by
 refine Ss ?_
 unfold f3
 obtain⟨inf,q1,q2,q3,q4⟩:=FP.yD
 have h:=Hp.qY w
 have h:=h.ey (t:=fZ ks ys) hr (by simp)
 have h:=h.ey (t:=kG b 1 eC bs) hb (by simp)
 have h:Hp [] w w [(fZ ks ys).ro,(kG b 1 eC bs).ro]:=h
 have VW:=hb.len
 refine Cs h fun w1 h=>?_
 have hw:IntKind.i64.wrap ((b.len:Int)+8)=((bs.length+8:Nat):Int):=by rw [aB (by omega) (by omega)];omega
 rw [hw]
 refine h.Z9 (e:=5) (n:=1) (f:=eC) (x0:=(0:Int)) bx rfl (by omega) (agr _) (by omega) (by omega) fun l w2 h nH S4 _=>?_
 rw [afu] at h nH S4
 have h:Hp [] w w2 [(fZ ks ys).ro,(kG b 1 eC bs).ro,aj l 5 1 eC (List.replicate (bs.length+8) 0)]:=h
 refine h.copy 2 1 (by decide) (s:=l) (s2:=b) (u:=(kG b 1 eC bs).ro) rfl rfl (qx Hp.D7) bx zR q1 q3 (by simp [Value.oneCell']) (by omega) fun w3 h=>?_
 have e0:bs++(List.replicate (bs.length+8) (0:Int)).drop b.len=bs++List.replicate 8 0:=by
  rw [List.drop_replicate,<-VW,agI]
 rw [e0] at h
 have h:Hp [] w w3 [(fZ ks ys).ro,(kG b 1 eC bs).ro,aj l 5 1 eC (bs++List.replicate 8 0)]:=h
 have bO:=fN vX
 refine h.Ef 1 (u:=(kG b 1 eC bs).ro) rfl (qx Hp.D7) (strOf bs) bO ?_
 refine sM h 0 2 (u:=(fZ ks ys).ro) (ul:=aj l 5 1 eC (bs++List.replicate 8 0)) rfl rfl rfl Hp.bX bO (by omega) qB hl dw fun w4 h=>?_
 refine aF (by simp) ?_
 by_cases h0:bs.length=0
 ·exact aE (by simp;omega) (hK w4 h.fr)
 refine aF (by simp;omega) ?_
 refine xj (by omega) ?_
 obtain⟨p0,p1⟩:=z6 (c:=at_) (n:=(b.len:Int)) ha (by omega)
 generalize pk at_ (b.len:Int)=r at p0 p1
 obtain⟨rn,rfl⟩: ∃rn:Nat,r=rn:=⟨r.toNat,by omega⟩
 refine h.mL (s:=l) (y:=IntKind.u8.wrap A4) 2 rfl (by omega) (by simp;omega) bx rfl rfl fun w5 h=>?_
 rw [afu,agx _ _ (by omega)] at h
 have h:Hp [] w w5 [(fZ ks ys).ro,(kG b 1 eC bs).ro,aj l 5 1 eC (bs.set rn (IntKind.u8.wrap A4)++List.replicate 8 0)]:=h
 have UI:Bytes (bs.set rn (IntKind.u8.wrap A4)):=fun x hx=>by
  rcases ah5 hx with hx | hx
  ·exact vX x hx
  ·rw [hx,w8];omega
 have eQ:(bs.set rn (IntKind.u8.wrap A4)).length=bs.length:=agi
 generalize bs.set rn (IntKind.u8.wrap A4)=cs at h UI eQ
 have hlen:=h.len (s:=l) (e:=5) (n:=1) (f:=eC) (l:=cs++List.replicate 8 0) 2 rfl
 have uZ:=hlen
 rw [afw,agN] at uZ
 refine Hp.jT (s:=l) (u:=aj l 5 1 eC (cs++List.replicate 8 0)) Hp.bX hlen bx (by omega) (by omega) (by omega) (agr _) (by omega) fun s hs _ _=>?_
 have e1:((cs++List.replicate 8 0).take ((b.len:Nat):Int).toNat).drop (0:Int).toNat=cs:=by
  rw [afu,<-VW,<-eQ,List.take_left];rfl
 rw [e1] at hs
 have UJ:=fN UI
 refine h.Ef 2 (u:=aj l 5 1 eC (cs++List.replicate 8 0)) rfl hs (strOf cs) UJ ?_
 exact sM h 0 2 (u:=(fZ ks ys).ro) (ul:=aj l 5 1 eC (cs++List.replicate 8 0)) rfl rfl rfl Hp.bX UJ (by omega) (by omega) hl dw fun w6 h=>hK w6 h.fr
theorem CN {w:World} {n m:Nat} {a a':Option Addr} {len cap UK oZ:Nat} {at_ A4:Int} (h:tj Tryz.prog w 1048576 n 22 [.slice a len cap]) (h2:tj Tryz.prog w 1048576 m 23 [.slice a' UK oZ]) (ha:Lit.wf (.int .i64 at_)=true) (hb:Lit.wf (.int .i64 A4)=true):
  Calls Tryz.prog 3 #[.slice a len cap,.slice a' UK oZ,.int .i64 at_,.int .i64 A4] w fun e w'=>e=.returned (.bool true) /\ Below w.heap.size w w':=by
 obtain⟨ys,O,h1,g2,h3⟩:=E5 h
 obtain⟨s,l,o,g1,g3,vX,hl,_⟩:=E8 h2
 simp only [ahr,Value.slice.injEq,and_true] at g1
 obtain⟨rfl,rfl,rfl⟩:=g1
 have hm:IntKind.i64.min<=at_ /\ at_<=IntKind.i64.max:=by simpa [Lit.wf] using ha
 have Rg:IntKind.i64.min= -9223372036854775808:=by decide
 exact BA (CM (ks:=⟨a,len,cap⟩) (b:=s) h1 (by omega) (fun x hx=>⟨by have:=(h3 x hx).1;omega,by have:=(h3 x hx).2.1;omega,fun y hy=>by have:=(h3 x hx).2.2 y hy;omega⟩) g3 vX (by omega) (by omega) fun w' hf=>⟨rfl,hf⟩)
end Go.Proofs.YtcccjgmekakabaaGreat.FW
end
