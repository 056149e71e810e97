/-
  Part 5 of the proof:WorldPlays of layer 6 is true of the given program for every input that its guards let in (of bulk at most 1048576).
-/
import Derived.Test.YtcccjgmekakabaaGreatPkD
import Derived.RangeFuncNested
import Derived.RangeFuncLeaves
import Derived.OrdersIn
import Derived.TacticsIn
import Derived.Sort.LoopGhostIn
import Derived.Lib.AppendZeros
set_option linter.unusedSimpArgs false
set_option linter.unusedVariables false
set_option maxRecDepth 100000
open Go.IntKind (i64 u64 u8)
section
namespace Go.Proofs.YtcccjgmekakabaaGreat.FI
open F
open Go Go.Den Go.Proofs
structure ai where
 aO:Int
 au:List Int
 alive:List Bool
 free:List Int
namespace ai
def bD (m:ai) (i:Int):Bool:=decide (0<=i) && m.alive.getD i.toNat false
def gen (m:ai) (i:Int):Int:=m.au.getD i.toNat 0
structure Ok (m:ai):Prop where
 B8:1<=m.aO
 zx:m.aO<=200
 len:m.alive.length=m.au.length
 le:(m.au.length:Int)<=m.aO
 au: ∀g∈m.au,1<=g /\ g<=1000000
 free: ∀i∈m.free,0<=i /\ i < m.au.length /\ m.bD i=false /\ m.gen i < 1000000
 nodup:m.free.Nodup
 lG:m.free.length+m.alive.count true<=m.au.length
theorem Ok.fZ {m:ai} (h:m.Ok):m.au.length<=200:=by have:=h.zx;have:=h.le;omega
def dN (m:ai) (i g:Int):ai:={ m with alive:=m.alive.set i.toNat false,free:=if g < 1000000 then m.free++ [i] else m.free}
def cS (m:ai) (i:Int) (rest:List Int):ai:={ m with au:=m.au.set i.toNat (m.gen i+1),alive:=m.alive.set i.toNat true,free:=rest}
def dy (m:ai):ai:={ m with au:=m.au++ [1],alive:=m.alive++ [true]}
end ai
def ints (l:List Int):List Value:=l.map (Value.int .i64)
def lr (l:List Bool):List Value:=l.map Value.bool
theorem xz {l:List Int} {i:Nat} (h:i < l.length):(ints l)[i]? =some (Kd.inj (.i .i64) l[i]):=by simp [ints,h,Kd.inj]
theorem tL {l:List Bool} {i:Nat} (h:i < l.length):(lr l)[i]? =some (Kd.inj .b l[i]):=by simp [lr,h,Kd.inj]
def db (w:World) (b:Nat) (m:ai) (O:List Nat):Prop:=
 ∃(sg sa sf:Sl) (og oa kX:List Nat),fF w b 149 [.int .i64 m.aO,.slice sg.a sg.len sg.cap,.slice sa.a sa.len sa.cap,.slice sf.a sf.len sf.cap] /\
  fK w sg 3 (ints m.au) og /\ fK w sa 4 (lr m.alive) oa /\ fK w sf 3 (ints m.free) kX /\ O=b :: (og++oa++kX) /\ O.Nodup
theorem db.fr {S:List Nat} {w w':World} {b:Nat} {m:ai} {O:List Nat} (h:db w b m O) (hf:Fr S w w') (hn: ∀k∈O,k ∉ S):db w' b m O:=by
 obtain⟨sg,sa,sf,og,oa,kX,h1,h2,h3,h4,rfl,h6⟩:=h;exact⟨sg,sa,sf,og,oa,kX,h1.fr hf (hn b (by simp)),h2.fr hf (fun k hk=>hn k (by simp [hk])),h3.fr hf (fun k hk=>hn k (by simp [hk])),h4.fr hf (fun k hk=>hn k (by simp [hk])),rfl,h6⟩
theorem db.lt {w:World} {b:Nat} {m:ai} {O:List Nat} (h:db w b m O): ∀k∈O,k < w.heap.size:=by
 obtain⟨sg,sa,sf,og,oa,kX,h1,h2,h3,h4,rfl,h6⟩:=h;intro k hk;simp only [alF,alg] at hk
 rcases hk with rfl | (hk | hk) | hk
 ·exact h1.lt
 ·exact h2.lt k hk
 ·exact h3.lt k hk
 ·exact h4.lt k hk
theorem Pe {n:Int} {w:World} {K:Option Addr->Int->World->Prop} (hn:n < 1 \/ 200 < n) (hK:K none 1 w):V1 n w K:=by
 refine JG ?_;unfold f53;rw [if_pos]
 ·exact hK
 ·by_cases h:n < 1
  ·simp [h]
  ·simp [h];omega
theorem Kl {n:Int} {w:World} {K:Option Addr->Int->World->Prop} (h1:1<=n) (h2:n<=200)
  (hK: ∀b w',w.heap.size<=b->b < w'.heap.size->db w' b ⟨n,[],[],[]⟩ [b]->Fr [] w w'->K (some ⟨b,0,none⟩) 0 w'):V1 n w K:=by
 refine JG ?_;unfold f53;rw [if_neg]
 ·refine nw fun b w' hb ke hf hs=>?_;exact hK b w' (by omega) (by omega) ⟨⟨none,0,0⟩,⟨none,0,0⟩,⟨none,0,0⟩,[],[],[],ke,fK.nil,fK.nil,fK.nil,rfl,by simp⟩ hf
 ·have h3: ¬n < 1:=by omega
  have h4: ¬n > 200:=by omega
  simp [h3,h4]
theorem F3 {b:Nat} {i:Int} {w:World} {m:ai} {O:List Nat} {K:Int->Int->Int->World->Prop} (h:db w b m O) (hlen:m.alive.length=m.au.length)
  (hK: ∀w',Fr [] w w'->if m.bD i=true then K i (m.gen i) 0 w' else K 0 0 41 w'):Nc (some ⟨b,0,none⟩) i w K:=by
 refine N8 ?_;unfold f121;refine nw fun a w1 ha By f1 s1=>?_;have h':=h.fr f1 (by simp);obtain⟨sg,sa,sf,og,oa,kX,hb,hg,ig,fk,rfl,bJ⟩:=h';refine⟨fun t w'=>w'=w1 /\ t= !m.bD i,?_,?_⟩
 ·by_cases h0:i < 0
  ·rw [if_pos (by simpa using h0)];have: ¬0<=i:=by omega
   simp [ai.bD,this]
  ·rw [if_neg (by simpa using h0)];simp only [gp];refine nE (k:=.sl) (x:=sg) hb rfl ?_;by_cases lK:i>=(sg.len:Int)
   ·rw [if_pos (by simpa using lK)];have hl:=hg.len;have h1:m.alive.length<=i.toNat:=by rw [hlen];simp [ints] at hl;omega
    simp [ai.bD,alk,alE h1]
   ·rw [if_neg (by simpa using lK)];refine nE (k:=.sl) (x:=sa) hb rfl ?_;have hl:=hg.len;have h1:i.toNat < m.alive.length:=by rw [hlen];simp [ints] at hl;omega
    refine fz ig (by omega) (tL h1) ?_;have h2:0<=i:=by omega
    simp [ai.bD,h1,h2]
 ·rintro t w' ⟨rfl,rfl⟩
  cases k6:m.bD i with
  | true=>
   simp only [anK,amk,if_false,gp];simp only [ai.bD,alD,decide_eq_true_eq] at k6;have h1:i.toNat < m.alive.length:=by
    refine anY fun hle=>?_;have:=k6.2;simp [alk,alE hle] at this
   refine nE (k:=.sl) (x:=sg) hb rfl ?_;refine fz hg k6.1 (xz (by omega)) ?_;refine st (o:=0) By (by simp) rfl fun w2 rU f2 s2=>?_;refine DI rU (by simp) rfl fun w3 yP f3 s3=>?_;refine ld (k:=.i .i64) yP rfl ?_;refine nE (k:=.i .i64) yP rfl ?_;have adt:m.bD i=true:=by simp only [ai.bD,alD,decide_eq_true_eq];exact k6
   have:=hK w3 ((f1.trans f2 (by simp [ha])).trans f3 (by simp [ha]));rw [if_pos adt] at this;have lK:m.gen i=m.au[i.toNat]:=by simp [ai.gen,show i.toNat < m.au.length by omega]
   rw [lK] at this;exact this
  | false=>
   simp only [amY,if_true];refine st (o:=0) By (by simp) rfl fun w2 rU f2 s2=>?_;refine DI rU (by simp) rfl fun w3 yP f3 s3=>?_;refine ld (k:=.i .i64) yP rfl ?_;refine nE (k:=.i .i64) yP rfl ?_;have:=hK w3 ((f1.trans f2 (by simp [ha])).trans f3 (by simp [ha]));rw [k6] at this
   simpa using this
theorem zo {x y:Operand} {a b c d:Int} {w:World} {K:Bool->Prop} (hK:K (a ==c && b ==d)):
  iH .b Tryz.prog (cH .eql 33 x y (.agg #[.int .i64 a,.int .i64 b]) (.agg #[.int .i64 c,.int .i64 d])) w K:=by
 refine Qq (r:=(a ==c && (b ==d && true))) (by kernel_rfl) (by kernel_rfl) (by kernel_rfl) (by kernel_rfl) ?_;rw [Bool.and_true];exact hK
def ai.is (m:ai) (i g:Int):Bool:=m.bD i && (m.gen i ==g)
theorem nj {b:Nat} {i g:Int} {w:World} {m:ai} {O:List Nat} {K:Bool->World->Prop} (h:db w b m O) (hlen:m.alive.length=m.au.length)
  (hK: ∀w',Fr [] w w'->K (m.is i g) w'):DN (some ⟨b,0,none⟩) i g w K:=by
 refine N1 ?_;unfold f116;refine nw fun a w1 ha By f1 s1=>?_;have h1:=h.fr f1 (by simp);refine ld (k:=.i .i64) By rfl ?_;refine F3 h1 hlen fun w2 f2=>?_;have rU:=By.fr f2 (by simp);have fin: ∀(i' g' e':Int),(if m.bD i=true then i'=i /\ g'=m.gen i /\ e'=0 else i'=0 /\ g'=0 /\ e'=41)->
   Nw (.cells #[.int .i64 0,.int .i64 0] 33) w2 fun(x:Addr) w=>
   St x (.int .i64 i') w fun w=>
   St (x.add 1) (.int .i64 g') w fun w=>
   if (e' ==0)=true then (Ld (.i .i64) w x fun(oC:Int)=>Ld (.i .i64) w (x.add 1) fun(wX:Int)=>
   Ld (.i .i64) w ⟨a,0,none⟩ fun(ay:Int)=>Ld (.i .i64) w ((⟨a,0,none⟩:Addr).add 1) fun(aP:Int)=>
   iH .b Tryz.prog (cH .eql 33 (.tmp 17) (.tmp 18) (.agg #[.int .i64 oC,.int .i64 wX]) (.agg #[.int .i64 ay,.int .i64 aP])) w fun(eq:Bool)=>
   K eq w) else (K false w):=by
  intro i' g' e' he;refine nw fun x w3 hx hbx f3 s3=>?_;refine st (o:=0) hbx (by simp) rfl fun w4 adu f4 s4=>?_;refine DI adu (by simp) rfl fun w5 X2 f5 s5=>?_;have ahT:=By.lt;have afI:=rU.lt;have B9:=((rU.fr f3 (by simp)).fr f4 (by simp;omega)).fr f5 (by simp;omega);have hf:Fr [] w w5:=((((f1.trans f2 (by simp)).trans f3 (by simp)).trans f4 (by
   have:=f1.size;have:=f2.size;simp;omega)).trans f5 (by have:=f1.size;have:=f2.size;simp;omega))
  have hK5:=hK w5 hf
  cases hl:m.bD i with
  | true=>
   rw [hl] at he;simp only [if_true] at he;obtain⟨rfl,rfl,rfl⟩:=he;rw [if_pos (by rfl)];refine ld (k:=.i .i64) X2 rfl ?_;refine nE (k:=.i .i64) X2 rfl ?_;refine ld (k:=.i .i64) B9 rfl ?_;refine nE (k:=.i .i64) B9 rfl ?_;refine zo ?_
   simpa [ai.is,hl] using hK5
  | false=>
   rw [hl] at he;simp only [amk,if_false] at he;obtain⟨rfl,rfl,rfl⟩:=he;rw [if_neg (by simp)]
   simpa [ai.is,hl] using hK5
 split
 ·rename_i hl;exact fin _ _ _ (by rw [if_pos hl];exact⟨rfl,rfl,rfl⟩)
 ·rename_i hl;exact fin _ _ _ (by rw [if_neg hl];exact⟨rfl,rfl,rfl⟩)
theorem ints_set {l:List Int} {i:Nat} {v:Int}:(ints l).set i (.int .i64 v)=ints (l.set i v):=by simp [ints,amm]
theorem tM {l:List Bool} {i:Nat} {v:Bool}:(lr l).set i (.bool v)=lr (l.set i v):=by simp [lr,amm]
theorem fq {l:List Int}:(ints l).length=l.length:=by simp [ints]
theorem mg {l:List Bool}:(lr l).length=l.length:=by simp [lr]
theorem rV {m:ai} {i:Int} (h:m.bD i=true):0<=i /\ i.toNat < m.alive.length /\ m.alive[i.toNat]? =some true:=by
 simp only [ai.bD,alD,decide_eq_true_eq] at h;obtain⟨h0,h1⟩:=h;have av:i.toNat < m.alive.length:=by
  refine anY fun hle=>?_;simp [alk,alE hle] at h1
 refine⟨h0,av,?_⟩;simp only [alk] at h1
 cases hx:m.alive[i.toNat]? with
 | none=>simp [hx] at h1
 | some b=>simp [hx] at h1;rw [h1]
theorem Km: ∃inf:TypeInfo,Tryz.prog.info? 3=some inf /\ inf.zero=some (.int .i64 0) /\ inf.size=1 /\ inf.bytes=8:=fU (by kernel_rfl)
theorem Ev: ∃inf:TypeInfo,Tryz.prog.info? 4=some inf /\ inf.zero=some (.bool false) /\ inf.size=1 /\ inf.bytes=1:=fU (by kernel_rfl)
theorem eM:Tryz.prog.underlying 49=some (.slice 3):=by kernel_rfl
theorem qm:Tryz.prog.underlying 147=some (.slice 4):=by kernel_rfl
theorem Pf {s:Sl} {w:World} {vs:List Int} {o:List Nat} {b:Nat} {v:Int} {K:Sl->World->Prop} (h:fK w s 3 (ints vs) o) (hb:fF w b 3 [.int .i64 v]) (hn:vs.length<=1000000000)
  (hK: ∀s' w' o',fK w' s' 3 (ints (vs++ [v])) o'->(o'=o \/ ∃n,w.heap.size<=n /\ n < w'.heap.size /\ o'= [n])->Fr o w w'->s'.a≠none->K s' w'):
  cA .sl Tryz.prog (Builtin.append_ #[49,49] 49 #[.slice s.a s.len s.cap,.slice (some ⟨b,0,none⟩) 1 1]) w K:=by
 obtain⟨inf,h1,h4,h2,h3⟩:=Km;have hl:=h.len;rw [fq] at hl;refine app (news:= [.int .i64 v]) eM h1 h2 h4 rfl h rfl ?_ (by simp [Value.oneCell']) (by rw [h3];omega) (by omega) ?_
 ·intro j u hj
  cases j with
  | zero=>simp only [alo,ald] at hj;subst hj;rw [Addr.aU,hb.cell];rfl
  | succ j=>simp at hj
 ·intro s' w' o' g1 g2 g3 g4 g5;exact hK s' w' o' (by simpa [ints] using g1) g3 g4 (g5 (by simp))
theorem X3 {s:Sl} {w:World} {vs:List Bool} {o:List Nat} {b:Nat} {v:Bool} {K:Sl->World->Prop} (h:fK w s 4 (lr vs) o) (hb:fF w b 4 [.bool v]) (hn:vs.length<=1000000000)
  (hK: ∀s' w' o',fK w' s' 4 (lr (vs++ [v])) o'->(o'=o \/ ∃n,w.heap.size<=n /\ n < w'.heap.size /\ o'= [n])->Fr o w w'->s'.a≠none->K s' w'):
  cA .sl Tryz.prog (Builtin.append_ #[147,147] 147 #[.slice s.a s.len s.cap,.slice (some ⟨b,0,none⟩) 1 1]) w K:=by
 obtain⟨inf,h1,h4,h2,h3⟩:=Ev;have hl:=h.len;rw [mg] at hl;refine app (news:= [.bool v]) qm h1 h2 h4 rfl h rfl ?_ (by simp [Value.oneCell']) (by rw [h3];omega) (by omega) ?_
 ·intro j u hj
  cases j with
  | zero=>simp only [alo,ald] at hj;subst hj;rw [Addr.aU,hb.cell];rfl
  | succ j=>simp at hj
 ·intro s' w' o' g1 g2 g3 g4 g5;exact hK s' w' o' (by simpa [lr] using g1) g3 g4 (g5 (by simp))
theorem Hf {b:Nat} {i g:Int} {w:World} {m:ai} {O:List Nat} {K:Int->World->Prop} (h:db w b m O) (hm:m.Ok)
  (hK: ∀w' O',db w' b (if m.is i g=true then m.dN i g else m) O'->(∀k∈O',k∈O \/ w.heap.size<=k)->Fr O w w'->K (if m.is i g=true then 0 else 41) w'):
  c62 (some ⟨b,0,none⟩) i g w K:=by
 refine TV ?_;unfold f62;refine nw fun a w1 ha By f1 s1=>?_;have h1:=h.fr f1 (by simp);refine ld (k:=.i .i64) By rfl ?_;refine nE (k:=.i .i64) By rfl ?_;refine nj h1 hm.len fun w2 f2=>?_;have h2:=h1.fr f2 (by simp);have rU:=By.fr f2 (by simp);have f63:Fr [] w w2:=f1.trans f2 (by simp)
 cases hb:m.is i g with
 | false=>
  simp only [amY,if_true];have:=hK w2 O (by rw [hb];simpa using h2) (fun k hk=>.inl hk) (f63.mono (by simp));rw [hb] at this
  simpa using this
 | true=>
  simp only [anK,amk,if_false,gp];have k6:m.bD i=true:=by simp only [ai.is,alD] at hb;exact hb.1
  have Pg:m.gen i=g:=by simp only [ai.is,alD,beq_iff_eq] at hb;exact hb.2
  obtain⟨GA,pZ,ahU⟩:=rV k6;refine dr fun w3 f3 s3 kp3=>?_;have h3:=h2.fr f3 (by simp);have yP:=kp3 _ _ _ rU;have av:=h3.lt;obtain⟨sg,sa,sf,og,oa,kX,ke,hg,ig,fk,rfl,bJ⟩:=h3;refine nE (k:=.sl) (x:=sa) ke rfl ?_;refine ld (k:=.i .i64) yP rfl ?_;refine mW ig GA (by rw [mg];exact pZ) rfl fun w4 yQ f4 s4=>?_;rw [tM] at yQ;have dL:w.heap.size<=a:=by omega
  have ha4:a ∉ oa:=fun gG=>by
   have:=h.lt a (by simp [gG]);omega
  have Hg:=yP.fr f4 ha4;simp only [al6,alg,al1,not_or] at bJ;have Ew:=ke.fr f4 (fun gG=>bJ.1.1.2 gG);have Kn:=hg.fr f4 (fun k hk bL=>bJ.2.1.2.2 k hk k bL rfl);have Hh:=fk.fr f4 (fun k hk bL=>bJ.2.2.2 k (.inr bL) k hk rfl);have f68:Fr (b :: (og++oa++kX)) w w4:=(f63.trans f3 (by simp)).mono (by simp) |>.trans f4 (fun k hk=>.inl (by simp [hk]))
  refine nE (k:=.i .i64) Hg rfl ?_;by_cases Ip:g < 1000000
  ·rw [if_pos (by simpa using Ip)];refine dr fun w5 f5 s5 kp5=>?_;have Ko:=kp5 _ _ _ Ew;have B9:=kp5 _ _ _ Hg;have Wc:=Kn.fr f5 (by simp);have Ca:=yQ.fr f5 (by simp);have Ex:=Hh.fr f5 (by simp);refine nE (k:=.sl) (x:=sf) Ko rfl ?_;refine ld (k:=.i .i64) B9 rfl ?_;refine nw fun c w6 hc F4 f12 s6=>?_;have dh:m.free.length<=200:=by have:=hm.lG;have:=hm.fZ;omega
   refine Pf (Ex.fr f12 (by simp)) F4 (by omega) fun s' w7 o' vq mI f43 _=>?_;have Ph: ∀k∈b :: (og++oa++kX),k < w6.heap.size:=fun k hk=>by
    have:=av k hk;have:=f4.size;have:=f5.size;have:=f12.size;omega
   have UR:=(Ko.fr f12 (by simp)).fr f43 (fun gG=>bJ.1.2 gG);have X4:=(Wc.fr f12 (by simp)).fr f43 (fun k hk bL=>bJ.2.2.2 k (.inl hk) k bL rfl);have Kp:=(Ca.fr f12 (by simp)).fr f43 (fun k hk bL=>bJ.2.2.2 k (.inr hk) k bL rfl);refine DI UR (by simp) rfl fun w8 Pj f62 s8=>?_;have hob:b ∉ o':=by
    rcases mI with rfl | ⟨n,h1,_,rfl⟩
    ·exact bJ.1.2
    ·have:=Ph b (by simp);simp;omega
   have Wd: ∀k∈og++oa,k ∉ o':=fun k hk=>by
    rcases mI with rfl | ⟨n,h1,_,rfl⟩
    ·exact fun bL=>bJ.2.2.2 k (alg.1 hk) k bL rfl
    ·have:=Ph k (amZ _ (alg.2 (.inl hk)));simp;omega
   have bz:db w8 b (m.dN i g) (b :: (og++oa++o')):=by
    refine⟨sg,sa,s',og,oa,o',?_,X4.fr f62 ?_,?_,?_,rfl,?_⟩
    ·simpa [ai.dN] using Pj
    ·intro k hk;simp;rintro rfl;exact bJ.1.1.1 hk
    ·simp only [ai.dN];exact Kp.fr f62 (by intro k hk;simp;rintro rfl;exact bJ.1.1.2 hk)
    ·simp only [ai.dN,if_pos Ip];exact vq.fr f62 (by intro k hk;simp;rintro rfl;exact hob hk)
    ·simp only [al6,alg,al1,not_or];refine⟨⟨bJ.1.1,hob⟩,bJ.2.1,?_,?_⟩
     ·rcases mI with rfl | ⟨n,_,_,rfl⟩
      ·exact bJ.2.2.1
      ·simp
     ·intro x hx y hy MB;subst MB;exact Wd x (alg.2 hx) hy
   have:=hK w8 _ (by rw [hb,if_pos rfl];exact bz) ?_ ?_
   ·rw [hb] at this;simpa using this
   ·intro k hk;simp only [alF,alg] at hk
    rcases hk with rfl | (hk | hk) | hk
    ·left;simp
    ·left;simp [hk]
    ·left;simp [hk]
    ·rcases mI with rfl | ⟨n,h1,_,rfl⟩
     ·left;simp [hk]
     ·right;simp at hk;subst hk;have:=f68.size;have:=f5.size;have:=f12.size;omega
   ·refine(((f68.trans f5 (by simp)).trans f12 (by simp)).trans f43 (fun k hk=>.inl (by simp [hk]))).trans f62 (by simp)
  ·rw [if_neg (by simpa using Ip)];have:=hK w4 (b :: (og++oa++kX)) ?_ (fun k hk=>.inl hk) f68
   ·rw [hb] at this;simpa using this
   ·rw [hb,if_pos rfl];refine⟨sg,sa,sf,og,oa,kX,?_,Kn,?_,?_,rfl,?_⟩
    ·simpa [ai.dN] using Ew
    ·simpa [ai.dN] using yQ
    ·simpa [ai.dN,Ip] using Hh
    ·simp only [al6,alg,al1,not_or];exact bJ
theorem Pk {m:ai} {i:Int} (h:i.toNat < m.au.length):(ints m.au)[i.toNat]? =some (Kd.inj (.i .i64) (m.gen i)):=by
 rw [xz h];simp [ai.gen,h]
theorem Hi {b:Nat} {i:Int} {rest:List Int} {w:World} {m:ai} {O:List Nat} {K:Int->Int->Int->World->Prop} (h:db w b m O) (hm:m.Ok) (hf:m.free=i :: rest)
  (hK: ∀w',db w' b (m.cS i rest) O->Fr O w w'->K i (m.gen i+1) 0 w'):
  V3 (some ⟨b,0,none⟩) w K:=by
 have hi:=hm.free i (by rw [hf];simp);have tN:i.toNat < m.au.length:=by omega
 have lK:1<=m.gen i /\ m.gen i<=1000000:=by
  have:=hm.au (m.au[i.toNat]) (by simp)
  simpa [ai.gen,tN] using this
 refine D9 ?_;unfold f58;simp only [gp];refine nw fun a w1 ha By f1 s1=>?_;have h1:=h.fr f1 (by simp);have av:=h.lt;obtain⟨sg,sa,sf,og,oa,kX,ke,hg,ig,fk,rfl,bJ⟩:=h1;have adw:=bJ;simp only [al6,alg,al1,not_or] at bJ;have Dj: ∀k∈b :: (og++oa++kX),k≠a:=fun k hk e=>by have:=av k hk;omega
 refine nE (k:=.sl) (x:=sf) ke rfl ?_;have dh:=fk.len;rw [hf,fq] at dh;rw [if_pos (by simp at dh;simp;omega)];refine nE (k:=.sl) (x:=sf) ke rfl ?_;refine fz (x:=i) fk (by omega) (by rw [hf];simp [ints,Kd.inj]) ?_;refine nE (k:=.sl) (x:=sf) ke rfl ?_;refine fk.cut (n:=1) (by rw [hf,fq];simp) fun s' vq fB=>?_;refine DI ke (by simp) rfl fun w2 p9 f2 s2=>?_;have rU:=By.fr f2 (by simp;exact fun e=>Dj b (by simp) e.symm);have Pl:=hg.fr f2 (by intro k hk;simp;rintro rfl;exact bJ.1.1.1 hk);have Kq:=ig.fr f2 (by intro k hk;simp;rintro rfl;exact bJ.1.1.2 hk);have pM:=vq.fr f2 (by intro k hk;simp;rintro rfl;exact bJ.1.2 hk);refine nE (k:=.sl) (x:=sg) p9 rfl ?_;refine fz (x:=m.gen i) Pl hi.1 (Pk tN) ?_;rw [aI (by omega) (by omega)];refine mW Pl hi.1 (by rw [fq];exact tN) rfl fun w3 hg3 f3 s3=>?_;rw [ints_set] at hg3;have yP:=rU.fr f3 (fun hk=>Dj a (by simp [hk]) rfl);have B4:=p9.fr f3 bJ.1.1.1;have adx:=Kq.fr f3 (fun k hk bL=>bJ.2.1.2.2 k bL k hk rfl);have US:=pM.fr f3 (fun k hk bL=>bJ.2.2.2 k (.inl bL) k hk rfl);refine nE (k:=.sl) (x:=sa) B4 rfl ?_;have bz:i.toNat < m.alive.length:=by rw [hm.len];exact tN
 refine mW adx hi.1 (by rw [mg];exact bz) rfl fun w4 yQ f4 s4=>?_;rw [tM] at yQ;have Hg:=yP.fr f4 (fun hk=>Dj a (by simp [hk]) rfl);have Ew:=B4.fr f4 bJ.1.1.2;have Kn:=hg3.fr f4 (fun k hk bL=>bJ.2.1.2.2 k hk k bL rfl);have Hd:=US.fr f4 (fun k hk bL=>bJ.2.2.2 k (.inr bL) k hk rfl);refine nE (k:=.sl) (x:=sg) Ew rfl ?_;refine fz (x:=m.gen i+1) Kn hi.1 (by rw [xz (by simpa using tN)];simp [Kd.inj]) ?_;refine st (o:=0) Hg (by simp) rfl fun w5 B9 f5 s5=>?_;refine DI B9 (by simp) rfl fun w6 X5 f12 s6=>?_;refine ld (k:=.i .i64) X5 rfl ?_;refine nE (k:=.i .i64) X5 rfl ?_;have f56:Fr [a] w4 w6:=f5.trans f12 (by simp);refine hK w6 ?_ ?_
 ·refine⟨sg,sa,s',og,oa,kX,?_,?_,?_,?_,rfl,adw⟩
  ·have:=Ew.fr f56 (by simp;exact Dj b (by simp))
   simpa [ai.cS] using this
  ·have:=Kn.fr f56 (by intro k hk;simp;exact Dj k (by simp [hk]))
   simpa [ai.cS] using this
  ·have:=yQ.fr f56 (by intro k hk;simp;exact Dj k (by simp [hk]))
   simpa [ai.cS] using this
  ·have:=Hd.fr f56 (by intro k hk;simp;exact Dj k (by simp [hk]));rw [hf] at this
   simpa [ai.cS,ints] using this
 ·have dL:w.heap.size<=a:=by omega
  refine(((((f1.mono (S':=b :: (og++oa++kX)) (by simp)).trans f2 (by simp)).trans f3 (fun k hk=>.inl (by simp [hk]))).trans f4 (fun k hk=>.inl (by simp [hk]))).trans f56 (by simp;omega))
theorem Kr {b:Nat} {w:World} {m:ai} {O:List Nat} {K:Int->Int->Int->World->Prop} (h:db w b m O) (hm:m.Ok) (hf:m.free= []) (hl:(m.au.length:Int) < m.aO)
  (hK: ∀w' O',db w' b m.dy O'->(∀k∈O',k∈O \/ w.heap.size<=k)->Fr O w w'->K m.au.length 1 0 w'):
  V3 (some ⟨b,0,none⟩) w K:=by
 refine D9 ?_;unfold f58;simp only [gp];refine nw fun a w1 ha By f1 s1=>?_;have h1:=h.fr f1 (by simp);have av:=h.lt;obtain⟨sg,sa,sf,og,oa,kX,ke,hg,ig,fk,rfl,bJ⟩:=h1;simp only [al6,alg,al1,not_or] at bJ;refine nE (k:=.sl) (x:=sf) ke rfl ?_;have dh:=fk.len;rw [hf,fq] at dh;rw [if_neg (by simp at dh;simp;omega)];refine dr fun w2 f2 s2 X6=>?_;have rU:=X6 _ _ _ By;have p9:=X6 _ _ _ ke;have Pl:=hg.fr f2 (by simp);have Kq:=ig.fr f2 (by simp);have ady:=fk.fr f2 (by simp);refine nE (k:=.sl) (x:=sg) p9 rfl ?_;refine ld (k:=.i .i64) (x:=m.aO) p9 rfl ?_;have tN:=hg.len;rw [fq] at tN;rw [if_neg (by simp;omega)];have X7:=hm.fZ;refine nE (k:=.sl) (x:=sg) p9 rfl ?_;refine nw fun c w3 hc F4 f3 s3=>?_;refine Pf (Pl.fr f3 (by simp)) F4 (by omega) fun s' w4 Cb Kn X8 f4 _=>?_;have Ks: ∀k∈b :: (og++oa++kX),k < w3.heap.size:=fun k hk=>by
  have:=av k hk;omega
 have ha3:a < w3.heap.size:=by omega
 have Dj: ∀k∈b :: (og++oa++kX),k≠a:=fun k hk e=>by have:=av k hk;omega
 have Ew:=(p9.fr f3 (by simp)).fr f4 bJ.1.1.1;have Hg:=(rU.fr f3 (by simp)).fr f4 (fun hk=>Dj a (by simp [hk]) rfl);have yQ:=(Kq.fr f3 (by simp)).fr f4 (fun k hk bL=>bJ.2.1.2.2 k bL k hk rfl);have Hh:=(ady.fr f3 (by simp)).fr f4 (fun k hk bL=>bJ.2.2.2 k (.inl bL) k hk rfl);have Wd: ∀k∈Cb,k∈og \/ w3.heap.size<=k:=fun k hk=>by
  rcases X8 with rfl | ⟨n,h1,_,rfl⟩
  ·exact .inl hk
  ·simp at hk;subst hk;exact .inr h1
 have Ey: ∀k,k∈b :: (oa++kX) \/ k=a->k ∉ Cb:=fun k hk bL=>by
  rcases Wd k bL with h1 | h1
  ·rcases hk with hk | rfl
   ·simp only [alF,alg] at hk
    rcases hk with rfl | hk | hk
    ·exact bJ.1.1.1 h1
    ·exact bJ.2.1.2.2 k h1 k hk rfl
    ·exact bJ.2.2.2 k (.inl h1) k hk rfl
   ·exact Dj k (by simp [h1]) rfl
  ·rcases hk with hk | rfl
   ·have:=Ks k (by simp only [alF,alg] at hk ⊢;rcases hk with h | h | h <;> simp [h]);omega
   ·omega
 refine DI Ew (by simp) rfl fun w5 Ko f5 s5=>?_;have B9:=Hg.fr f5 (by simp;exact fun e=>Dj b (by simp) e.symm);have Wc:=Kn.fr f5 (by intro k hk;simp;rintro rfl;exact Ey k (.inl (by simp)) hk);have Ca:=yQ.fr f5 (by intro k hk;simp;rintro rfl;exact bJ.1.1.2 hk);have Ex:=Hh.fr f5 (by intro k hk;simp;rintro rfl;exact bJ.1.2 hk);refine nE (k:=.sl) (x:=sa) Ko rfl ?_;refine nw fun c2 w6 lF Kt f12 s6=>?_;have bz:m.alive.length<=200:=by rw [hm.len];exact X7
 refine X3 (Ca.fr f12 (by simp)) Kt (by omega) fun s2' w7 oa' Kp X9 f43 _=>?_;have UR:=(Ko.fr f12 (by simp)).fr f43 bJ.1.1.2;have adz:=(B9.fr f12 (by simp)).fr f43 (fun hk=>Dj a (by simp [hk]) rfl);have X4:=(Wc.fr f12 (by simp)).fr f43 (fun k hk bL=>Ey k (.inl (by simp [bL])) hk);have UT:=(Ex.fr f12 (by simp)).fr f43 (fun k hk bL=>bJ.2.2.2 k (.inr bL) k hk rfl);have Ph: ∀k∈b :: (Cb++oa++kX),k < w6.heap.size:=fun k hk=>by
  simp only [alF,alg] at hk;have e4:=f4.size;have e6:=f12.size
  rcases hk with rfl | (hk | hk) | hk
  ·have:=Ks k (by simp);omega
  ·have:=Wc.lt k hk;omega
  ·have:=Ks k (by simp [hk]);omega
  ·have:=Ks k (by simp [hk]);omega
 have ha6:a < w6.heap.size:=by have e4:=f4.size;have e6:=f12.size;omega
 have hoa: ∀k∈oa',k∈oa \/ w6.heap.size<=k:=fun k hk=>by
  rcases X9 with rfl | ⟨n,h1,_,rfl⟩
  ·exact .inl hk
  ·simp at hk;subst hk;exact .inr h1
 have Ku: ∀k,k∈b :: (Cb++kX) \/ k=a->k ∉ oa':=fun k hk bL=>by
  rcases hoa k bL with h1 | h1
  ·rcases hk with hk | rfl
   ·simp only [alF,alg] at hk
    rcases hk with rfl | hk | hk
    ·exact bJ.1.1.2 h1
    ·exact Ey k (.inl (by simp [h1])) hk
    ·exact bJ.2.2.2 k (.inr h1) k hk rfl
   ·exact Dj k (by simp [h1]) rfl
  ·rcases hk with hk | rfl
   ·have:=Ph k (by simp only [alF,alg] at hk ⊢;rcases hk with h | h | h <;> simp [h]);omega
   ·omega
 refine DI UR (by simp) rfl fun w8 Pj f62 s8=>?_;have adA:=adz.fr f62 (by simp;exact fun e=>Dj b (by simp) e.symm);have hg8:=X4.fr f62 (by intro k hk;simp;rintro rfl;exact Ey k (.inl (by simp)) hk);have adB:=Kp.fr f62 (by intro k hk;simp;rintro rfl;exact Ku k (.inl (by simp)) hk);have adC:=UT.fr f62 (by intro k hk;simp;rintro rfl;exact bJ.1.2 hk);refine nE (k:=.sl) (x:=s') Pj rfl ?_;have fB:s'.len=m.au.length+1:=by have:=Kn.len;rw [fq] at this;simpa using this.symm
 rw [aI (by omega) (by omega)];refine st (o:=0) adA (by simp) rfl fun w9 UU f48 s9=>?_;refine DI UU (by simp) rfl fun nK Cc f59 Xv=>?_;refine ld (k:=.i .i64) Cc rfl ?_;refine nE (k:=.i .i64) Cc rfl ?_;have Kv:Fr [a] w8 nK:=f48.trans f59 (by simp);have e:((s'.len:Int) - 1)=(m.au.length:Int):=by omega
 rw [e];have e1:=f1.size;have e2:=f2.size;have e3:=f3.size;have e4:=f4.size;have e5:=f5.size;have e6:=f12.size;have e7:=f43.size;refine hK nK (b :: (Cb++oa'++kX)) ?_ ?_ ?_
 ·refine⟨s',s2',sf,Cb,oa',kX,?_,?_,?_,?_,rfl,?_⟩
  ·have:=Pj.fr Kv (by simp;exact Dj b (by simp))
   simpa [ai.dy] using this
  ·have:=hg8.fr Kv (by intro k hk;simp;rintro rfl;exact Ey k (.inr rfl) hk)
   simpa [ai.dy] using this
  ·have:=adB.fr Kv (by intro k hk;simp;rintro rfl;exact Ku k (.inr rfl) hk)
   simpa [ai.dy] using this
  ·have:=adC.fr Kv (by intro k hk;simp;exact Dj k (by simp [hk]))
   simpa [ai.dy] using this
  ·simp only [al6,alg,al1,not_or];refine⟨⟨⟨Ey b (.inl (by simp)),Ku b (.inl (by simp))⟩,bJ.1.2⟩,⟨?_,?_,?_⟩,bJ.2.2.1,?_⟩
   ·rcases X8 with rfl | ⟨n,_,_,rfl⟩
    ·exact bJ.2.1.1
    ·simp
   ·rcases X9 with rfl | ⟨n,_,_,rfl⟩
    ·exact bJ.2.1.2.1
    ·simp
   ·rintro x hx y hy rfl;exact Ku x (.inl (by simp [hx])) hy
   ·rintro x (hx | hx) y hy rfl
    ·exact Ey x (.inl (by simp [hy])) hx
    ·exact Ku x (.inl (by simp [hy])) hx
 ·intro k hk;simp only [alF,alg] at hk
  rcases hk with rfl | (hk | hk) | hk
  ·left;simp
  ·rcases Wd k hk with h1 | h1
   ·left;simp [h1]
   ·right;omega
  ·rcases hoa k hk with h1 | h1
   ·left;simp [h1]
   ·right;omega
  ·left;simp [hk]
 ·have dL:w.heap.size<=a:=by omega
  refine((((((((f1.mono (S':=b :: (og++oa++kX)) (by simp)).trans f2 (by simp)).trans f3 (by simp)).trans f4 (fun k hk=>.inl (by simp [hk]))).trans f5 (by simp)).trans f12 (by simp)).trans f43 (fun k hk=>.inl (by simp [hk]))).trans f62 (by simp)).trans Kv (by simp;omega)
theorem Hj {b:Nat} {w:World} {m:ai} {O:List Nat} {K:Int->Int->Int->World->Prop} (h:db w b m O) (hf:m.free= []) (hl:(m.au.length:Int)=m.aO)
  (hK: ∀w',Fr [] w w'->K 0 0 40 w'):
  V3 (some ⟨b,0,none⟩) w K:=by
 refine D9 ?_;unfold f58;simp only [gp];refine nw fun a w1 ha By f1 s1=>?_;have h1:=h.fr f1 (by simp);obtain⟨sg,sa,sf,og,oa,kX,ke,hg,ig,fk,rfl,bJ⟩:=h1;refine nE (k:=.sl) (x:=sf) ke rfl ?_;have dh:=fk.len;rw [hf,fq] at dh;rw [if_neg (by simp at dh;simp;omega)];refine dr fun w2 f2 s2 X6=>?_;have rU:=X6 _ _ _ By;have p9:=X6 _ _ _ ke;refine nE (k:=.sl) (x:=sg) p9 rfl ?_;refine ld (k:=.i .i64) (x:=m.aO) p9 rfl ?_;have tN:=hg.len;rw [fq] at tN;rw [if_pos (by simp;omega)];refine st (o:=0) rU (by simp) rfl fun w9 UU f48 s9=>?_;refine DI UU (by simp) rfl fun nK Cc f59 Xv=>?_;refine ld (k:=.i .i64) Cc rfl ?_;refine nE (k:=.i .i64) Cc rfl ?_;exact hK nK (((f1.trans f2 (by simp)).trans f48 (by simp;omega)).trans f59 (by simp;omega))
abbrev iv (i:Int):List Value:= [.int .i64 i]
abbrev bv (b:Bool):List Value:= [.bool b]
abbrev fo (x:Int×Int):List Value:= [.int .i64 x.1,.int .i64 x.2]
theorem aB (x:Int):(iv x).length=1:=rfl
theorem oL (x:Bool):(bv x).length=1:=rfl
theorem cu (x:Int×Int):(fo x).length=2:=rfl
theorem Pm (l:List Int):l.flatMap iv=ints l:=by
 induction l with
 | nil=>rfl
 | cons x l ih=>rw [alX,ih];rfl
theorem Kw (l:List Bool):l.flatMap bv=lr l:=by
 induction l with
 | nil=>rfl
 | cons x l ih=>rw [alX,ih];rfl
theorem pN {w:World} {s:Sl} {e:TypeId} {l:List Int} {o:List Nat}:fK w s e (ints l) o↔cq w s e 1 iv l o:=by
 simp only [fK,cq,fq,Pm,amf]
theorem Cd {w:World} {s:Sl} {e:TypeId} {l:List Bool} {o:List Nat}:fK w s e (lr l) o↔cq w s e 1 bv l o:=by
 simp only [fK,cq,mg,Kw,amf]
theorem Pn: ∃inf:TypeInfo,Tryz.prog.info? 33=some inf /\ inf.zero=some (.agg #[.int .i64 0,.int .i64 0]) /\ inf.size=2 /\ inf.bytes=16:=fU (by kernel_rfl)
theorem Ya:Tryz.prog.underlying 43=some (.slice 33):=by kernel_rfl
theorem adD {s:Sl} {w:World} {vs:List (Int×Int)} {o:List Nat} {b:Nat} {v:Int×Int} {K:Sl->World->Prop} (h:cq w s 33 2 fo vs o) (hb:fF w b 33 [.int .i64 v.1,.int .i64 v.2]) (hn:vs.length<=1000000000)
  (hK: ∀s' w' o',cq w' s' 33 2 fo (vs++ [v]) o'->(o'=o \/ ∃k,w.heap.size<=k /\ k < w'.heap.size /\ o'= [k])->Fr o w w'->K s' w'):
  cA .sl Tryz.prog (Builtin.append_ #[43,43] 43 #[.slice s.a s.len s.cap,.slice (some ⟨b,0,none⟩) 1 1]) w K:=by
 obtain⟨inf,h1,h4,h2,h3⟩:=Pn;have hl:=h.len;refine cq.app cu Ya h1 h2 h4 rfl h (news:= [v]) rfl ?_ (by simp [Value.oneCell']) (by rw [h3];omega) (by omega) ?_
 ·intro j u hj;rw [Addr.aU,hb.cell]
  simpa using hj
 ·intro s' w' o' g1 g2 g3 g4 g5 g6 g7;exact hK s' w' o' g1 g3 g5
theorem Po {b:Nat} {o:List Nat} (h:b ∉ o): ∀k∈o,k ∉ [b]:=by
 intro k hk hm;simp only [ali] at hm;subst hm;exact h hk
theorem nwE {i g:Int} {w:World} {K:Addr->World->Prop}
  (hK: ∀b w',w.heap.size<=b->fF w' b 33 [.int .i64 i,.int .i64 g]->Fr [] w w'->K ⟨b,0,none⟩ w'):
  Nw (.cells #[.int .i64 0,.int .i64 0] 33) w fun(x:Addr) w=>St x (.int .i64 i) w fun w=>St (x.add 1) (.int .i64 g) w fun w=>K x w:=by
 refine nw fun b w1 hb IH f1 s1=>?_;refine st (o:=0) IH (by simp) rfl fun w2 gO f2 s2=>?_;refine DI gO (by simp) rfl fun w3 rA f3 s3=>?_;exact hK b w3 (by omega) rA ((f1.trans f2 (by simp;omega)).trans f3 (by simp;omega))
theorem ldE {b:Nat} {i g:Int} {w:World} {K:Int->Int->Prop} (h:fF w b 33 [.int .i64 i,.int .i64 g]) (hK:K i g):
  Ld (.i .i64) w ⟨b,0,none⟩ fun(x:Int)=>Ld (.i .i64) w ((⟨b,0,none⟩:Addr).add 1) fun(y:Int)=>K x y:=
 ld (k:=.i .i64) h rfl (nE (k:=.i .i64) h rfl hK)
def ai.iG (m:ai):Nat->List (Int×Int)
 | 0=> []
 | k+1=>if m.bD k then m.iG k++ [((k:Int),m.gen k)] else m.iG k
theorem ai.kz (m:ai): ∀k,(m.iG k).length<=k
 | 0=>by simp [ai.iG]
 | k+1=>by
  have:=kz m k;simp only [ai.iG];split <;> simp <;> omega
theorem Kx {b:Nat} {w:World} {m:ai} {O:List Nat} {K:Sl->World->Prop} (h:db w b m O) (hm:m.Ok)
  (hK: ∀w' l o,cq w' l 33 2 fo (m.iG m.au.length) o->(∀k∈o,w.heap.size<=k)->Fr [] w w'->K l w'):W5 (some ⟨b,0,none⟩) w K:=by
 refine TY ?_;unfold f65;simp only [gp];have h0:=h;obtain⟨sg,sa,sf,og,oa,kX,hb,hg,ig,fk,rfl,bJ⟩:=h0;have tN:=hg.len;rw [fq] at tN;have Ce:=hm.fZ;refine nE (k:=.sl) (x:=sg) hb rfl ?_;refine⟨fun out t12 n w'=> ∃(k:Nat) (o:List Nat),t12=k /\ k<=sg.len /\ n=sg.len - k /\ cq w' out 33 2 fo (m.iG k) o /\ (∀k∈o,w.heap.size<=k) /\ Fr [] w w',⟨sg.len,0,[],by simp,by omega,by omega,cq.nil,by simp,Fr.refl _ _⟩,?_⟩;rintro out t12 n w1 ⟨k,o,rfl,hk,rfl,hs,ho,f1⟩;by_cases av:k < sg.len
 ·rw [if_pos (by simpa using av)];refine F3 (h.fr f1 (by simp)) hm.len fun w2 f2=>?_
  cases hl:m.bD k with
  | true=>
   rw [if_pos rfl];refine nwE fun x w3 hx hbx f3=>?_;rw [if_pos (by rfl)];refine ldE hbx ?_;refine nw fun y w4 hy hby f4 s4=>?_;have f68:=((f1.trans f2 (by simp)).trans f3 (by simp)).trans f4 (by simp);refine adD (v:=((k:Int),m.gen k)) (((hs.fr f2 (by simp)).fr f3 (by simp)).fr f4 (by simp)) hby (by have:=m.kz k;omega) fun s' w5 o' g1 g2 g3=>?_;refine⟨sg.len - (k+1),by omega,k+1,o',aI (by omega) (by omega),by omega,rfl,?_,?_,?_⟩
   ·simpa [ai.iG,hl] using g1
   ·rcases g2 with rfl | ⟨n,h1,_,rfl⟩
    ·exact ho
    ·have:=f68.size;simp;omega
   ·exact f68.trans g3 (fun k hk=>.inr (ho k hk))
  | false=>
   rw [if_neg (by simp)];refine nwE fun x w3 hx hbx f3=>?_;rw [if_neg (by simp)];refine⟨sg.len - (k+1),by omega,k+1,o,aI (by omega) (by omega),by omega,rfl,?_,ho,?_⟩
   ·have:=(hs.fr f2 (by simp)).fr f3 (by simp)
    simpa [ai.iG,hl] using this
   ·exact(f1.trans f2 (by simp)).trans f3 (by simp)
 ·rw [if_neg (by simpa using av)];have:k=m.au.length:=by omega
  subst this;exact hK w1 out o hs ho f1
theorem Ky {s:Sl} {w:World} {l:List Int} {o:List Nat} {K:Sl->World->Prop} (h:bO w s 1 iv l o) (hn:l.length<=1000000000)
  (hK: ∀w' s' o',cq w' s' 3 1 iv l o'->(∀k∈o',w.heap.size<=k)->(s'.a=none↔s.a=none)->Fr [] w w'->K s' w'):R8 s w K:=by
 refine JP ?_;unfold f97;by_cases hs:s.a=none
 ·rw [if_pos (by simp [hs])];have:=h.isNil hs;subst this;exact hK w _ [] cq.nil (by simp) (by simp [hs]) (Fr.refl _ _)
 ·rw [if_neg (by simpa using hs)];refine nw (c:= []) fun b w1 hb IH f1 s1=>?_;obtain⟨inf,h1,h4,h2,h3⟩:=Km;have hl:=h.len;refine cq.gq (s:=⟨some ⟨b,0,none⟩,0,0⟩) (l:= []) aB eM h1 h2 h4 rfl ⟨rfl,.inr ⟨b,0,[],rfl,rfl,IH,by simp,by simp,rfl⟩⟩ (h.fr f1 (by simp)) (by simp [iv,Value.oneCell']) (by rw [h3];show (0+s.len)*8<=_;omega) (by show 0+s.len<=_;omega) ?_;intro s' w' o' g1 g2 g3 g4 g5 g6 g7;refine hK w' s' o' g1 ?_ ?_ (f1.trans g5 (by simp;omega))
  ·rcases g3 with rfl | ⟨n,h1,_,rfl⟩
   ·simp;omega
   ·simp;omega
  ·simp [hs,g7 (by simp)]
theorem Kz {α:Type} {a b:List α} {k:Nat} {x:α} (hl:a.length=b.length) (hk:a[k]? =some x):(a.take k++b.drop k).set k x=a.take (k+1)++b.drop (k+1):=by
 have bL:=(ak6.1 hk).1;apply alM;intro j;simp only [alN,amy,alU,alZ,alb,alv,alT];by_cases h1:k=j
 ·subst h1;rw [if_pos rfl,if_pos (by omega),if_pos (by omega),if_pos (by omega),hk]
 ·rw [if_neg h1];by_cases h2:j < k
  ·rw [if_pos (by omega),if_pos h2,if_pos (by omega),if_pos (by omega)]
  ·rw [if_neg (by omega),if_neg (by omega)];congr 1;omega
theorem Pp {α:Type} {a b:List α} {k:Nat} (hl:a.length=b.length) (hk:a[k]? =b[k]?):a.take k++b.drop k=a.take (k+1)++b.drop (k+1):=by
 apply alM;intro j;simp only [amy,alU,alZ,alv];by_cases h2:j < k
 ·by_cases h3:j < a.length
  ·rw [if_pos (by omega),if_pos h2,if_pos (by omega),if_pos (by omega)]
  ·rw [if_neg (by omega),if_neg (by omega)];rw [alE (by omega),alE (by omega)]
 ·by_cases h3:j=k
  ·subst h3;by_cases h4:j < a.length
   ·rw [if_neg (by omega),if_pos (by omega),if_pos (by omega),<-hk.symm];congr 1;omega
   ·rw [if_neg (by omega),if_neg (by omega)];rw [alE (by omega),alE (by omega)]
  ·rw [if_neg (by omega),if_neg (by omega)];by_cases h4:k < a.length
   ·congr 1;omega
   ·rw [alE (by omega),alE (by omega)]
def ai.aH (m:ai):List Int:=m.au.mapIdx fun i g=>if g=1000000 /\ m.bD i=false then g+1 else g
theorem Ez {b:Nat} {w:World} {m:ai} {O:List Nat} {K:Sl->Sl->World->Prop} (h:db w b m O) (hm:m.Ok)
  (hK: ∀w' g f og kX,cq w' g 3 1 iv m.aH og->cq w' f 3 1 iv m.free kX->(∀k∈og,w.heap.size<=k)->(∀k∈kX,w.heap.size<=k /\ k ∉ og)->Fr [] w w'->K g f w'):Z9 (some ⟨b,0,none⟩) w K:=by
 refine Tp ?_;unfold f36;simp only [gp];have h0:=h;obtain⟨sg,sa,sf,og,oa,kX,hb,hg,ig,fk,rfl,bJ⟩:=h0;have tN:=hg.len;rw [fq] at tN;have Ce:=hm.fZ;refine nE (k:=.sl) (x:=sg) hb rfl ?_;refine Ky (pN.1 hg).toR (by omega) fun w1 s1 o1 zu QM A7 f1=>?_;have Bw:=zu.len;have fB:m.aH.length=m.au.length:=by simp [ai.aH]
 refine⟨fun t n w'=> ∃k:Nat,t=k /\ k<=s1.len /\ n=s1.len - k /\ cq w' s1 3 1 iv (m.aH.take k++m.au.drop k) o1 /\ Fr [] w w',⟨s1.len,0,by simp,by omega,by omega,by simpa using zu,f1⟩,?_⟩;rintro t n w2 ⟨k,rfl,hk,rfl,hs,f2⟩;by_cases av:k < s1.len
 ·rw [if_pos (by simpa using av)];have cO:k < m.au.length:=by omega
  have Pq:k < m.aH.length:=by omega
  have zy:(m.aH.take k++m.au.drop k)[k]? =some m.au[k]:=by
   rw [ak8 (by simp;omega)];simp only [alv,alZ];rw [show k+(k - min k m.aH.length)=k by omega];simp [cO]
  have bW:m.aH[k]? =some (if m.au[k]=1000000 /\ m.bD k=false then m.au[k]+1 else m.au[k]):=by
   simp [ai.aH,cO]
  refine cq.ix aB hs (amX k) (by simpa using zy) fun c off cs hc F4 fm ma dM=>?_;refine ld (k:=.i .i64) (x:=m.au[k]) F4 (by simpa [Kd.inj] using ma 0 (by omega)) ?_;have next: ∀w3,cq w3 s1 3 1 iv (m.aH.take (k+1)++m.au.drop (k+1)) o1->Fr [] w w3-> ∃m2:Nat,m2 < s1.len - k /\ ∃Yb:Nat,(i64.wrap ((k:Int)+1))=Yb /\ Yb<=s1.len /\ m2=s1.len - Yb /\ cq w3 s1 3 1 iv (m.aH.take Yb++m.au.drop Yb) o1 /\ Fr [] w w3:=by
   intro w3 a1 a2;exact⟨s1.len - (k+1),by omega,k+1,aI (by omega) (by omega),by omega,rfl,a1,a2⟩
  refine⟨fun t w'=>w'=w2 /\ t=decide (m.au[k]=1000000 /\ m.bD k=false),?_,?_⟩
  ·by_cases Pr:m.au[k]=1000000
   ·rw [if_pos (by simpa using Pr)];obtain⟨sg,sa,sf,og,oa,kX,hb,hg,ig,fk,hO,bJ⟩:=h.fr f2 (by simp);refine nE (k:=.sl) (x:=sa) hb rfl ?_;have QN:k < m.alive.length:=by rw [hm.len];exact cO
    refine fz ig (amX k) (tL (i:=((k:Int)).toNat) (by simpa using QN)) ?_;refine⟨rfl,?_⟩;simp [Pr,ai.bD,QN]
   ·rw [if_neg (by simpa using Pr)];exact⟨rfl,by simp [Pr]⟩
  ·rintro t w3 ⟨rfl,rfl⟩;by_cases hd:m.au[k]=1000000 /\ m.bD k=false
   ·rw [if_pos (by simpa using hd)];rw [if_pos hd] at bW;refine cq.ix aB hs (amX k) (by simpa using zy) fun c off cs hc F4 fm ma dM=>?_;refine ld (k:=.i .i64) (x:=m.au[k]) F4 (by simpa [Kd.inj] using ma 0 (by omega)) ?_;refine cq.ix aB hs (amX k) (by simpa using zy) fun c2 ah0 cs2 lF Kt Yc ah1 Yd=>?_;refine st Kt (by omega) rfl fun w4 Di f4 s4=>?_;refine next w4 ?_ (f2.trans f4 (by
     have:=QM c2 (by rw [lF];simp)
     simpa using this))
    have e1:i64.wrap (m.au[k]+1)=m.au[k]+1:=by rw [hd.1];rfl
    rw [<-Kz fB bW,<-e1];have:=Yd w4 (i64.wrap (m.au[k]+1)) (by
     rw [anl,if_pos (by omega)] at Di
     simpa using Di)
    simpa using this
   ·rw [if_neg (by simpa using hd)];rw [if_neg hd] at bW;refine next w3 ?_ f2;rw [<-Pp fB (by rw [bW];simp [cO])];exact hs
 ·rw [if_neg (by simpa using av)];have e1:k=m.au.length:=by omega
  subst e1;obtain⟨sg,sa,sf,og,oa,kX,hb,hg,ig,fk,hO,bJ⟩:=h.fr f2 (by simp);refine nE (k:=.sl) (x:=sf) hb rfl ?_;have dh:m.free.length<=200:=by have:=hm.lG;omega
  refine Ky (pN.1 fk).toR (by omega) fun w3 s3 o3 US ho3 hn3 f3=>?_;refine hK w3 s1 s3 o1 o3 ?_ US QM ?_ (f2.trans f3 (by simp))
  ·have:=hs.fr f3 (by simp);rw [aln (by omega),ana,alh] at this;exact this
  ·intro k hk;have:=ho3 k hk;refine⟨by have:=f2.size;omega,fun gG=>?_⟩;have:=hs.lt k gG;omega
def iy (uY:List Int):List Int->ai->Option ai
 | [],m=>some m
 | i :: r,m=>if i < 0 \/ i>=uY.length \/ m.alive.getD i.toNat false=false \/ uY.getD i.toNat 0>=1000000 then none else iy uY r { m with alive:=m.alive.set i.toNat false,free:=m.free++ [i]}
def gK (aO:Int) (au free:List Int):Option ai:=
 if aO < 1 \/ 200 < aO \/ (au.length:Int) > aO \/ ¬(∀g∈au,1<=g /\ g<=1000001) then none
 else iy au free ⟨aO,au.map (fun g=>if 1000000 < g then 1000000 else g),au.map (fun g=>decide (g<=1000000)),[]⟩
theorem Hk {aO:Int} {g f:Sl} {w:World} {au free:List Int} {og kX:List Nat} {K:Option Addr->Int->World->Prop} (hg:bO w g 1 iv au og) (hf:bO w f 1 iv free kX) (dh:free.length<=1000000000)
  (hK: ∀w' p (e:Int),Fr [] w w'->(match gK aO au free with
   | none=>p=none /\ e=1
   | some m=>e=0 /\ ∃b O,p=some ⟨b,0,none⟩ /\ db w' b m O /\ ∀k∈O,w.heap.size<=k)->K p e w'):c64 aO g f w K:=by
 have tN:=hg.len;refine TX ?_;unfold f64;by_cases KA:aO < 1 \/ 200 < aO
 ·refine Pe KA ?_;rw [if_pos (by simp)];refine hK w _ _ (Fr.refl _ _) ?_;unfold gK;rw [if_pos (by omega)];exact⟨rfl,rfl⟩
 refine Kl (by omega) (by omega) fun b w1 n9 gO yR f1=>?_;by_cases hlm:(au.length:Int) > aO
 ·rw [if_pos (by simp;omega)];refine hK w1 _ _ f1 ?_;unfold gK;rw [if_pos (by omega)];exact⟨rfl,rfl⟩
 rw [if_neg (by simp;omega)];simp only [gp];refine⟨fun t n w'=> ∃(k:Nat) (O:List Nat),t=k /\ k<=g.len /\ n=g.len - k /\ (∀x∈au.take k,1<=x /\ x<=1000001) /\
   db w' b ⟨aO,(au.take k).map (fun g=>if 1000000 < g then 1000000 else g),(au.take k).map (fun g=>decide (g<=1000000)),[]⟩ O /\ (∀k∈O,w.heap.size<=k) /\ Fr [] w w',
  ⟨g.len,0,[b],by simp,by omega,by omega,by simp,by simpa using yR,by simpa using n9,f1⟩,?_⟩
 rintro t n w2 ⟨k,O,rfl,hk,rfl,bz,yw,hO,f2⟩;by_cases av:k < g.len
 ·rw [if_pos (by simpa using av)];have cO:k < au.length:=by omega
  refine bO.ix aB (hg.fr f2 (by simp)) (amX k) (x:=au[k]) (by simp [cO]) fun a ma=>?_;refine dG (k:=.i .i64) (x:=au[k]) (ma 0 (by omega)) rfl ?_;by_cases rW:au[k] < 1 \/ au[k] > 1000001
  ·rw [if_pos (by simpa using rW)];refine hK w2 _ _ f2 ?_;unfold gK;rw [if_pos]
   ·exact⟨rfl,rfl⟩
   ·refine .inr (.inr (.inr fun h=>?_));have:=h au[k] (alz cO);omega
  ·rw [if_neg (by simpa using rW)];obtain⟨sg,sa,sf,Cb,oa,KB,hb,We,ig,fk,rfl,bJ⟩:=yw;refine nE (k:=.sl) (x:=sg) hb rfl ?_;refine nw fun c1 w3 KC UW f3 s3=>?_;refine Pf (We.fr f3 (by simp)) UW (by simp;omega) fun s' w4 o4 Hd ho4 f4 _=>?_;simp only [al6,alg,al1,not_or] at bJ;have Di:=(hb.fr f3 (by simp)).fr f4 (fun gG=>bJ.1.1.1 gG);have yQ:=(ig.fr f3 (by simp)).fr f4 (fun k hk bL=>bJ.2.1.2.2 k bL k hk rfl);have Hh:=(fk.fr f3 (by simp)).fr f4 (fun k hk bL=>bJ.2.2.2 k (.inl bL) k hk rfl);have e4: ∀k∈o4,k∈Cb \/ w2.heap.size<=k:=by
    rcases ho4 with rfl | ⟨n,h1,_,rfl⟩
    ·exact fun k hk=>.inl hk
    ·have:=f3.size;simp;omega
   have AA: ∀k∈b :: (Cb++oa++KB),k < w2.heap.size:=db.lt (m:=⟨aO,_,_,_⟩) ⟨sg,sa,sf,Cb,oa,KB,hb,We,ig,fk,rfl,by simp only [al6,alg,al1,not_or];exact bJ⟩;have nb4:b ∉ o4:=fun gG=>(e4 b gG).elim bJ.1.1.1 (fun h=>by have:=AA b (by simp);omega);have na4: ∀k∈oa,k ∉ o4:=fun k hk gG=>(e4 k gG).elim (fun h=>bJ.2.1.2.2 k h k hk rfl) (fun h=>by have:=AA k (by simp [hk]);omega);have nf4: ∀k∈KB,k ∉ o4:=fun k hk gG=>(e4 k gG).elim (fun h=>bJ.2.2.2 k (.inl h) k hk rfl) (fun h=>by have:=AA k (by simp [hk]);omega);refine DI Di (by simp) rfl fun w5 Ye f5 s5=>?_;have F5:=Hd.fr f5 (Po nb4);have Ca:=yQ.fr f5 (Po bJ.1.1.2);have Ex:=Hh.fr f5 (Po bJ.1.2);refine nE (k:=.sl) (x:=sa) Ye rfl ?_;refine nw fun c2 w6 lF Kt f12 s6=>?_;refine X3 (Ca.fr f12 (by simp)) Kt (by simp;omega) fun s'' w7 o7 Ps Yf f43 _=>?_;have hb7:=(Ye.fr f12 (by simp)).fr f43 (fun gG=>bJ.1.1.2 gG);have adG:=(F5.fr f12 (by simp)).fr f43 (fun k hk bL=>na4 k bL hk);have UT:=(Ex.fr f12 (by simp)).fr f43 (fun k hk bL=>bJ.2.2.2 k (.inr bL) k hk rfl);have dL:w2.heap.size<=w6.heap.size:=by have:=f3.size;have:=f4.size;have:=f5.size;have:=f12.size;omega
   have e7: ∀k∈o7,k∈oa \/ w6.heap.size<=k:=by
    rcases Yf with rfl | ⟨n,h1,_,rfl⟩
    ·exact fun k hk=>.inl hk
    ·simp;omega
   have Yg:b ∉ o7:=fun gG=>(e7 b gG).elim bJ.1.1.2 (fun h=>by have:=AA b (by simp);omega);have ng7: ∀k∈o4,k ∉ o7:=fun k hk gG=>(e7 k gG).elim (fun h=>na4 k h hk) (fun h=>by
    have:=F5.lt k hk;have:=f12.size;omega)
   have nf7: ∀k∈KB,k ∉ o7:=fun k hk gG=>(e7 k gG).elim (fun h=>bJ.2.2.2 k (.inr h) k hk rfl) (fun h=>by have:=AA k (by simp [hk]);omega);refine DI hb7 (by simp) rfl fun w8 hb8 f62 s8=>?_;have dU:au.take (k+1)=au.take k++ [au[k]]:=by rw [alp cO]
   refine⟨g.len - (k+1),by omega,k+1,b :: (o4++o7++KB),aI (by omega) (by omega),by omega,rfl,?_,?_,?_,?_⟩
   ·intro x hx;rw [dU] at hx
    rcases alg.1 hx with hx | hx
    ·exact bz x hx
    ·simp only [ali] at hx;subst hx;omega
   ·refine⟨s',s'',sf,o4,o7,KB,by simpa using hb8,?_,?_,?_,rfl,?_⟩
    ·have:=adG.fr f62 (Po nb4);show fK w8 s' 3 (ints (List.map _ _)) o4;rw [dU,alW];exact this
    ·have:=Ps.fr f62 (Po Yg);show fK w8 s'' 4 (lr (List.map _ _)) o7;rw [dU,alW];exact this
    ·exact UT.fr f62 (Po bJ.1.2)
    ·simp only [al6,alg,al1,not_or];refine⟨⟨⟨nb4,Yg⟩,bJ.1.2⟩,⟨?_,?_,?_⟩,bJ.2.2.1,?_⟩
     ·rcases ho4 with rfl | ⟨n,_,_,rfl⟩
      ·exact bJ.2.1.1
      ·simp
     ·rcases Yf with rfl | ⟨n,_,_,rfl⟩
      ·exact bJ.2.1.2.1
      ·simp
     ·rintro x hx y hy rfl;exact ng7 x hx hy
     ·rintro x (hx | hx) y hy rfl
      ·exact nf4 x hy hx
      ·exact nf7 x hy hx
   ·intro k hk;simp only [alF,alg] at hk
    rcases hk with rfl | (hk | hk) | hk
    ·exact hO k (by simp)
    ·rcases e4 k hk with h | h
     ·exact hO k (by simp [h])
     ·have:=f2.size;omega
    ·rcases e7 k hk with h | h
     ·exact hO k (by simp [h])
     ·have:=f2.size;omega
    ·exact hO k (by simp [hk])
   ·exact(((((f2.trans f3 (by simp)).trans f4 (fun k hk=>.inr (hO k (by simp [hk])))).trans f5 (by simp;omega)).trans f12 (by simp)).trans f43 (fun k hk=>.inr (hO k (by simp [hk])))).trans f62 (by simp;omega)
 rw [if_neg (by simpa using av)];have e1:k=au.length:=by omega
 subst e1;rw [amB] at bz yw;have QO:gK aO au free=iy au free ⟨aO,au.map (fun g=>if 1000000 < g then 1000000 else g),au.map (fun g=>decide (g<=1000000)),[]⟩:=by
  unfold gK;rw [if_neg];rintro(h | h | h | h)
  ·omega
  ·omega
  ·omega
  ·exact h bz
 rw [QO] at hK;have adJ:=hf.len;refine⟨fun t n w'=> ∃(k:Nat) (O:List Nat) (m:ai),t=k /\ k<=f.len /\ n=f.len - k /\ m.au=au.map (fun g=>if 1000000 < g then 1000000 else g) /\ m.alive.length=au.length /\ m.free=free.take k /\
   iy au free ⟨aO,au.map (fun g=>if 1000000 < g then 1000000 else g),au.map (fun g=>decide (g<=1000000)),[]⟩=iy au (free.drop k) m /\
   db w' b m O /\ (∀k∈O,w.heap.size<=k) /\ Fr [] w w',
  ⟨f.len,0,O,_,by simp,by omega,by omega,rfl,by simp,by simp,by simp,yw,hO,f2⟩,?_⟩
 rintro t n w3 ⟨k,O,m,rfl,hk,rfl,hmg,RZ,hmf,F6,Wf,Wg,f3⟩;by_cases av:k < f.len
 ·rw [if_pos (by simpa using av)];have cO:k < free.length:=by omega
  have Cf:free.drop k=free[k] :: free.drop (k+1):=al0 cO;refine bO.ix aB (hf.fr f3 (by simp)) (amX k) (x:=free[k]) (by simp [cO]) fun a ma=>?_;refine dG (k:=.i .i64) (x:=free[k]) (ma 0 (by omega)) rfl ?_;have bad:(free[k] < 0 \/ free[k]>=au.length \/ m.alive.getD free[k].toNat false=false \/ au.getD free[k].toNat 0>=1000000)->K none 1 w3:=by
   intro h;refine hK w3 _ _ f3 ?_;rw [F6,Cf,iy,if_pos h];exact⟨rfl,rfl⟩
  refine⟨fun w'=>w'=w3 /\ ¬(free[k] < 0 \/ free[k]>=au.length \/ m.alive.getD free[k].toNat false=false \/ au.getD free[k].toNat 0>=1000000),?_,?_⟩
  ·by_cases c1:free[k] < 0
   ·rw [if_pos (by simpa using c1)];exact bad (.inl c1)
   rw [if_neg (by simpa using c1)];by_cases c2:free[k]>=au.length
   ·rw [if_pos (by simp;omega)];exact bad (.inr (.inl c2))
   rw [if_neg (by simp;omega)];obtain⟨sg,sa,sf,Cb,oa,KB,hb,We,ig,fk,rfl,bJ⟩:=Wf;refine nE (k:=.sl) (x:=sa) hb rfl ?_;have c3:free[k].toNat < m.alive.length:=by omega
   refine fz ig (by omega) (tL c3) ?_
   cases c4:m.alive[free[k].toNat] with
   | false=>rw [if_pos (by simp)];exact bad (.inr (.inr (.inl (by simp [c3,c4]))))
   | true=>
    rw [if_neg (by simp)];have c5:free[k].toNat < au.length:=by omega
    refine bO.ix aB (hg.fr f3 (by simp)) (by omega) (x:=au[free[k].toNat]) (by simp [c5]) fun a ma=>?_;refine dG (k:=.i .i64) (x:=au[free[k].toNat]) (ma 0 (by omega)) rfl ?_;by_cases c7:au[free[k].toNat]>=1000000
    ·rw [if_pos (by simpa using c7)];exact bad (.inr (.inr (.inr (by simp [c5];exact c7))))
    ·rw [if_neg (by simpa using c7)];refine⟨rfl,?_⟩;rintro(h | h | h | h)
     ·exact c1 h
     ·exact c2 h
     ·simp [c3,c4] at h
     ·simp [c5] at h;exact c7 h
  ·rintro w4 ⟨rfl,oJ⟩;obtain⟨sg,sa,sf,Cb,oa,KB,hb,We,ig,fk,rfl,bJ⟩:=Wf;simp only [al6,alg,al1,not_or] at bJ;have AA: ∀k∈b :: (Cb++oa++KB),k < w4.heap.size:=db.lt (m:=m) ⟨sg,sa,sf,Cb,oa,KB,hb,We,ig,fk,rfl,by simp only [al6,alg,al1,not_or];exact bJ⟩;refine nE (k:=.sl) (x:=sa) hb rfl ?_;refine mW ig (by omega) (by rw [mg];omega) rfl fun w5 Ca f5 s5=>?_;rw [tM] at Ca;have Ye:=hb.fr f5 (fun gG=>bJ.1.1.2 gG);have Wc:=We.fr f5 (fun k hk bL=>bJ.2.1.2.2 k hk k bL rfl);have Ex:=fk.fr f5 (fun k hk bL=>bJ.2.2.2 k (.inr bL) k hk rfl);refine nE (k:=.sl) (x:=sf) Ye rfl ?_;refine nw fun c1 w6 KC UW f12 s6=>?_;refine Pf (Ex.fr f12 (by simp)) UW (by rw [hmf];simp;omega) fun s' w7 o7 Ps Yf f43 _=>?_;have hb7:=(Ye.fr f12 (by simp)).fr f43 (fun gG=>bJ.1.2 gG);have X4:=(Wc.fr f12 (by simp)).fr f43 (fun k hk bL=>bJ.2.2.2 k (.inl hk) k bL rfl);have Kp:=(Ca.fr f12 (by simp)).fr f43 (fun k hk bL=>bJ.2.2.2 k (.inr hk) k bL rfl);have e7: ∀k∈o7,k∈KB \/ w4.heap.size<=k:=by
    rcases Yf with rfl | ⟨n,h1,_,rfl⟩
    ·exact fun k hk=>.inl hk
    ·have:=f5.size;have:=f12.size;simp;omega
   have Yg:b ∉ o7:=fun gG=>(e7 b gG).elim bJ.1.2 (fun h=>by have:=AA b (by simp);omega);have ng7: ∀k∈Cb++oa,k ∉ o7:=fun k hk gG=>(e7 k gG).elim (fun h=>bJ.2.2.2 k (alg.1 hk) k h rfl) (fun h=>by have:=AA k (amZ _ (alg.2 (.inl hk)));omega);refine DI hb7 (by simp) rfl fun w8 hb8 f62 s8=>?_;refine⟨f.len - (k+1),by omega,k+1,b :: (Cb++oa++o7),{ m with alive:=m.alive.set free[k].toNat false,free:=m.free++ [free[k]]},aI (by omega) (by omega),by omega,rfl,hmg,by simpa using RZ,?_,?_,?_,?_,?_⟩
   ·show m.free++ [free[k]]=_;rw [hmf,alp cO]
   ·rw [F6,Cf,iy,if_neg oJ]
   ·refine⟨sg,sa,s',Cb,oa,o7,hb8,?_,?_,?_,rfl,?_⟩
    ·exact X4.fr f62 (Po bJ.1.1.1)
    ·exact Kp.fr f62 (Po bJ.1.1.2)
    ·have:=Ps.fr f62 (Po Yg)
     simpa using this
    ·simp only [al6,alg,al1,not_or];refine⟨⟨bJ.1.1,Yg⟩,bJ.2.1,?_,?_⟩
     ·rcases Yf with rfl | ⟨n,_,_,rfl⟩
      ·exact bJ.2.2.1
      ·simp
     ·rintro x hx y hy rfl;exact ng7 x (alg.2 hx) hy
   ·intro k hk;simp only [alF,alg] at hk
    rcases hk with rfl | hk | hk
    ·exact Wg k (by simp)
    ·exact Wg k (by rcases hk with hk | hk <;> simp [hk])
    ·rcases e7 k hk with h | h
     ·exact Wg k (by simp [h])
     ·have:=f3.size;omega
   ·exact(((f3.trans f5 (fun k hk=>.inr (Wg k (by simp [hk])))).trans f12 (by simp)).trans f43 (fun k hk=>.inr (Wg k (by simp [hk])))).trans f62 (by simp;omega)
 ·rw [if_neg (by simpa using av)];have e1:k=free.length:=by omega
  subst e1;rw [ana,iy] at F6;rw [F6] at hK;exact hK w3 _ _ f3 ⟨rfl,b,O,rfl,Wf,Wg⟩
theorem kA {α:Type} (l:List α) (i j:Nat) (v d:α):(l.set i v).getD j d=if i=j /\ j < l.length then v else l.getD j d:=by
 simp only [alk,alN];by_cases h1:i=j
 ·subst h1;by_cases h2:i < l.length
  ·simp [h2]
  ·simp [h2]
 ·simp [h1]
theorem Cg {α:Type} (l:List α) (j:Nat) (v d:α):(l++ [v]).getD j d=if j=l.length then v else l.getD j d:=by
 simp only [alk,amy];by_cases h1:j < l.length
 ·rw [if_pos h1,if_neg (by omega)]
 ·rw [if_neg h1];by_cases h2:j=l.length
  ·subst h2;simp
  ·rw [if_neg h2,alE (by simp;omega),alE (by omega)]
theorem count_set {l:List Bool} {i:Nat} {v:Bool} (h:i < l.length):(l.set i v).count true+(if l[i]=true then 1 else 0)=l.count true+(if v=true then 1 else 0):=by
 induction l generalizing i with
 | nil=>simp at h
 | cons x l ih=>
  cases i with
  | zero=>simp only [alq,List.count_cons,anu];cases x <;> cases v <;> simp
  | succ i=>
   have:=ih (i:=i) (by simpa using h);simp only [alG,List.count_cons,List.getElem_cons_succ];omega
namespace ai
theorem Ok.new {n:Int} (h1:1<=n) (h2:n<=200):Ok ⟨n,[],[],[]⟩:=
 ⟨h1,h2,rfl,by simp;omega,by simp,by simp,by simp,by simp⟩
theorem qn (m:ai) (hl:m.alive.length=m.au.length) (i:Int):m.dy.bD i=if i=m.au.length then true else m.bD i:=by
 simp only [bD,dy,Cg,hl];by_cases h:i=m.au.length
 ·subst h;simp
 ·rw [if_neg h];by_cases h0:0<=i
  ·rw [if_neg (by omega)]
  ·simp [h0]
theorem uZ (m:ai) {i:Int} (hi:0<=i):m.dy.gen i=if i=m.au.length then 1 else m.gen i:=by
 simp only [gen,dy,Cg];by_cases h:i=m.au.length
 ·subst h;simp
 ·rw [if_neg h,if_neg (by omega)]
theorem kB (m:ai) {i:Int} {rest:List Int} (hi:0<=i) (hl:i.toNat < m.alive.length) (j:Int):(m.cS i rest).bD j=if j=i then true else m.bD j:=by
 simp only [bD,cS,kA];by_cases h:j=i
 ·subst h;simp [hi,hl]
 ·rw [if_neg h];by_cases h0:0<=j
  ·rw [if_neg (by omega)]
  ·simp [h0]
theorem nk (m:ai) {i:Int} {rest:List Int} (hi:0<=i) (hl:i.toNat < m.au.length) {j:Int} (hj:0<=j):(m.cS i rest).gen j=if j=i then m.gen i+1 else m.gen j:=by
 simp only [gen,cS,kA];by_cases h:j=i
 ·subst h;simp [hi,hl]
 ·rw [if_neg h,if_neg (by omega)]
theorem nm (m:ai) {i g:Int} (hi:0<=i) (hl:i.toNat < m.alive.length) (j:Int):(m.dN i g).bD j=if j=i then false else m.bD j:=by
 simp only [bD,dN,kA];by_cases h:j=i
 ·subst h;simp [hi,hl]
 ·rw [if_neg h];by_cases h0:0<=j
  ·rw [if_neg (by omega)]
  ·simp [h0]
theorem xA (m:ai) {i g:Int} (j:Int):(m.dN i g).gen j=m.gen j:=rfl
theorem Ok.gen {m:ai} (h:m.Ok) {i:Int} (h0:0<=i) (h1:i < m.au.length):1<=m.gen i /\ m.gen i<=1000000:=by
 have hl:i.toNat < m.au.length:=by omega
 simp only [ai.gen,alk,alf hl,amu];exact h.au _ (alz hl)
theorem Ok.dy {m:ai} (h:m.Ok) (hf:m.free= []) (hl:(m.au.length:Int) < m.aO):m.dy.Ok where
 B8:=h.B8
 zx:=h.zx
 len:=by simp [ai.dy,h.len]
 le:=by simp [ai.dy];omega
 au:=by
  intro g hg;simp only [ai.dy,alg,ali] at hg
  rcases hg with hg | rfl
  ·exact h.au g hg
  ·omega
 free:=by simp [ai.dy,hf]
 nodup:=h.nodup
 lG:=by have:=h.lG;simp [ai.dy,hf,List.count_append] at this ⊢;omega
theorem Ok.cS {m:ai} (h:m.Ok) {i:Int} {rest:List Int} (hf:m.free=i :: rest):(m.cS i rest).Ok:=by
 have hi:=h.free i (by simp [hf]);have bJ:=h.nodup;rw [hf,al6] at bJ;have EA:i.toNat < m.alive.length:=by rw [h.len];omega
 have hlg:i.toNat < m.au.length:=by omega
 refine⟨h.B8,h.zx,by simp [ai.cS,h.len],by simpa [ai.cS] using h.le,?_,?_,bJ.2,?_⟩
 ·intro g hg
  rcases anQ hg with hg | rfl
  ·exact h.au g hg
  ·have:=h.gen hi.1 hi.2.1;omega
 ·intro j hj;have eA:j∈m.free:=by rw [hf];exact amZ _ hj
  have aW:j≠i:=fun e=>bJ.1 (e ▸ hj);obtain⟨a1,a2,a3,a4⟩:=h.free j eA;refine⟨a1,by simpa [ai.cS] using a2,?_,?_⟩
  ·rw [kB m hi.1 EA,if_neg aW];exact a3
  ·rw [nk m hi.1 hlg a1,if_neg aW];exact a4
 ·have hc:=h.lG;have h1:=count_set (l:=m.alive) (v:=true) EA;have h2:m.alive[i.toNat]=false:=by
   have:=hi.2.2.1
   simpa [ai.bD,hi.1,EA] using this
  rw [h2] at h1;simp only [ai.cS,alV];rw [hf] at hc;simp at hc h1;omega
theorem kC {m:ai} {i g:Int}:m.is i g=true↔m.bD i=true /\ m.gen i=g:=by simp [ai.is]
theorem Ok.dN {m:ai} (h:m.Ok) {i g:Int} (hi:m.is i g=true):(m.dN i g).Ok:=by
 obtain⟨k6,hg⟩:=kC.1 hi;obtain⟨h0,EA,ig⟩:=rV k6;have hlg:i.toNat < m.au.length:=by rw [<-h.len];exact EA
 have Qm:i ∉ m.free:=fun hm=>by have:=(h.free i hm).2.2.1;rw [k6] at this;cases this
 refine⟨h.B8,h.zx,by simp [ai.dN,h.len],h.le,h.au,?_,?_,?_⟩
 ·intro j hj;have:j=i /\ g < 1000000 \/ j∈m.free:=by
   simp only [ai.dN] at hj
   split at hj
   ·rename_i av
    rcases alg.1 hj with hj | hj
    ·exact .inr hj
    ·exact .inl ⟨by simpa using hj,av⟩
   ·exact .inr hj
  rcases this with ⟨rfl,av⟩ | hj
  ·exact⟨h0,by show j < (m.au.length:Int);omega,by rw [nm m h0 EA,if_pos rfl],by rw [xA,hg];exact av⟩
  ·obtain⟨a1,a2,a3,a4⟩:=h.free j hj;refine⟨a1,a2,?_,a4⟩;rw [nm m h0 EA];split
   ·rfl
   ·exact a3
 ·simp only [ai.dN]
  split
  ·rw [al1];exact⟨h.nodup,by simp,by intro a ha b hb e;simp at hb;subst hb;exact Qm (e ▸ ha)⟩
  ·exact h.nodup
 ·have hc:=h.lG;have h1:=count_set (l:=m.alive) (v:=false) EA;have h2:m.alive[i.toNat]=true:=by
   have:=alf EA;rw [ig] at this;simpa using this.symm
  rw [h2] at h1;simp only [ai.dN];simp at h1
  split <;> simp <;> omega
end ai
structure Good (m:ai) (L A:List (Int×Int)) (k:Nat):Prop where
 nd:L.Nodup
 mem: ∀x,x∈L↔m.is x.1 x.2=true
 ah6:L.length=m.alive.count true
 out: ∀x∈A,0<=x.1 /\ x.1 < m.au.length /\ x.2<=m.gen x.1
 ah7:A.length<=k
 au: ∀g∈m.au,g<=k+1
 dead: ∀i:Int,0<=i->i < m.au.length->m.bD i=false->i∈m.free
 lG:m.free.length+m.alive.count true=m.au.length
theorem jW {m:ai} (hm:m.Ok) {i:Int} (h:m.bD i=true):0<=i /\ i < m.au.length:=by
 obtain⟨h0,h1,_⟩:=rV h;have:=hm.len;exact⟨h0,by omega⟩
theorem mh (m:ai): ∀k,(∀x∈m.iG k,0<=x.1 /\ x.1 < k /\ m.bD x.1=true /\ m.gen x.1=x.2) /\ (m.iG k).Pairwise (fun x y=>x.1 < y.1)
 | 0=>by simp [ai.iG]
 | k+1=>by
  obtain⟨h1,h2⟩:=mh m k;simp only [ai.iG]
  split
  ·rename_i hl
   constructor
   ·intro x hx
    rcases alg.1 hx with hx | hx
    ·obtain⟨a,b,c⟩:=h1 x hx;exact⟨a,by push_cast;omega,c⟩
    ·simp only [ali] at hx;subst hx;exact⟨amX _,by push_cast;omega,hl,rfl⟩
   ·rw [List.pairwise_append];refine⟨h2,by simp,?_⟩;intro x hx y hy;simp only [ali] at hy;subst hy;exact(h1 x hx).2.1
  ·exact⟨fun x hx=>by obtain⟨a,b,c⟩:=h1 x hx;exact⟨a,by push_cast;omega,c⟩,h2⟩
theorem zz (uY:List Int): ∀(fr:List Int) (m:ai),fr.Nodup->(∀i∈fr,0<=i /\ i < uY.length /\ m.alive.getD i.toNat false=true /\ uY.getD i.toNat 0 < 1000000)->
  iy uY fr m=some { m with alive:=fr.foldl (fun a i=>a.set i.toNat false) m.alive,free:=m.free++fr}
 | [],m,_,_=>by simp [iy]
 | i :: fr,m,bJ,h=>by
  obtain⟨a,b,c,d⟩:=h i (by simp);rw [al6] at bJ;rw [iy,if_neg (by
   rintro(x | x | x | x)
   ·omega
   ·omega
   ·rw [c] at x;cases x
   ·omega)]
  rw [zz uY fr _ bJ.2]
  ·simp
  ·intro j hj;obtain⟨a',b',c',d'⟩:=h j (by simp [hj]);refine⟨a',b',?_,d'⟩;simp only [kA];rw [if_neg]
   ·exact c'
   ·rintro⟨e,_⟩;exact bJ.1 (by rw [show i=j by omega];exact hj)
theorem Hl (fr:List Int): ∀(al:List Bool),(fr.foldl (fun a i=>a.set i.toNat false) al).length=al.length /\
  ∀j,(fr.foldl (fun a i=>a.set i.toNat false) al).getD j false=if (∃i∈fr,i.toNat=j) then false else al.getD j false:=by
 induction fr with
 | nil=>simp
 | cons i fr ih=>
  intro al;obtain⟨h1,h2⟩:=ih (al.set i.toNat false);refine⟨by rw [amQ,h1];simp,fun j=>?_⟩;rw [amQ,h2,kA];by_cases e: ∃i∈fr,i.toNat=j
  ·obtain⟨x,hx,he⟩:=e;rw [if_pos ⟨x,hx,he⟩,if_pos ⟨x,by simp [hx],he⟩]
  ·rw [if_neg e];by_cases e2:i.toNat=j
   ·rw [if_pos (c:= ∃i_1,i_1∈i :: fr /\ i_1.toNat=j) ⟨i,by simp,e2⟩]
    split
    ·rfl
    ·rename_i hn
     rw [alk,alE (by have: ¬j < al.length:=fun h=>hn ⟨e2,h⟩;omega)];rfl
   ·rw [if_neg (fun h=>e2 h.1),if_neg];rintro⟨x,hx,he⟩
    rcases alF.1 hx with rfl | hx
    ·exact e2 he
    ·exact e ⟨x,hx,he⟩
def pk (c n:Int):Int:=if c < 0 then Int.tmod (i64.wrap (0 - i64.wrap (c+1))) n else Int.tmod c n
theorem nW: ∃inf:TypeInfo,Tryz.prog.info? 3=some inf /\ inf.zero=some (.int .i64 0) /\ inf.size=1 /\ inf.bytes=8:=fU (by kernel_rfl)
def QP (ty:TypeId) (b:Nat) (m:ai) (sg sa sf:Sl):aa:=
 bo (af b ty [.int .i64 m.aO,.slice sg.a sg.len sg.cap,.slice sa.a sa.len sa.cap,.slice sf.a sf.len sf.cap]) (bo (aj sg 3 1 iv m.au) (bo (aj sa 4 1 bv m.alive) (aj sf 3 1 iv m.free)))
def aD (ty:TypeId) (b:Nat) (m:ai):aa:=Mx fun x:Sl×Sl×Sl=>QP ty b m x.1 x.2.1 x.2.2
theorem tO {α:Type} {w:World} {s:Sl} {e:TypeId} {n:Nat} {f:α->List Value} {l:List α} {o:List Nat} (h:cq w s e n f l o):o.Nodup:=by
 rcases h.2 with ⟨_,_,_,rfl⟩ | ⟨_,_,_,_,rfl,_⟩ <;> simp
theorem KE {w:World} {b:Nat} {m:ai} {O:List Nat} (h:db w b m O):(aD 149 b m).holds w O:=by
 obtain⟨sg,sa,sf,og,oa,kX,hb,hg,ha,hf,rfl,bJ⟩:=h;simp only [al6,alg,al1,not_or] at bJ;refine⟨(sg,sa,sf),[b],og++(oa++kX),⟨hb,rfl⟩,⟨og,oa++kX,pN.1 hg,⟨oa,kX,Cd.1 ha,pN.1 hf,fun k hk bL=>bJ.2.2.2 k (.inr hk) k bL rfl,by simp⟩,?_,by simp⟩,?_,by simp [or_assoc]⟩
 ·intro k hk bL
  rcases alg.1 bL with h | h
  ·exact bJ.2.1.2.2 k hk k h rfl
  ·exact bJ.2.2.2 k (.inl hk) k h rfl
 ·intro k hk bL;simp only [ali] at hk;subst hk;simp only [alg] at bL
  rcases bL with h | h | h
  ·exact bJ.1.1.1 h
  ·exact bJ.1.1.2 h
  ·exact bJ.1.2 h
theorem QQ {w:World} {b:Nat} {m:ai} {O:List Nat} (h:(aD 149 b m).holds w O): ∃O',db w b m O' /\ ∀k,k∈O'↔k∈O:=by
 obtain⟨⟨sg,sa,sf⟩,O1,O2,⟨hb,rfl⟩,⟨og,O3,hg,⟨oa,kX,ha,hf,d1,e1⟩,d2,e2⟩,d3,e3⟩:=h;refine⟨b :: (og++oa++kX),⟨sg,sa,sf,og,oa,kX,hb,pN.2 hg,Cd.2 ha,pN.2 hf,rfl,?_⟩,fun k=>?_⟩
 ·have j7:b ∉ O2:=d3 b (by simp);simp only [al6,alg,al1,not_or];refine⟨⟨⟨fun h=>j7 ((e2 b).2 (.inl h)),fun h=>j7 ((e2 b).2 (.inr ((e1 b).2 (.inl h))))⟩,fun h=>j7 ((e2 b).2 (.inr ((e1 b).2 (.inr h))))⟩,⟨tO hg,tO ha,?_⟩,tO hf,?_⟩
  ·rintro x hx y hy rfl;exact d2 x hx ((e1 x).2 (.inl hy))
  ·rintro x (hx | hx) y hy rfl
   ·exact d2 x hx ((e1 x).2 (.inr hy))
   ·exact d1 x hx hy
 ·rw [e3 k,e2 k,e1 k];simp [or_assoc]
structure ai.MD (m:ai):Prop extends m.Ok where
 dead: ∀i:Int,0<=i->i < m.au.length->m.bD i=false->m.gen i < 1000000->i∈m.free
def ai.bG (m:ai):ai×(Int×Int)×Int:=
 match m.free with
 | i :: rest=>(m.cS i rest,(i,m.gen i+1),0)
 | []=>if (m.au.length:Int) < m.aO then (m.dy,(m.au.length,1),0) else (m,(0,0),40)
def ai.mi (m:ai) (i g:Int):ai×Int:=if m.is i g=true then (m.dN i g,0) else (m,41)
section
variable {S:List Nat} {w0 w:World} {ae:List aa}
theorem zA (h:Hp S w0 w ae) {i b:Nat} {ty:TypeId} {m:ai} (hi:ae[i]? =some (aD ty b m)):
  ∃sg sa sf:Sl,Hp S w0 w (ae.set i (af b ty [.int .i64 m.aO,.slice sg.a sg.len sg.cap,.slice sa.a sa.len sa.cap,.slice sf.a sf.len sf.cap])++ [aj sg 3 1 iv m.au,aj sa 4 1 bv m.alive,aj sf 3 1 iv m.free]):=by
 have hl:=(ak6.1 hi).1;obtain⟨⟨sg,sa,sf⟩,h⟩:=h.nf hi (fun _=>rfl);have h:=h.split (i:=i) (by simp [hl];rfl) rfl rfl;have e1: ∀(l:List aa) (t:aa),(l++ [t])[l.length]? =some t:=fun l t=>by simp
 have h:=h.split (e1 _ _) rfl rfl;simp only [alj _ _ (alA _),alK,alq] at h;have h:=h.split (e1 _ _) rfl rfl;rw [alj _ _ (alA _),alK,alq] at h;exact⟨sg,sa,sf,by simpa using h⟩
theorem gX {b:Nat} {ty:TypeId} {m:ai} {sg sa sf:Sl} {rest:List aa}
  (h:Hp S w0 w (af b ty [.int .i64 m.aO,.slice sg.a sg.len sg.cap,.slice sa.a sa.len sa.cap,.slice sf.a sf.len sf.cap] :: aj sg 3 1 iv m.au :: aj sa 4 1 bv m.alive :: aj sf 3 1 iv m.free :: rest)):Hp S w0 w (aD ty b m :: rest):=by
 have h:=h.aV (i:=2) (j:=3) (by omega) rfl rfl rfl rfl;have h:=h.aV (i:=1) (j:=2) (by omega) rfl rfl rfl rfl;have h:=h.aV (i:=0) (j:=1) (by omega) rfl rfl rfl rfl;have h:=h.nH (f:=fun x:Sl×Sl×Sl=>QP ty b m x.1 x.2.1 x.2.2) (i:=0) (sg,sa,sf) rfl rfl;have h:Hp S w0 w (aD ty b m :: ao :: ao :: ao :: rest):=h;exact h.fY.fY.fY
theorem rX (h:Hp S w0 w ae) (i:Nat) {b:Nat} {ty:TypeId} {m:ai} (hi:(ae[i]?).map aa.holds=some (aD ty b m).holds):
  ∃sg sa sf:Sl,Hp [] w w [(af b ty [.int .i64 m.aO,.slice sg.a sg.len sg.cap,.slice sa.a sa.len sa.cap,.slice sf.a sf.len sf.cap]).ro,(aj sg 3 1 iv m.au).ro,(aj sa 4 1 bv m.alive).ro,(aj sf 3 1 iv m.free).ro]:=by
 obtain⟨O,⟨sg,sa,sf⟩,O1,O2,h1,⟨O3,O4,h2,⟨O5,O6,h3,h4,_⟩,_⟩,_⟩:=h.de hi;exact⟨sg,sa,sf,((((Hp.init w).dC h1 (by simp)).dC h2 (by simp)).dC h3 (by simp)).dC h4 (by simp)⟩
theorem QR (h:Hp S w0 w ae) {i b:Nat} {m:ai} (hi:ae[i]? =some (aD 149 b m)):
  ∃O,db w b m O /\ ∀{w':World} {m':ai} {O':List Nat},Fr O w w'->db w' b m' O'->(∀k∈O',k∈O \/ w.heap.size<=k)->Hp S w0 w' (ae.set i (aD 149 b m')):=by
 obtain⟨O,hO,back⟩:=h.step hi rfl;obtain⟨O2,h2,e⟩:=QQ hO;refine⟨O2,h2,fun{w' m' O'} hf hp hk=>back (hf.mono (fun k hk=>.inl ((e k).1 hk))) (KE hp) (fun k bL=>(hk k bL).imp_left fun h=>(e k).1 h) rfl⟩
theorem UX (h:Hp S w0 w ae) (i:Nat) {b:Nat} {m:ai} (hi:(ae[i]?).map aa.holds=some (aD 149 b m).holds): ∃O,db w b m O:=by
 obtain⟨O,hO⟩:=h.de hi;obtain⟨O2,h2,e⟩:=QQ hO;exact⟨O2,h2⟩
theorem QS (h:Hp S w0 w ae) {n:Int} (h1:1<=n) (h2:n<=200) {K:Option Addr->Int->World->Prop} (hK: ∀b w',Hp S w0 w' (ae++ [aD 149 b ⟨n,[],[],[]⟩])->K (some ⟨b,0,none⟩) 0 w'):V1 n w K:=
 Kl h1 h2 fun b w' hb j7 hp hf=>hK b w' (h.grow hf (KE hp) (by simpa using hb) rfl)
theorem KF (h:Hp S w0 w ae) (i:Nat) {b:Nat} {m:ai} (hm:m.Ok) (hi:ae[i]? =some (aD 149 b m)) {K:Int->Int->Int->World->Prop}
  (hK: ∀w',Hp S w0 w' (ae.set i (aD 149 b m.bG.1))->K m.bG.2.1.1 m.bG.2.1.2 m.bG.2.2 w'):V3 (some ⟨b,0,none⟩) w K:=by
 obtain⟨O,hp,back⟩:=QR h hi;unfold ai.bG at hK
 cases hf:m.free with
 | cons j rest=>
  simp only [hf] at hK;exact Hi hp hm hf fun w' uv fk=>hK w' (back fk uv fun k hk=>.inl hk)
 | nil=>
  simp only [hf] at hK;by_cases hl:(m.au.length:Int) < m.aO
  ·simp only [if_pos hl] at hK;exact Kr hp hm hf hl fun w' O' uv hk fk=>hK w' (back fk uv hk)
  ·simp only [if_neg hl] at hK;have:=hm.le;refine Hj hp hf (by omega) fun w' fk=>hK w' ?_;rw [Hp.bN hi];exact h.cn fk
theorem UY (h:Hp S w0 w ae) (i:Nat) {b:Nat} {m:ai} (hm:m.Ok) (hi:ae[i]? =some (aD 149 b m)) {x g:Int} {K:Int->World->Prop}
  (hK: ∀w',Hp S w0 w' (ae.set i (aD 149 b (m.mi x g).1))->K (m.mi x g).2 w'):c62 (some ⟨b,0,none⟩) x g w K:=by
 obtain⟨O,hp,back⟩:=QR h hi;refine Hf hp hm fun w' O' uv hk fk=>?_;have h2:=back fk uv hk;unfold ai.mi at hK
 split
 ·rename_i he
  simp only [if_pos he] at hK h2;exact hK w' h2
 ·rename_i he
  simp only [if_neg he] at hK h2;exact hK w' h2
theorem AB (h:Hp S w0 w ae) (i:Nat) {b:Nat} {m:ai} (hm:m.Ok) (hi:(ae[i]?).map aa.holds=some (aD 149 b m).holds) {x g:Int} {K:Bool->World->Prop}
  (hK: ∀w',Hp S w0 w' ae->K (m.is x g) w'):DN (some ⟨b,0,none⟩) x g w K:=by
 obtain⟨O,hp⟩:=UX h i hi;exact nj hp hm.len fun w' hf=>hK w' (h.cn hf)
theorem QT (h:Hp S w0 w ae) (i:Nat) {b:Nat} {m:ai} (hm:m.Ok) (hi:(ae[i]?).map aa.holds=some (aD 149 b m).holds) {K:Sl->World->Prop}
  (hK: ∀s w',Hp S w0 w' (ae++ [aj s 33 2 fo (m.iG m.au.length)])->K s w'):W5 (some ⟨b,0,none⟩) w K:=by
 obtain⟨O,hp⟩:=UX h i hi;exact Kx hp hm fun w' l o hs ho hf=>hK l w' (h.grow hf (t:=aj l 33 2 fo _) hs ho rfl)
theorem Pt (h:Hp S w0 w ae) (i:Nat) {b:Nat} {m:ai} (hm:m.Ok) (hi:(ae[i]?).map aa.holds=some (aD 149 b m).holds) {K:Sl->Sl->World->Prop}
  (hK: ∀g f w',Hp S w0 w' (ae++ [aj g 3 1 iv m.aH,aj f 3 1 iv m.free])->K g f w'):Z9 (some ⟨b,0,none⟩) w K:=by
 obtain⟨O,hp⟩:=UX h i hi;refine Ez hp hm fun w' g f og kX hg hf Wd Yh fk=>hK g f w' ?_;refine h.r0 (rest:= [_,_]) rfl ?_;refine⟨fk,fun n=>if n=0 then og else kX,fun n t hn=>?_,fun n n' t u hn lC aW ht hu k hk bL=>?_⟩
 ·match n,hn with
  | 0,hn=>
   simp only [alo,ald] at hn;subst hn;exact⟨hg,fun _ k hk=>.inr (Wd k hk),fun h=>by cases h⟩
  | 1,hn=>
   simp only [alP,alo,ald] at hn;subst hn;exact⟨hf,fun _ k hk=>.inr (Yh k hk).1,fun h=>by cases h⟩
  | n+2,hn=>simp at hn
 ·match n,n',hn,lC,aW with
  | 0,0,_,_,aW=>exact aW rfl
  | 0,1,_,_,_=>exact(Yh k bL).2 hk
  | 1,0,_,_,_=>exact(Yh k hk).2 bL
  | 1,1,_,_,aW=>exact aW rfl
  | n+2,_,hn,_,_=>simp at hn
  | 0,n+2,_,hn,_=>simp at hn
  | 1,n+2,_,hn,_=>simp at hn
theorem UZ (h:Hp S w0 w ae) (i j:Nat) {aO:Int} {g f:Sl} {u v:aa} {au free:List Int} (hi:(ae[i]?).map aa.holds=some u.holds) (hj:(ae[j]?).map aa.holds=some v.holds) (hu:Hp.Reads u g 1 iv au) (hv:Hp.Reads v f 1 iv free) (dh:free.length<=1000000000) {K:Option Addr->Int->World->Prop}
  (hN: ∀w',gK aO au free=none->Hp S w0 w' ae->K none 1 w')
  (hK: ∀m b w',gK aO au free=some m->Hp S w0 w' (ae++ [aD 149 b m])->K (some ⟨b,0,none⟩) 0 w'):c64 aO g f w K:=by
 obtain⟨O1,h1⟩:=h.de hi;obtain⟨o1,h1⟩:=hu.rd h1;obtain⟨O2,h2⟩:=h.de hj;obtain⟨o2,h2⟩:=hv.rd h2;refine Hk h1 h2 dh fun w' p e hf hm=>?_
 cases hc:gK aO au free with
 | none=>
  rw [hc] at hm;obtain⟨rfl,rfl⟩:=hm;exact hN w' hc (h.cn hf)
 | some m=>
  rw [hc] at hm;obtain⟨rfl,b,O,rfl,hp,hO⟩:=hm;exact hK m b w' hc (h.grow hf (KE hp) hO rfl)
theorem F7 (h:Hp S w0 w ae) (j:Nat) {u:aa} {v:Sl} {xs:List Int} (hj:ae[j]? =some u) (hu:Hp.Reads u v 1 iv xs) (hlen:xs.length<=1000000) {K:Sl->World->Prop} (hK: ∀s w',Hp S w0 w' (ae++ [aj s 3 1 iv xs])->K s w'):R8 v w K:=by
 refine JP ?_;unfold f97;obtain⟨O,h0⟩:=h.de (i:=j) (t:=u) (by rw [hj];rfl);obtain⟨o,h0⟩:=hu.rd h0;by_cases hn:v.a=none
 ·refine aL (by rw [hn];rfl) ?_;have:=h0.isNil hn;subst this;exact hK _ _ (h.nil 3 1 iv)
 ·refine aJ (by cases hv:v.a <;> simp_all) ?_;have hl:=h.dR j (by rw [hj];rfl) hu;have av:=(ak6.1 hj).1;refine h.nw (c:= []) fun b w h=>?_;have h:=h.nI (i:=ae.length) (m:=0) (l:=([]:List Int)) (f:=iv) (n:=1) alw rfl rfl aB;rw [alj _ _ (alA _),alK,alq] at h;obtain⟨inf,q1,q2,q3,q4⟩:=nW;refine h.gq ae.length j (s:=⟨some ⟨b,0,none⟩,0,0⟩) alw (u:=u) (by rw [ak9 av];exact hj) hu aB eM q1 q3 q2 rfl (by simp [iv,Value.oneCell']) (by rw [q4];show (0+v.len)*8<=_;omega) (by show 0+v.len<=_;omega) fun r w h dQ _=>?_;rw [alj _ _ (alA _),alK,alq] at h;exact hK r w h
theorem Pu (h:Hp S w0 w ae) (j:Nat) {u:aa} {v:Sl} {xs:List Bool} (hj:ae[j]? =some u) (hu:Hp.Reads u v 1 bv xs) (hlen:xs.length<=1000000) {K:Sl->World->Prop} (hK: ∀s w',Hp S w0 w' (ae++ [aj s 4 1 bv xs])->K s w'):Sk v w K:=by
 refine Oo ?_;unfold f138;obtain⟨O,h0⟩:=h.de (i:=j) (t:=u) (by rw [hj];rfl);obtain⟨o,h0⟩:=hu.rd h0;by_cases hn:v.a=none
 ·refine aL (by rw [hn];rfl) ?_;have:=h0.isNil hn;subst this;exact hK _ _ (h.nil 4 1 bv)
 ·refine aJ (by cases hv:v.a <;> simp_all) ?_;have hl:=h.dR j (by rw [hj];rfl) hu;have av:=(ak6.1 hj).1;refine h.nw (c:= []) fun b w h=>?_;have h:=h.nI (i:=ae.length) (m:=0) (l:=([]:List Bool)) (f:=bv) (n:=1) alw rfl rfl oL;rw [alj _ _ (alA _),alK,alq] at h;obtain⟨inf,q1,q2,q3,q4⟩:=Ev;refine h.gq ae.length j (s:=⟨some ⟨b,0,none⟩,0,0⟩) alw (u:=u) (by rw [ak9 av];exact hj) hu oL qm q1 q3 q2 rfl (by simp [bv,Value.oneCell']) (by rw [q4];show (0+v.len)*1<=_;omega) (by show 0+v.len<=_;omega) fun r w h dQ _=>?_;rw [alj _ _ (alA _),alK,alq] at h;exact hK r w h
theorem Ok.vY {m:ai} (hm:m.Ok):m.free.length<=200:=by have:=hm.lG;have:=hm.fZ;omega
theorem Pv (h:Hp S w0 w ae) (i:Nat) {b:Nat} {m:ai} (hm:m.Ok) (hi:(ae[i]?).map aa.holds=some (aD 149 b m).holds) {K:Option Addr->World->Prop}
  (hK: ∀a w',Hp S w0 w' (ae++ [aD 149 a m])->K (some ⟨a,0,none⟩) w'):c95 (some ⟨b,0,none⟩) w K:=by
 refine Ur ?_;unfold f95;have Bw:=hm.fZ;have F8:=hm.len;have Yi:=Ok.vY hm;refine h.dr fun w1 h=>?_;obtain⟨sg,sa,sf,h1⟩:=rX h i hi;refine aS ?_;refine h1.bE (x:=m.aO) 0 rfl rfl ?_;refine aS ?_;refine h1.ld (x:=sg) 0 rfl rfl ?_;refine aS ?_;refine h1.ld (x:=sa) 0 rfl rfl ?_;refine aS ?_;refine h1.ld (x:=sf) 0 rfl rfl ?_;refine F7 h1 1 rfl ⟨Hp.bZ.rd⟩ (by omega) fun r w2 h1=>⟨h1.xl 0 rfl rfl,h1.xl 0 rfl rfl,h1.vw 0 rfl rfl,?_⟩;refine Pu h1 2 rfl ⟨Hp.bZ.rd⟩ (by omega) fun r2 w2 h1=>⟨h1.xl 0 rfl rfl,h1.vw 0 rfl rfl,?_⟩;refine F7 h1 3 rfl ⟨Hp.bZ.rd⟩ (by omega) fun r3 w2 h1=>⟨h1.vw 0 rfl rfl,?_⟩;refine h1.nw (c:= [_,_,_,_]) fun a w3 h1=>?_;refine hK a w3 (h.r0 rfl (gX (m:=m) (rest:= []) (h1.GZ 7 4 5 6 (by decide) rfl rfl rfl rfl)))
end
end Go.Proofs.YtcccjgmekakabaaGreat.FI
end

section
namespace Go.Den
open Go.RowKit
theorem u0 {j:IntKind} {k:IntKind} (a:Int): ∀(l:List Int) (es:List MapEntry) (i:Nat),es.map (·.key)=l.map (Value.int k)->Instr.findNow (.int j) (.int k a) es i=some ((l.findIdx? (fun b=>decide (b=a))).bind fun q=>(es[q]?).map fun e=>(i+q,e.val))
 | [],[],i,_=>by simp [Instr.findNow]
 | [],_ :: _,i,h=>by simp at h
 | _ :: _,[],i,h=>by simp at h
 | b :: l,e :: es,i,h=>by
  simp only [alR,amS] at h;obtain⟨h1,h2⟩:=h;have ih:=u0 (j:=j) a l es (i+1) h2;simp only [Instr.findNow,h1,Instr.sameNow,if_true,List.findIdx?_cons];by_cases hb:b=a
  ·have:(a ==b)=true:=by simp [hb]
   rw [this];simp [hb]
  ·have:(a ==b)=false:=by simpa using fun e=>hb e.symm
   rw [this];simp only [hb,decide_false,amk,if_false,ih];congr 1
   cases l.findIdx? (fun b=>decide (b=a)) with
   | none=>rfl
   | some q=>simp [ani,an6 1 q]
theorem Hm {P:Program} {kt:TypeId} {j k:IntKind} (hu:P.underlying kt=some (.int j)) (n:Nat) (b:Bool) (a:Int) (w:World):(Instr.checkKey b (n+1) kt (.int k a)).run P w=.ok () w:=by
 simp [Instr.checkKey,run_underlying hu]
theorem KG {k:IntKind} (n:Nat) (a:Int):Instr.sameBits (n+1) (.int k a) (.int k a)=true:=by
 simp [Instr.sameBits]
theorem KH {P:Program} {kt:TypeId} {j k:IntKind} (hu:P.underlying kt=some (.int j)):BP P kt (Value.int k):=by
 refine⟨fun w b a=>?_,fun w a l es p6=>?_,fun a=>?_⟩
 ·exact Hm hu 9999 b a w
 ·simp only [Instr.findKey,Sem.run_bind,run_underlying hu,Result.andThen_ok];rw [u0 a l es 0 p6];simp
 ·exact KG 9999 a
namespace Hp
variable {κ ν:Type} [DecidableEq κ] {ek:κ->Value} {ev:ν->Value}
variable {S:List Nat} {w0 w:World} {ae:List aa} {P:Program}
theorem lu (h:Hp S w0 w ae) (i:Nat) {b:Nat} {g:κ->Option ν} {mt kt vt:TypeId} {kd:Kd} {inf:TypeInfo} {k:κ} {vk:ν->kd.T} {z:kd.T} {K:kd.T->World->Prop} {kv:Value} (Im:kv=ek k)
  (hi:(ae[i]?).map aa.holds=some (dW b ek ev g).holds) (hm:P.underlying mt=some (.map kt vt)) (hk:BP P kt ek) (iE:P.info? vt=some inf) (hz:inf.zero=some (kd.inj z)) (hv: ∀v,ev v=kd.inj (vk v))
  (hK:K (match g k with | some v=>vk v | none=>z) w):
  gB [.one kd] P (Instr.lookup mt (.map (some b)) kv false) w K:=by
 subst Im;obtain⟨O,l,⟨⟨es,clock,hb,p6,_⟩,_⟩,bJ,hg⟩:=h.de hi;have j7: ∀w',Ext w w'->w'.heap[b]? =some (.map es clock):=fun w' he=>(he.2 b (als.1 hb).1).trans hb;obtain⟨k1,k2⟩:=Ar p6;refine⟨kd.inj (match g k with | some v=>vk v | none=>z),fun w' he=>?_,?_⟩
 ·have hf:=hk.fnd w' k _ _ k1;simp only [Instr.lookup,Sem.run_bind,run_underlying hm,Result.andThen_ok,MapKept.run_getObj_map (j7 w' he),Sem.run_pure,hk.chk,hf];rw [<-hg k];unfold ib
  cases hx:(l.map (·.1)).findIdx? (fun b=>decide (b=k)) with
  | none=>simp [zeroValue,typeInfo,iE,hz]
  | some j=>
   obtain⟨av,_,_⟩:=amj.1 hx;simp only [alr] at av;have e1:(es.toList.map (·.val))[j]? =some (ev (l[j]).2):=by rw [k2];simp [av]
   rw [alc,alH] at e1;obtain⟨en,h1,h2⟩:=e1;have uD:es[j]? =some en:=by simpa using h1
   simp [uD,h2,av,hv]
 ·show dx _ _ _ _;simp only [dx,rk,flat,wk,lM,nD,Sh.kds,List.append];show Kd.view kd (kd.inj _) _;rw [Kd.Bg];exact hK
end Hp
end Go.Den
end

section
namespace Go.Proofs.YtcccjgmekakabaaGreat.FW
open F
open Go Go.Den Go.Proofs
open FI (ai aD)
open FT (az fA bw ct fo jV dH)
def bit (set:Int) (k:Nat):Int:=(set / 2 ^ k) % 2
theorem xB {set:Int} {k:Nat} (h0:0<=set) (h1:set < 4611686018427387904) (hk:k < 64):
  i64.wrap ((BitVec.ofInt 64 (Int.fdiv set (2 ^ (min (Int.toNat (k:Int)) 64))) &&& BitVec.ofInt 64 1).toNat:Nat)=bit set k:=by
 have e1:min (Int.toNat (k:Int)) 64=k:=by rw [ak7];omega
 have hp:(0:Int) < 2 ^ k:=by exact_mod_cast Nat.two_pow_pos k
 rw [e1,am3 _ (by omega)];have hq0:0<=set / 2 ^ k:=Int.ediv_nonneg h0 (by omega);have hq1:set / 2 ^ k<=set:=Int.ediv_le_self _ h0;unfold bit;generalize set / 2 ^ k=q at hq0 hq1;have e2:(BitVec.ofInt 64 q &&& BitVec.ofInt 64 1).toNat=q.toNat % 2:=by
  rw [anI];have a1:(BitVec.ofInt 64 q).toNat=q.toNat:=by rw [am5];omega
  have a2:(BitVec.ofInt 64 1).toNat=1:=by decide
  rw [a1,a2,Nat.and_one_is_mod]
 rw [e2,aI (by omega) (by omega)];omega
def fl (ks:List (ByteArray×List ByteArray)) (kind:Int):Option Nat:=if 1<=kind then (ks[(kind - 1).toNat]?).map (·.2.length) else none
def gd (ks:List (ByteArray×List ByteArray)) (set:Int):Nat->Nat
 | 0=>0
 | q+1=>gd ks set q+if bit set (q+1)=1 then ((ks[q]?).map (·.2.length)).getD 0 else 0
theorem fD {ks:List (ByteArray×List ByteArray)} (h: ∀x∈ks,x.2.length<=4) (set:Int): ∀q,gd ks set q<=4*q
 | 0=>by simp [gd]
 | q+1=>by
  have ih:=fD h set q;rw [gd]
  split
  ·cases hx:ks[q]? with
   | none=>simp;omega
   | some x=>
    have:=h x (ala hx);simp;omega
  ·omega
section
variable {S:List Nat} {w0 w:World} {ae:List aa}
theorem lv (h:Hp S w0 w ae) (i j j2:Nat) {b:Nat} {sk:Sl} {cells:List Value} {xs:List KS} (hi:(ae[i]?).map aa.holds=some (af b 91 (.slice sk.a sk.len sk.cap :: cells)).holds)
  (hj:(ae[j]?).map aa.holds=some (aj sk 107 2 df xs).holds) (Ah:(ae[j2]?).map aa.holds=some (ak (xs.map tF)).holds) (hl:xs.length<=1000) {kind:Int} (h1: -9223372036854775808<=kind) (h2:kind<=9223372036854775807) {K:Int->Bool->World->Prop}
  (hK:match fl (kinds xs) kind with | some n=>K (n:Nat) true w | none=>K 0 false w):W4 (some ⟨b,0,none⟩) kind w K:=by
 refine TP ?_;unfold f55;have fB:=h.len j hj;refine⟨fun w'=>w'=w /\ 1<=kind /\ kind<=xs.length,?_,?_⟩
 ·by_cases k1:kind < 1
  ·refine aL (by simpa using k1) ?_;have:fl (kinds xs) kind=none:=by unfold fl;rw [if_neg (by omega)]
   rw [this] at hK;exact hK
  refine aJ (by simpa using k1) ?_;refine aS ?_;refine h.bE (k:=.sl) (x:=sk) i hi rfl ?_;by_cases k2:kind > xs.length
  ·refine aL (by simp;omega) ?_;have:fl (kinds xs) kind=none:=by
    unfold fl;rw [if_pos (by omega),alE (by simp [kinds];omega)];rfl
   rw [this] at hK;exact hK
  ·exact aJ (by simp;omega) ⟨rfl,by omega,by omega⟩
 rintro _ ⟨rfl,k1,k2⟩;have av:(kind - 1).toNat < xs.length:=by omega
 have hx:xs[(kind - 1).toNat]? =some xs[(kind - 1).toNat]:=by simp [av]
 have hf:=Eu h j2 Ah hx;have e:fl (kinds xs) kind=some (xs[(kind - 1).toNat]).2.2.length:=by
  unfold fl;rw [if_pos k1];unfold kinds;rw [alc,hx];rfl
 rw [e] at hK;generalize xs[(kind - 1).toNat]=x at hx hf hK;refine aS ?_;refine h.bE (k:=.sl) (x:=sk) i hi rfl ?_;rw [aI (by omega) (by omega)];refine h.rf j hj (by omega) hx bn fun a hc=>?_;refine jB (k:=.sl) (x:=x.2.1) (hc 1 (by omega)) rfl ?_;rw [hf.2] at hK;exact hK
theorem jQ (h:Hp S w0 w ae) (i j j2:Nat) {b:Nat} {sk:Sl} {cells:List Value} {xs:List KS} (hi:(ae[i]?).map aa.holds=some (af b 91 (.slice sk.a sk.len sk.cap :: cells)).holds)
  (hj:(ae[j]?).map aa.holds=some (aj sk 107 2 df xs).holds) (Ah:(ae[j2]?).map aa.holds=some (ak (xs.map tF)).holds) (hl:xs.length<=12) (h4: ∀x∈xs,x.2.2.length<=4) {set:Int} (s0:0<=set) (s1:set < 4611686018427387904) {q:Nat} (hq:q<=xs.length) {K:Int->World->Prop}
  (hK:K (gd (kinds xs) set q:Nat) w):M6 (some ⟨b,0,none⟩) set ((q+1:Nat):Int) w K:=by
 refine TQ ?_;unfold f57;have fB:=h.len j hj;have sI: ∀x∈kinds xs,x.2.length<=4:=fun x hx=>by
  obtain⟨y,hy,rfl⟩:=alu.1 hx;exact h4 y hy
 refine⟨fun n k m w'=> ∃p:Nat,n=(gd (kinds xs) set p:Nat) /\ k=((p+1:Nat):Int) /\ p<=q /\ m=q - p /\ w'=w,⟨q,0,rfl,rfl,by omega,rfl,rfl⟩,?_⟩;rintro n k m w2 ⟨p,rfl,rfl,hp,rfl,rfl⟩;have hle:=fD sI set p;by_cases av:p < q
 ·refine aL (by simp;omega) ⟨by omega,?_⟩;have hx:xs[p]? =some xs[p]:=alf (by omega);have hf:=Eu h j2 Ah hx;have ea:gd (kinds xs) set (p+1)=gd (kinds xs) set p+if bit set (p+1)=1 then (xs[p]).2.2.length else 0:=by
   rw [gd];have:(kinds xs)[p]? =some ((xs[p]).1,(xs[p]).2.2):=by simp [kinds,hx]
   rw [this];rfl
  have hx4:=h4 xs[p] (alz (by omega));generalize xs[p]=x at hx hf ea hx4;rw [xB s0 s1 (by omega)];by_cases hb:bit set (p+1)=1
  ·refine aL (by simpa using hb) ?_;rw [if_pos hb] at ea;refine aS ?_;refine h.bE (k:=.sl) (x:=sk) i hi rfl ?_;rw [aI (n:=((p+1:Nat):Int) - 1) (by omega) (by omega)];refine h.rf j hj (by omega) (by rw [show (((p+1:Nat):Int) - 1).toNat=p by omega];exact hx) bn fun a hc=>?_;refine jB (k:=.sl) (x:=x.2.1) (hc 1 (by omega)) rfl ?_;have:=hf.2;exact⟨q - (p+1),by omega,p+1,by rw [aI (by omega) (by omega),ea];omega,by rw [aI (by omega) (by omega)];omega,by omega,rfl,rfl⟩
  ·refine aJ (by simpa using hb) ?_;rw [if_neg hb,amW] at ea;exact⟨q - (p+1),by omega,p+1,by rw [ea];rfl,by rw [aI (by omega) (by omega)];omega,by omega,rfl,rfl⟩
 ·refine aJ (by simp;omega) ?_;obtain rfl:p=q:=by omega
  exact hK
end
end Go.Proofs.YtcccjgmekakabaaGreat.FW
end

section
namespace Go.Den
open Go.RowKit
variable {ds:List Deferred}
structure Grw (w w':World):Prop where
 os:w'.os=w.os
 tape:w'.tape=w.tape
 output:w'.output=w.output
 size:w.heap.size<=w'.heap.size
 block: ∀k,k < w.heap.size->w'.heap[k]? =w.heap[k]?
structure Trn (l:Nat) (w w':World):Prop where
 os:w'.os=w.os
 tape:w'.tape=w.tape
 output:w'.output=w.output
 size:w.heap.size<=w'.heap.size
 block: ∀k,k < w.heap.size->k≠l->w'.heap[k]? =w.heap[k]?
section
variable {P:Program} {N:Nat} {H:Hints} {R:List (Nat×Kd)}
end
end Go.Den
end

section
namespace Go.Den
open Go.RowKit
def aib (k:Nat):aa:=
  { holds:=fun w O=>O= [k] /\ k < w.heap.size
    fr:=fun h hf _=>⟨h.1,amV h.2 hf.size⟩
    lt:=fun h j hj=>by rw [h.1] at hj;simp only [ali] at hj;subst hj;exact h.2}
def U0 (k:Nat) (o:Obj):aa:=
  { holds:=fun w O=>O= [k] /\ w.heap[k]? =some o
    fr:=fun{S w w' O} h hf hn=>by
      have av:=(als.1 h.2).1;exact⟨h.1,(hf.block k av (hn k (by rw [h.1];simp))).trans h.2⟩
    lt:=fun h j hj=>by rw [h.1] at hj;simp only [ali] at hj;subst hj;exact(als.1 h.2).1}
namespace Hp
variable {S:List Nat} {w0 w:World} {ae:List aa}
theorem rY {ME:List aa} {t:aa} (h:Hp S w0 w (ae++ME++ [t])):Hp S w0 w (ae++ [t]):=by
 refine h.JS (List.range ae.length++ [ae.length+ME.length]) ?_ (by simp) (fun n j hn=>?_)
 ·rw [al1];refine⟨anZ,by simp,fun a ha b hb=>?_⟩;simp only [al5,ali] at ha hb;omega
 ·by_cases av:n < ae.length
  ·rw [ak9 (by simpa using av)] at hn;rw [amC av] at hn;simp only [ald] at hn;subst hn;rw [ale,ak9 av,ak9 av]
  ·rw [ak8 (by simpa using av)] at hn;have hz:n - (List.range ae.length).length=0:=by
    rcases amL (n - (List.range ae.length).length) with h | h
    ·exact h
    ·rw [alE (by simp only [alQ,amF];omega)] at hn;cases hn
   rw [hz] at hn;simp only [alo,ald] at hn;subst hn;simp only [am9] at hz;have hn:n=ae.length:=by omega
   subst hn;rw [ak8 (by simp),ak8 (by omega)];simp
end Hp
end Go.Den
end

section
namespace Go.Proofs.YtcccjgmekakabaaGreat.FW
open F
open Go Go.Den Go.Proofs
open FI (ai aD)
open FT (az fA bw ct fo jV dH iv)
theorem u5:Tryz.prog.underlying 88=some (.map 33 3):=by kernel_rfl
theorem rZ:Tryz.prog.underlying 89=some (.map 3 144):=by kernel_rfl
theorem AD: ∃inf:TypeInfo,Tryz.prog.info? 144=some inf /\ inf.zero=some (.pointer none) /\ inf.size=1 /\ inf.bytes=8:=fU (by kernel_rfl)
theorem tw:BP Tryz.prog 3 (Value.int .i64):=KH UL
theorem nW: ∃inf:TypeInfo,Tryz.prog.info? 3=some inf /\ inf.zero=some (.int .i64 0) /\ inf.size=1 /\ inf.bytes=8:=fU (by kernel_rfl)
structure WM where
 ks:List (ByteArray×List ByteArray)
 ar:ai
 aE:bw->Option Int
 bS:List (Int×az)
abbrev TT:=Int×Nat×az
def tT (x:TT):aa:=fA x.2.1 x.2.2
def cz (T:List TT) (set:Int):Option Nat:=(T.find? fun x=>decide (x.1=set)).map (·.2.1)
def pv (b:Nat):Value:=.pointer (some ⟨b,0,none⟩)
structure WH where
 sk:Sl
 xs:List KS
 pb:Nat
 ms:Nat
 mt:Nat
 T:List TT
def WH.ra (b:Nat) (q:WH):aa:=af b 91 [.slice q.sk.a q.sk.len q.sk.cap,.pointer (some ⟨q.pb,0,none⟩),.map (some q.ms),.map (some q.mt)]
def WH.rest (m:WM) (q:WH):List aa:= [aj q.sk 107 2 df q.xs,ak (q.xs.map tF),aD 149 q.pb m.ar,dW q.ms ct (Value.int .i64) m.aE,dW q.mt (Value.int .i64) pv (cz q.T),ak (q.T.map tT)]
def WH.fits (m:WM) (q:WH):Prop:=kinds q.xs=m.ks /\ q.T.map (fun x=>(x.1,x.2.2))=m.bS
def kD (b:Nat) (m:WM):aa:=Mx fun q:WH=>kZ (q.fits m) (bo (q.ra b) (bo (aj q.sk 107 2 df q.xs) (bo (ak (q.xs.map tF)) (bo (aD 149 q.pb m.ar) (bo (dW q.ms ct (Value.int .i64) m.aE) (bo (dW q.mt (Value.int .i64) pv (cz q.T)) (ak (q.T.map tT))))))))
section
variable {S:List Nat} {w0 w:World} {ae:List aa}
theorem U1 (h:Hp S w0 w ae) {i b:Nat} {m:WM} (hi:ae[i]? =some (kD b m)): ∃q:WH,q.fits m /\ Hp S w0 w (ae.set i (q.ra b)++q.rest m):=by
 have hl:=(ak6.1 hi).1;obtain⟨q,h⟩:=h.nf hi (fun _=>rfl);obtain⟨hn,h⟩:=h.lp (i:=i) (by simp [hl];rfl) rfl;have h:=h.split (i:=i) (by simp [hl];rfl) rfl rfl;have e1: ∀(l:List aa) (t:aa),(l++ [t])[l.length]? =some t:=fun l t=>by simp
 have h:=h.split (e1 _ _) rfl rfl;simp only [alj _ _ (alA _),alK,alq] at h;have h:=h.split (e1 _ _) (aM _) rfl;rw [alj _ _ (alA _),alK,alq] at h;have h:=h.split (e1 _ _) rfl rfl;rw [alj _ _ (alA _),alK,alq] at h;have h:=h.split (e1 _ _) rfl rfl;rw [alj _ _ (alA _),alK,alq] at h;have h:=h.split (e1 _ _) rfl (aM _);rw [alj _ _ (alA _),alK,alq] at h;refine⟨q,hn,?_⟩;unfold WH.rest
 simpa using h
theorem Pw {b:Nat} {m:WM} {q:WH} {rest:List aa} (hn:q.fits m) (h:Hp S w0 w (q.ra b :: (q.rest m++rest))):Hp S w0 w (kD b m :: rest):=by
 unfold WH.rest at h;simp only [alI,alO] at h;have h:=h.aV (i:=5) (j:=6) (by omega) rfl rfl rfl (aM _);have h:=h.aV (i:=4) (j:=5) (by omega) rfl rfl rfl rfl;have h:=h.aV (i:=3) (j:=4) (by omega) rfl rfl rfl rfl;have h:=h.aV (i:=2) (j:=3) (by omega) rfl rfl (aM _) rfl;have h:=h.aV (i:=1) (j:=2) (by omega) rfl rfl rfl rfl;have h:=h.aV (i:=0) (j:=1) (by omega) rfl rfl rfl rfl;have h:=h.kq (i:=0) hn rfl rfl;have h:=h.nH (f:=fun q:WH=>kZ (q.fits m) (bo (q.ra b) (bo (aj q.sk 107 2 df q.xs) (bo (ak (q.xs.map tF)) (bo (aD 149 q.pb m.ar) (bo (dW q.ms ct (Value.int .i64) m.aE) (bo (dW q.mt (Value.int .i64) pv (cz q.T)) (ak (q.T.map tT))))))))) (i:=0) q rfl rfl;have h:Hp S w0 w (kD b m :: ao :: ao :: ao :: ao :: ao :: ao :: rest):=h;exact h.fY.fY.fY.fY.fY.fY
theorem xu (h:Hp S w0 w ae) (i j:Nat) {s:Sl} {xs:List KS} (hi:ae[i]? =some (aj s 107 2 df xs)) (hj:ae[j]? =some (ak (xs.map tF))) (hl:xs.length<=1000000) (dL: ∀x∈xs,x.1.size<=1000000000000 /\ ∀y∈x.2.2,y.size<=1000000000000) {K:Option Addr->Int->World->Prop}
  (aT:cY (kinds xs)-> ∀b w',Hp S w0 w' (ae++ [kD b ⟨kinds xs,⟨200,[],[],[]⟩,fun _=>none,[]⟩])->K (some ⟨b,0,none⟩) 0 w') (dz: ¬cY (kinds xs)-> ∀w',Hp S w0 w' ae->K none 65 w'):Qt s w K:=by
 refine Jn ?_;unfold f13;refine Kk h i j (by rw [hi];rfl) (by rw [hj];rfl) (by omega) dL fun w1 h=>?_;by_cases hm:cY (kinds xs)
 ·rw [decide_eq_true hm];refine aJ (by simp) ?_;have jD:=(ak6.1 hi).1;have gQ:=(ak6.1 hj).1;have h4: ∀x∈xs,x.2.2.length<=4:=fun x hx=>(hm.1 (x.1,x.2.2) (alu.2 ⟨x,hx,rfl⟩)).1;have uV:xs.length<=12:=by have:=hm.2.2.1;simpa [kinds] using this
  refine FI.QS h (n:=200) (by omega) (by omega) fun pb w2 h=>?_;refine aJ (by simp) ?_;refine oK h i j (by rw [ak9 jD];exact hi) (by rw [ak9 gQ];exact hj) (by omega) (fun x hx=>by have:=h4 x hx;omega) fun r ys w3 sJ h=>?_;refine h.zj fun ms w4 h=>?_;refine h.zj fun mt w5 h=>?_;refine h.nw (c:= [_,_,_,_]) fun b w6 h=>?_;have h:=h.grow (Fr.refl _ _) (t:=ak (([]:List TT).map tT)) (O:= []) rfl (by simp) rfl;simp only [ale,alI,alO] at h;have dq: ∀{l:List aa} (k:Nat),(ae++l)[ae.length+k]? =l[k]? :=fun{l} k=>by rw [ak8 (by omega)];simp
  have gE: ∀{l:List aa} (k:Nat) (t:aa),(ae++l).set (ae.length+k) t=ae++l.set k t:=fun{l} k t=>by rw [alj _ _ (by omega)];simp
  have h:=h.zn (i:=ae.length+3) ct (Value.int .i64) (by rw [dq];rfl);rw [gE] at h;have h:=h.zn (i:=ae.length+4) (Value.int .i64) pv (by rw [dq];rfl);rw [gE] at h;simp only [alq,alG] at h;have et:(fun _=>none:Int->Option Nat)=cz []:=rfl;rw [et] at h;have q:WH.fits ⟨kinds xs,⟨200,[],[],[]⟩,fun _=>none,[]⟩ ⟨r,ys,pb,ms,mt,[]⟩:=⟨sJ,rfl⟩;have h:=h.aV (i:=ae.length+4) (j:=ae.length+6) (by omega) (by rw [dq];rfl) (by rw [dq];rfl) rfl (aM _);rw [gE,gE] at h;simp only [alq,alG] at h;have h:=h.aV (i:=ae.length+3) (j:=ae.length+4) (by omega) (by rw [dq];rfl) (by rw [dq];rfl) rfl rfl;rw [gE,gE] at h;simp only [alq,alG] at h;have h:=h.aV (i:=ae.length+0) (j:=ae.length+3) (by omega) (by rw [dq];rfl) (by rw [dq];rfl) rfl rfl;rw [gE,gE] at h;simp only [alq,alG] at h;have h:=h.aV (i:=ae.length+2) (j:=ae.length+0) (by omega) (by rw [dq];rfl) (by rw [dq];rfl) (aM _) rfl;rw [gE,gE] at h;simp only [alq,alG] at h;have h:=h.aV (i:=ae.length+1) (j:=ae.length+2) (by omega) (by rw [dq];rfl) (by rw [dq];rfl) rfl rfl;rw [gE,gE] at h;simp only [alq,alG] at h;have h:=h.aV (i:=ae.length+5) (j:=ae.length+1) (by omega) (by rw [dq];rfl) (by rw [dq];rfl) rfl rfl;rw [gE,gE] at h;simp only [alq,alG] at h;have h:=h.kq (i:=ae.length+5) q (by rw [dq];rfl) rfl;rw [gE] at h;simp only [alq,alG] at h;have h:=h.nH (f:=fun q:WH=>kZ (q.fits ⟨kinds xs,⟨200,[],[],[]⟩,fun _=>none,[]⟩) (bo (q.ra b) (bo (aj q.sk 107 2 df q.xs) (bo (ak (q.xs.map tF)) (bo (aD 149 q.pb ⟨200,[],[],[]⟩) (bo (dW q.ms ct (Value.int .i64) (fun _=>none)) (bo (dW q.mt (Value.int .i64) pv (cz q.T)) (ak (q.T.map tT))))))))) (i:=ae.length+5) ⟨r,ys,pb,ms,mt,[]⟩ (by rw [dq];rfl) rfl;rw [gE] at h;simp only [alq,alG] at h;have h:Hp S w0 w6 (ae++ [ao,ao,ao,ao,ao]++ [kD b ⟨kinds xs,⟨200,[],[],[]⟩,fun _=>none,[]⟩]++ [ao]):=by
   simp only [ale,alI,alO];exact h
  exact aT hm b _ h.front.rY
 ·rw [decide_eq_false hm];exact aL rfl (dz hm _ h)
end
end Go.Proofs.YtcccjgmekakabaaGreat.FW
end

section
namespace Go.Den.Hp
theorem ic {S:List Nat} {w0 w:World} {ae:List aa} (h:Hp S w0 w ae) (js:List Nat) (bJ:js.Nodup) {ts:List aa} (e:js.map (fun j=>ae[j]?)=ts.map some):Hp S w0 w ts:=by
 have hl:ts.length=js.length:=by have:=congrArg List.length e;simpa using this.symm
 refine h.JS js bJ hl (fun n j hj=>?_);have h1:(js.map (fun j=>ae[j]?))[n]? =some (ae[j]?):=by rw [alc,hj];rfl
 rw [e,alc] at h1
 cases ht:ts[n]? with
 | none=>rw [ht] at h1;cases h1
 | some t=>rw [ht] at h1;exact(alm h1).symm
end Go.Den.Hp
namespace Go.Proofs.YtcccjgmekakabaaGreat.FW
open F
open Go Go.Den Go.Proofs
open FI (ai aD)
open FT (az fA bw ct fo jV dH iv)
def WH.all (b:Nat) (m:WM) (q:WH) (u:aa):List aa:=
 [q.ra b,u,aj q.sk 107 2 df q.xs,ak (q.xs.map tF),aD 149 q.pb m.ar,dW q.ms ct (Value.int .i64) m.aE,dW q.mt (Value.int .i64) pv (cz q.T),ak (q.T.map tT)]
theorem Ch {T:List TT} {set:Int} {tb:Nat} {t:az} (hn:cz T set=none):aG (cz T) set (some tb)=cz (T++ [(set,tb,t)]):=by
 funext k
 unfold aG cz;rw [List.find?_append];unfold cz at hn;by_cases hk:k=set
 ·subst hk;rw [if_pos rfl]
  cases hf:T.find? (fun x=>decide (x.1=k)) with
  | some x=>rw [hf] at hn;cases hn
  | none=>simp
 ·rw [if_neg hk]
  cases hf:T.find? (fun x=>decide (x.1=k)) with
  | some x=>rfl
  | none=>
   have: ¬set=k:=fun e=>hk e.symm;simp [this]
theorem zB {T:List TT} {set:Int} {tb:Nat} (h:cz T set=some tb): ∃(k:Nat) (t:az),T[k]? =some (set,tb,t):=by
 unfold cz at h;obtain⟨x,hx,rfl⟩:=alH.1 h;have h1:=ans hx;have h2:=amT hx;simp only [decide_eq_true_eq] at h1;obtain⟨k,hk,rfl⟩:=amd.1 h2;exact⟨k,(T[k]).2.2,by rw [alf hk];rw [<-h1]⟩
theorem tP {T:List TT} {set:Int} (h:cz T set=none): ∀x∈T,x.1≠set:=by
 unfold cz at h;intro x hx e;have:=ant.1 (anU.1 h) x hx;simp [e] at this
section
variable {S:List Nat} {w0 w:World} {ae:List aa}
set_option maxHeartbeats 1000000 in
theorem AE {b:Nat} {m:WM} {q:WH} {u:aa} {more:List aa} (h:Hp S w0 w (q.all b m u++more)) (hl:q.xs.length<=12) (h4: ∀x∈q.xs,x.2.2.length<=4) {set:Int} (s0:0<=set) (s1:set < 4611686018427387904) {K:Option Addr->World->Prop}
  (hK: ∀T' tb w',(T'=q.T /\ ∃(k:Nat) (t:az),q.T[k]? =some (set,tb,t)) \/ (T'=q.T++ [(set,tb,⟨gd (kinds q.xs) set q.xs.length,[]⟩)] /\ ∀x∈q.T,x.1≠set)->Hp S w0 w' (({ q with T:=T'}:WH).all b m u++more)->K (some ⟨tb,0,none⟩) w'):Sb (some ⟨b,0,none⟩) set w K:=by
 refine NZ ?_;unfold f114;obtain⟨inf,p1,p2,p3,p4⟩:=AD;have fB:=h.len (s:=q.sk) 2 rfl;refine aS ?_;refine h.ld (n:=3) (k:=.m) (x:=some q.mt) 0 rfl rfl ?_;refine h.lu (kd:=.p) (vk:=fun tb=>some ⟨tb,0,none⟩) (z:=(none:Option Addr)) (ek:=Value.int .i64) (ev:=pv) (g:=cz q.T) (k:=set) 6 rfl rfl rZ tw p1 p2 (fun _=>rfl) ?_
 cases ht:cz q.T set with
 | some tb=>
  refine aJ (by simp) ?_;exact hK q.T tb w (Or.inl ⟨rfl,zB ht⟩) h
 | none=>
  refine aL (by simp) ?_;refine aS ?_;refine h.bE (k:=.sl) (x:=q.sk) 0 rfl rfl ?_;rw [show i64.wrap ((q.sk.len:Int)+1)=((q.xs.length+1:Nat):Int) by rw [aI (by omega) (by omega)];omega];refine jQ h 0 2 3 (cells:= [_,_,_]) rfl rfl rfl hl h4 s0 s1 (alA _) ?_;have sI: ∀x∈kinds q.xs,x.2.length<=4:=fun x hx=>by
   obtain⟨y,hy,rfl⟩:=alu.1 hx;exact h4 y hy
  have hle:=fD sI set q.xs.length;refine FT.xu h (by omega) (by omega) fun tb w1 h=>?_;rw [ak7] at h;refine aS ?_;refine h.ld (n:=3) (k:=.m) (x:=some q.mt) 0 rfl rfl ?_;refine h.update (ek:=Value.int .i64) (ev:=pv) (g:=cz q.T) (k:=set) (v:=tb) 6 rfl rfl rZ tw rfl fun w2 h=>?_;obtain⟨t0,ht0⟩: ∃t0:az,t0=⟨gd (kinds q.xs) set q.xs.length,[]⟩:=⟨_,rfl⟩;rw [<-ht0] at h;rw [Ch (t:=t0) ht] at h;obtain⟨A,hA⟩: ∃A:List aa,A= [q.ra b,u,aj q.sk 107 2 df q.xs,ak (q.xs.map tF),aD 149 q.pb m.ar,dW q.ms ct (Value.int .i64) m.aE,dW q.mt (Value.int .i64) pv (cz (q.T++ [(set,tb,t0)])),ak (q.T.map tT)]++more:=⟨_,rfl⟩;have h:Hp S w0 w2 (A++ [tT (set,tb,t0)]):=by rw [hA];exact h
  have QU:7 < A.length:=by rw [hA];simp
  have h:=h.join (i:=7) (j:=A.length) (a:=ak (q.T.map tT)) (b:=tT (set,tb,t0)) (c:=ak ((q.T++ [(set,tb,t0)]).map tT)) (by omega) (by rw [ak9 QU,hA];rfl) (by simp) (aM _) rfl (aM _) (fun w O1 O2 g1 g2 g3=>by
   rw [alW];exact fX g1 (us:= [tT (set,tb,t0)]) (O2:=O2) ⟨O2,[],g2,rfl,by simp,by simp⟩ g3)
  have e:((A++ [tT (set,tb,t0)]).set 7 (ak ((q.T++ [(set,tb,t0)]).map tT))).set A.length ao=A.set 7 (ak ((q.T++ [(set,tb,t0)]).map tT))++ [ao]:=by
   rw [amc _ _ QU,alj _ _ (by rw [alV];omega),alV,alK];rfl
  rw [e] at h;have h:=h.front;rw [hA] at h;exact hK (q.T++ [(set,tb,t0)]) tb w2 (.inr ⟨by rw [ht0],tP ht⟩) h
theorem r9 {T:List TT} {k:Nat} {set:Int} {tb:Nat} {t t':az} (hk:T[k]? =some (set,tb,t)):cz (T.set k (set,tb,t'))=cz T:=by
 have:(T.set k (set,tb,t')).map (fun x=>(x.1,x.2.1))=T.map (fun x=>(x.1,x.2.1)):=by
  rw [amm];apply alM;intro j;by_cases hj:j=k
  ·subst hj;have av:=(ak6.1 hk).1;rw [alx (by simpa using av),alc,hk];rfl
  ·rw [alC (fun e=>hj e.symm)]
 have key: ∀(A:List TT) (s:Int),cz A s=((A.map (fun x=>(x.1,x.2.1))).find? (fun x=>decide (x.1=s))).map (·.2):=fun A s=>by
  unfold cz
  induction A with
  | nil=>rfl
  | cons a A ih=>
   rw [alR,am8,am8];by_cases h:a.1=s
   ·simp [h]
   ·simp only [h,decide_false];exact ih
 funext s
 rw [key,key,this]
set_option maxHeartbeats 1000000 in
theorem EB {b:Nat} {m:WM} {q:WH} {u:aa} {more:List aa} (h:Hp S w0 w (q.all b m u++more)) (hl:q.xs.length<=12) (h4: ∀x∈q.xs,x.2.2.length<=4) (aT: ∀x∈q.T,x.2.2.Ok) {set:Int} (s0:0<=set) (s1:set < 4611686018427387904) {e:bw} {vs:Sl} {xs:List Int} (hu:Hp.Reads u vs 1 iv xs) {K:World->Prop}
  (hK: ∀(T1:List TT) (k tb:Nat) (t:az) w',(T1=q.T \/ (T1=q.T++ [(set,tb,⟨gd (kinds q.xs) set q.xs.length,[]⟩)] /\ ∀x∈q.T,x.1≠set))->T1[k]? =some (set,tb,t)->
   Hp S w0 w' (({ q with T:=T1.set k (set,tb,(t.p7 e xs).1)}:WH).all b { m with aE:=aG m.aE e (some set)} u++more)->K w'):R5 (some ⟨b,0,none⟩) e.1 e.2 set vs w K:=by
 refine TR ?_;unfold f59;refine h.nw (c:= [_,_]) fun eb w1 h=>?_;have h:Hp S w0 w1 (q.all b m u++(more++ [af eb 33 [.int .i64 e.1,.int .i64 e.2]])):=by rw [<-ale];exact h
 refine h.dr fun w2 h=>?_;refine aS ?_;refine h.ld (n:=2) (k:=.m) (x:=some q.ms) 0 rfl rfl ?_;have ge: ∀{q:WH} {m:WM},((q.all b m u++(more++ [af eb 33 [.int .i64 e.1,.int .i64 e.2]]))[8+more.length]?).map aa.holds=some (af eb 33 [.int .i64 e.1,.int .i64 e.2]).holds:=fun{q m}=>by
  have:(q.all b m u).length=8:=rfl;rw [ak8 (by omega),ak8 (by omega),this];simp
 refine h.bE (k:=.i .i64) (x:=e.1) (8+more.length) ge rfl ?_;refine h.ld (n:=1) (k:=.i .i64) (x:=e.2) (8+more.length) ge rfl ?_;refine h.update (ek:=ct) (ev:=Value.int .i64) (g:=m.aE) (k:=e) (v:=set) 5 rfl rfl u5 dH rfl fun w3 h=>?_;have h:Hp S w0 w3 (q.all b { m with aE:=aG m.aE e (some set)} u++(more++ [af eb 33 [.int .i64 e.1,.int .i64 e.2]])):=h;refine h.dr fun w4 h=>?_;refine h.bE (k:=.i .i64) (x:=e.1) (8+more.length) ge rfl ?_;refine h.ld (n:=1) (k:=.i .i64) (x:=e.2) (8+more.length) ge rfl ?_;refine AE h hl h4 s0 s1 fun T1 tb w5 hT h=>?_;refine⟨h.vw (8+more.length) ge rfl,h.xl (n:=1) (8+more.length) ge rfl,?_⟩;obtain⟨k,t,hk,Px⟩: ∃(k:Nat) (t:az),T1[k]? =some (set,tb,t) /\ (T1=q.T \/ (T1=q.T++ [(set,tb,⟨gd (kinds q.xs) set q.xs.length,[]⟩)] /\ ∀x∈q.T,x.1≠set)):=by
  rcases hT with ⟨rfl,k,t,hk⟩ | ⟨rfl,dz⟩
  ·exact⟨k,t,hk,.inl rfl⟩
  ·exact⟨q.T.length,⟨gd (kinds q.xs) set q.xs.length,[]⟩,by simp,.inr ⟨rfl,dz⟩⟩
 have sI: ∀x∈kinds q.xs,x.2.length<=4:=fun x hx=>by
  obtain⟨y,hy,rfl⟩:=alu.1 hx;exact h4 y hy
 have adK:t.Ok:=by
  rcases Px with rfl | ⟨rfl,_⟩
  ·exact aT _ (ala hk)
  ·have hm:=ala hk
   rcases alg.1 hm with hm | hm
   ·exact aT _ hm
   ·simp only [ali,amA] at hm;obtain⟨_,_,rfl⟩:=hm;have:=fD sI set q.xs.length;exact⟨by show gd (kinds q.xs) set q.xs.length<=48;omega,by simp,by simp [az.aw],by simp⟩
 obtain⟨A,hA⟩: ∃A:List aa,A=({ q with T:=T1}:WH).all b { m with aE:=aG m.aE e (some set)} u++(more++ [af eb 33 [.int .i64 e.1,.int .i64 e.2]]):=⟨_,rfl⟩;have QU:7 < A.length:=by rw [hA];simp [WH.all]
 have hA7:A[7]? =some (ak (T1.map tT)):=by rw [hA];rfl
 have hA1:A[1]? =some u:=by rw [hA];rfl
 rw [<-hA] at h;have dU:(T1.map tT)[k]? =some (tT (set,tb,t)):=by rw [alc,hk];rfl
 have h:=h.pick (i:=7) (k:=k) hA7 dU rfl;have Wh:(A.set 7 (ak ((T1.map tT).set k ao))).length=A.length:=alV;refine FT.J9 h A.length 1 (by omega) (e:=e) (u:=u) (b:=tb) (m:=t) adK (by rw [<-Wh,ak8 (alA _),alK];rfl) (by rw [ak9 (by omega),alC (by decide)];exact hA1) hu fun w6 h=>?_;have cO:=(ak6.1 hk).1;rw [<-Wh,alj _ _ (alA _),alK] at h;have h:Hp S w0 w6 (A.set 7 (ak ((T1.map tT).set k ao))++ [tT (set,tb,(t.p7 e xs).1)]):=h;have h:=h.iT (i:=7) (j:=A.length) (k:=k) (ts:=(T1.map tT).set k ao) (t:=tT (set,tb,(t.p7 e xs).1)) (by omega) (by rw [ak9 (by omega),alx QU]) (by rw [<-Wh,ak8 (alA _),alK];rfl) (by rw [alx (by simpa using cO)]) rfl;rw [al2,amc _ _ (by omega),al2,<-Wh] at h;have e1:(A.set 7 (ak ((T1.map tT).set k (tT (set,tb,(t.p7 e xs).1))))++ [tT (set,tb,(t.p7 e xs).1)]).set (A.set 7 (ak ((T1.map tT).set k ao))).length ao=A.set 7 (ak ((T1.map tT).set k (tT (set,tb,(t.p7 e xs).1))))++ [ao]:=by
  rw [Wh,alj _ _ (by rw [alV];omega),alV,alK];rfl
 rw [e1] at h;have h:=h.front;have e2:(T1.map tT).set k (tT (set,tb,(t.p7 e xs).1))=(T1.set k (set,tb,(t.p7 e xs).1)).map tT:=by rw [amm]
 rw [e2,hA] at h;have h:Hp S w0 w6 (({ q with T:=T1.set k (set,tb,(t.p7 e xs).1)}:WH).all b { m with aE:=aG m.aE e (some set)} u++(more++ [af eb 33 [.int .i64 e.1,.int .i64 e.2]])):=by
  unfold WH.all;rw [show cz ({ q with T:=T1.set k (set,tb,(t.p7 e xs).1)}:WH).T=cz T1 from r9 hk];exact h
 rw [<-ale] at h;exact hK T1 k tb t w6 Px hk h.front
end
end Go.Proofs.YtcccjgmekakabaaGreat.FW
end

section
namespace Go.Proofs.YtcccjgmekakabaaGreat.FW
open F
open Go Go.Den Go.Proofs
open FI (ai aD)
open FT (az fA bw ct fo jV dH iv)
section
variable {S:List Nat} {w0 w:World} {ae:List aa}
theorem oM {b:Nat} {m:WM} {q:WH} {u t:aa} {more:List aa}:(q.all b m u++(more++ [t]))[8+more.length]? =some t:=by
 have:(q.all b m u).length=8:=rfl;rw [ak8 (by omega),ak8 (by omega),this];simp
theorem nj {b:Nat} {m:WM} {q:WH} {u:aa} {more:List aa} (h:Hp S w0 w (q.all b m u++more)) (hp:m.ar.Ok) {e:bw} {K:Bool->World->Prop} (hK: ∀w',Hp S w0 w' (q.all b m u++more)->K (m.ar.is e.1 e.2) w'):c90 (some ⟨b,0,none⟩) e.1 e.2 w K:=by
 refine Um ?_;unfold f90;refine h.nw (c:= [_,_]) fun eb w1 h=>?_;have h:Hp S w0 w1 (q.all b m u++(more++ [af eb 33 [.int .i64 e.1,.int .i64 e.2]])):=by rw [<-ale];exact h
 refine h.dr fun w2 h=>?_;refine aS ?_;refine h.ld (n:=1) (k:=.p) (x:=some ⟨q.pb,0,none⟩) 0 rfl rfl ?_;refine h.bE (k:=.i .i64) (x:=e.1) (8+more.length) (by rw [oM];rfl) rfl ?_;refine h.ld (n:=1) (k:=.i .i64) (x:=e.2) (8+more.length) (by rw [oM];rfl) rfl ?_;refine FI.AB h 4 hp rfl fun w3 h=>?_;rw [<-ale] at h;exact hK _ h.front
set_option maxHeartbeats 1000000 in
theorem EC {b:Nat} {m:WM} {q:WH} {u:aa} {more:List aa} (h:Hp S w0 w (q.all b m u++more)) (hp:m.ar.Ok) (hl:q.xs.length<=12) {e:bw} (jE: ∀s,m.aE e=some s->0<=s /\ s < 4611686018427387904) {kind:Int} (k1: -9223372036854775808<=kind) (k2:kind<=9223372036854775807) {K:Int->Bool->Int->Int->World->Prop}
  (hK: ∀w',Hp S w0 w' (q.all b m u++more)->(m.ar.is e.1 e.2=false->K 0 false 0 41 w') /\ (m.ar.is e.1 e.2=true->fl (kinds q.xs) kind=none->K 0 false 0 60 w') /\ (∀n,m.ar.is e.1 e.2=true->fl (kinds q.xs) kind=some n->K ((m.aE e).getD 0) (bit ((m.aE e).getD 0) kind.toNat ==1) (n:Nat) 0 w')):
  R6 (some ⟨b,0,none⟩) e.1 e.2 kind w K:=by
 refine TS ?_;unfold f60;obtain⟨inf,p1,p2,p3,p4⟩:=nW;refine h.nw (c:= [_,_]) fun eb w1 h=>?_;have h:Hp S w0 w1 (q.all b m u++(more++ [af eb 33 [.int .i64 e.1,.int .i64 e.2]])):=by rw [<-ale];exact h
 have bk: ∀{w},Hp S w0 w (q.all b m u++(more++ [af eb 33 [.int .i64 e.1,.int .i64 e.2]]))->Hp S w0 w (q.all b m u++more):=fun{w} h=>by
  rw [<-ale] at h;exact h.front
 refine h.dr fun w2 h=>?_;refine aS ?_;refine h.ld (n:=1) (k:=.p) (x:=some ⟨q.pb,0,none⟩) 0 rfl rfl ?_;refine h.bE (k:=.i .i64) (x:=e.1) (8+more.length) (by rw [oM];rfl) rfl ?_;refine h.ld (n:=1) (k:=.i .i64) (x:=e.2) (8+more.length) (by rw [oM];rfl) rfl ?_;refine FI.AB h 4 hp rfl fun w3 h=>?_;by_cases k6:m.ar.is e.1 e.2=true
 ·refine aJ (by rw [k6];simp) ?_;refine lv h 0 2 3 (cells:= [_,_,_]) rfl rfl rfl (by omega) k1 k2 ?_
  cases hf:fl (kinds q.xs) kind with
  | none=>exact aL rfl ((hK _ (bk h)).2.1 k6 hf)
  | some n=>
   have hk:1<=kind /\ kind<=12:=by
    unfold fl at hf;by_cases h1:1<=kind
    ·rw [if_pos h1] at hf;obtain⟨x,hx,_⟩:=alH.1 hf;have:=(ak6.1 hx).1;simp only [kinds,alr] at this;omega
    ·rw [if_neg h1] at hf;cases hf
   refine aJ (by simp) ?_;refine h.dr fun w4 h=>?_;refine aS ?_;refine h.ld (n:=2) (k:=.m) (x:=some q.ms) 0 rfl rfl ?_;refine h.bE (k:=.i .i64) (x:=e.1) (8+more.length) (by rw [oM];rfl) rfl ?_;refine h.ld (n:=1) (k:=.i .i64) (x:=e.2) (8+more.length) (by rw [oM];rfl) rfl ?_;refine h.lu (kd:=.i .i64) (vk:=id) (z:=(0:Int)) (ek:=ct) (ev:=Value.int .i64) (g:=m.aE) (k:=e) 5 rfl rfl u5 dH p1 p2 (fun _=>rfl) ?_;refine h.dr fun w5 h=>?_;have hr:0<=(m.aE e).getD 0 /\ (m.aE e).getD 0 < 4611686018427387904:=by
    cases hse:m.aE e with
    | none=>simp
    | some s=>exact jE s hse
   have fin: ∀s:Int,s=(m.aE e).getD 0->(0<=kind /\ K s (i64.wrap ((BitVec.ofInt 64 (Int.fdiv s (2 ^ (min (Int.toNat kind) 64))) &&& BitVec.ofInt 64 1).toNat:Nat) ==1) (n:Nat) 0 w5):=fun s hs=>by
    subst hs;refine⟨by omega,?_⟩;obtain⟨kn,zr⟩: ∃kn:Nat,kind=kn:=⟨kind.toNat,by omega⟩;have hb:=xB (k:=kn) hr.1 hr.2 (by omega);have:=(hK _ (bk h)).2.2 n k6 hf;rw [zr] at this ⊢;rw [hb];rw [ak7] at this;exact this
   cases hse:m.aE e with
   | none=>exact fin 0 (by rw [hse];rfl)
   | some s=>exact fin s (by rw [hse];rfl)
 ·have k6:m.ar.is e.1 e.2=false:=by simpa using k6
  refine aL (by rw [k6];rfl) ?_;exact(hK _ (bk h)).1 k6
end
section
variable {S:List Nat} {w0 w:World} {ae:List aa}
theorem AF {T:List TT} {k:Nat} {set:Int} {tb:Nat} {t:az} (bJ:(T.map (·.1)).Nodup) (hk:T[k]? =some (set,tb,t)):cz T set=some tb:=by
 have hm:=ala hk;unfold cz
 cases hf:T.find? (fun x=>decide (x.1=set)) with
 | none=>
  have:=ant.1 hf _ hm;simp at this
 | some x=>
  have h1:=ans hf;simp only [decide_eq_true_eq] at h1;have h2:=amT hf;obtain⟨j,hj,rfl⟩:=amd.1 h2;have cO:=(ak6.1 hk).1;have hke:=(ak6.1 hk).2;have:j=k:=(amh (i:=j) (j:=k) (l:=T.map (·.1)) (by simpa using hj) bJ).1 (by rw [alc,alc,hk,alf hj];simp [h1]);subst this;rw [hke];rfl
theorem kE: ∀{ts:List aa} {k:Nat} {w:World} {O:List Nat},k < ts.length->(ak (ts.set k ao)).holds w O-> ∃O',(ak (ts.eraseIdx k)).holds w O' /\ ∀x∈O',x∈O
 | t :: ts,0,w,O,_,h=>by
  obtain⟨O1,O2,h1,h2,h3,h4⟩:=h;exact⟨O2,h2,fun x hx=>(h4 x).2 (.inr hx)⟩
 | t :: ts,k+1,w,O,hk,h=>by
  obtain⟨O1,O2,h1,h2,h3,h4⟩:=h;obtain⟨O',g1,g2⟩:=kE (k:=k) (by simpa using hk) h2;exact⟨O1++O',⟨O1,O',h1,g1,fun x hx Mq=>h3 x hx (g2 x Mq),by simp⟩,fun x hx=>by
   rcases alg.1 hx with hx | hx
   ·exact(h4 x).2 (.inl hx)
   ·exact(h4 x).2 (.inr (g2 x hx))⟩
theorem pO (x:TT) (T:List TT) (s:Int):cz (x :: T) s=if x.1=s then some x.2.1 else cz T s:=by
 unfold cz;rw [am8];by_cases h:x.1=s <;> simp [h]
theorem xC: ∀{T:List TT} {s:Int},s ∉ T.map (·.1)->cz T s=none
 | [],_,_=>rfl
 | x :: T,s,h=>by
  simp only [alR,alF,not_or] at h;rw [pO,if_neg (fun e=>h.1 e.symm)];exact xC h.2
theorem xD: ∀{T:List TT} {k:Nat} {set:Int} {tb:Nat} {t:az},(T.map (·.1)).Nodup->T[k]? =some (set,tb,t)->aG (cz T) set none=cz (T.eraseIdx k)
 | x :: T,0,set,tb,t,bJ,hk=>by
  simp only [alo,ald] at hk;subst hk;simp only [alR,al6] at bJ
  funext s
  show (if s=set then none else _)=cz T s;by_cases hs:s=set
  ·rw [if_pos hs,hs];exact(xC bJ.1).symm
  ·rw [if_neg hs,pO,if_neg (fun e=>hs e.symm)]
 | x :: T,k+1,set,tb,t,bJ,hk=>by
  simp only [alP] at hk;simp only [alR,al6] at bJ;have ih:=xD bJ.2 hk;have aW:x.1≠set:=fun e=>bJ.1 (by rw [e];exact alu.2 ⟨_,ala hk,rfl⟩)
  funext s
  have ih:=congrFun ih s;show (if s=set then none else cz (x :: T) s)=cz (x :: T.eraseIdx k) s;have ih:(if s=set then none else cz T s)=cz (T.eraseIdx k) s:=ih;rw [pO,pO,<-ih];by_cases hs:s=set
  ·subst hs;simp [aW]
  ·simp [hs]
set_option maxHeartbeats 2000000 in
theorem ED {b:Nat} {m:WM} {q:WH} {u:aa} {more:List aa} (h:Hp S w0 w (q.all b m u++more)) {e:bw} {set:Int} {k tb row:Nat} {t:az} {vals:List Int} (jE:m.aE e=some set) (bJ:(q.T.map (·.1)).Nodup) (hk:q.T[k]? =some (set,tb,t)) (aT:t.Ok) (uR:jV t e=some (row:Int)) (e9:t.rows[row]? =some (e,vals)) {K:Sl->World->Prop}
  (hK: ∀(s:Sl) (T':List TT) w',(((t.del row).rows.length≠0 /\ T'=q.T.set k (set,tb,t.del row)) \/ ((t.del row).rows.length=0 /\ T'=q.T.eraseIdx k))->
   Hp S w0 w' (({ q with T:=T'}:WH).all b { m with aE:=aG m.aE e none} u++more++ [aj s 2 1 iv vals])->K s w'):V4 (some ⟨b,0,none⟩) e.1 e.2 w K:=by
 refine TU ?_;unfold f61;obtain⟨inf,p1,p2,p3,p4⟩:=nW;obtain⟨KI,r1,r2,r3,r4⟩:=AD;refine h.nw (c:= [_,_]) fun eb w1 h=>?_;have h:Hp S w0 w1 (q.all b m u++(more++ [af eb 33 [.int .i64 e.1,.int .i64 e.2]])):=by rw [<-ale];exact h
 refine h.dr fun w2 h=>?_;refine aS ?_;refine h.ld (n:=2) (k:=.m) (x:=some q.ms) 0 rfl rfl ?_;refine h.bE (k:=.i .i64) (x:=e.1) (8+more.length) (by rw [oM];rfl) rfl ?_;refine h.ld (n:=1) (k:=.i .i64) (x:=e.2) (8+more.length) (by rw [oM];rfl) rfl ?_;refine h.lu (kd:=.i .i64) (vk:=id) (z:=(0:Int)) (ek:=ct) (ev:=Value.int .i64) (g:=m.aE) (k:=e) 5 rfl rfl u5 dH p1 p2 (fun _=>rfl) ?_;rw [jE];refine aS ?_;refine h.ld (n:=3) (k:=.m) (x:=some q.mt) 0 rfl rfl ?_;refine h.lu (kd:=.p) (vk:=fun tb=>some ⟨tb,0,none⟩) (z:=(none:Option Addr)) (ek:=Value.int .i64) (ev:=pv) (g:=cz q.T) (k:=set) 6 rfl rfl rZ tw r1 r2 (fun _=>rfl) ?_;rw [AF bJ hk];refine h.bE (k:=.i .i64) (x:=e.1) (8+more.length) (by rw [oM];rfl) rfl ?_;refine h.ld (n:=1) (k:=.i .i64) (x:=e.2) (8+more.length) (by rw [oM];rfl) rfl ?_
 -- the table, apart
 obtain⟨A,hA⟩: ∃A:List aa,A=q.all b m u++(more++ [af eb 33 [.int .i64 e.1,.int .i64 e.2]]):=⟨_,rfl⟩;have QU:A.length=9+more.length:=by rw [hA];simp [WH.all];omega
 have hA7:A[7]? =some (ak (q.T.map tT)):=by rw [hA];rfl
 have hAe:A[8+more.length]? =some (af eb 33 [.int .i64 e.1,.int .i64 e.2]):=by rw [hA];exact oM
 have hA5:A[5]? =some (dW q.ms ct (Value.int .i64) m.aE):=by rw [hA];rfl
 have Yj:A[0]? =some (q.ra b):=by rw [hA];rfl
 rw [<-hA] at h;have dU:(q.T.map tT)[k]? =some (tT (set,tb,t)):=by rw [alc,hk];rfl
 have h:=h.pick (i:=7) (k:=k) hA7 dU rfl;obtain⟨B,hB⟩: ∃B:List aa,B=A.set 7 (ak ((q.T.map tT).set k ao)):=⟨_,rfl⟩;have Wh:B.length=A.length:=by rw [hB];exact alV
 have yE: ∀j,j≠7->B[j]? =A[j]? :=fun j hj=>by rw [hB,alC (fun e=>hj e.symm)]
 rw [<-hB] at h;have Hn: ∀{l:List aa} (j:Nat),(B++l)[B.length+j]? =l[j]? :=fun{l} j=>by rw [ak8 (by omega)];simp
 have U2: ∀{l:List aa} (j:Nat) (t:aa),(B++l).set (B.length+j) t=B++l.set j t:=fun{l} j t=>by rw [alj _ _ (by omega)];simp
 have inB: ∀{l:List aa} {j:Nat},j < B.length->(B++l)[j]? =B[j]? :=fun{l j} hj=>ak9 hj;refine FT.tI h (B.length+0) (b:=tb) (m:=t) (by rw [Hn];rfl) fun w3 h=>?_;rw [uR];refine FT.BX h (B.length+0) (b:=tb) (m:=t) aT (by rw [Hn];rfl) fun s w4=>⟨fun rr hr0 oN h=>?_,fun dz=>?_⟩
 ·have oN:t.rows[row]? =some rr:=oN;rw [e9] at oN;have oN:=alm oN;subst oN;have h:Hp S w0 w4 (B++ [tT (set,tb,t),aj s 2 1 iv vals]):=by
   have:=h;rw [ale] at this;exact this
  refine h.nw (c:= [_,_]) fun xb w5 h=>?_;have h:Hp S w0 w5 (B++ [tT (set,tb,t),aj s 2 1 iv vals,af xb 33 [.int .i64 0,.int .i64 0]]):=by
   have:=h;rw [ale] at this;exact this
  refine h.gz (B.length+2) (by rw [Hn];rfl) (by simp) rfl fun w6 h=>?_;rw [U2] at h;refine h.st (n:=1) (B.length+2) (by rw [Hn];rfl) (by simp) rfl fun w7 h=>?_;rw [U2] at h;simp only [alq,alG] at h;have hBe: ∀{l:List aa},(B++l)[8+more.length]? =some (af eb 33 [.int .i64 e.1,.int .i64 e.2]):=fun{l}=>by rw [inB (by omega),yE _ (by omega)];exact hAe
  refine h.bE (k:=.i .i64) (x:=e.1) (8+more.length) (by rw [hBe];rfl) rfl ?_;refine h.ld (n:=1) (k:=.i .i64) (x:=e.2) (8+more.length) (by rw [hBe];rfl) rfl ?_;refine FT.tI h (B.length+0) (b:=tb) (m:=t) (by rw [Hn];rfl) fun w8 h=>?_;rw [uR];refine FT.BZ h (B.length+0) (b:=tb) (m:=t) aT (by rw [Hn];rfl) fun w9 h=>?_;have eT:row < t.rows.length:=(ak6.1 e9).1;have ed:(t.Av ((some (row:Int)).getD (-1))).1=t.del row:=by
   show (t.Av (row:Int)).1=_;unfold az.Av;rw [if_pos ⟨by omega,by omega⟩,ak7]
  rw [ed,U2] at h;simp only [alq,alG] at h;refine h.dr fun nK h=>?_;refine aS ?_;have WL: ∀{l:List aa},(B++l)[0]? =some (q.ra b):=fun{l}=>by rw [inB (by omega),yE _ (by omega)];exact Yj
  refine h.ld (n:=2) (k:=.m) (x:=some q.ms) 0 (by rw [WL];rfl) rfl ?_;refine h.bE (k:=.i .i64) (x:=e.1) (8+more.length) (by rw [hBe];rfl) rfl ?_;refine h.ld (n:=1) (k:=.i .i64) (x:=e.2) (8+more.length) (by rw [hBe];rfl) rfl ?_;have hB5: ∀{l:List aa},(B++l)[5]? =some (dW q.ms ct (Value.int .i64) m.aE):=fun{l}=>by rw [inB (by omega),yE _ (by omega)];exact hA5
  refine h.delete (ek:=ct) (ev:=Value.int .i64) (g:=m.aE) (k:=e) 5 rfl hB5 u5 dH fun nv qo h=>?_;rw [amc _ _ (by omega)] at h;obtain⟨C,hC⟩: ∃C:List aa,C=B.set 5 (dW q.ms ct (Value.int .i64) (aG m.aE e none)):=⟨_,rfl⟩;have hCl:C.length=B.length:=by rw [hC];exact alV
  rw [<-hC] at h;have U3: ∀{l:List aa} (j:Nat),(C++l)[C.length+j]? =l[j]? :=fun{l} j=>by rw [ak8 (by omega)];simp
  have aih: ∀{l:List aa} (j:Nat) (t:aa),(C++l).set (C.length+j) t=C++l.set j t:=fun{l} j t=>by rw [alj _ _ (by omega)];simp
  have inC: ∀{l:List aa} {j:Nat},j < C.length->(C++l)[j]? =C[j]? :=fun{l j} hj=>ak9 hj;have cO:k < q.T.length:=(ak6.1 hk).1;have hC7:C[7]? =some (ak ((q.T.map tT).set k ao)):=by rw [hC,alC (by decide),hB,alx (by omega)]
  refine FT.BV h (C.length+0) (b:=tb) (m:=t.del row) (by rw [U3];rfl) ?_;by_cases hz:(t.del row).rows.length=0
  ·refine aL (by simp [hz]) ?_;refine aS ?_;have hC0:C[0]? =some (q.ra b):=by rw [hC,alC (by decide),yE _ (by decide)];exact Yj
   have hC6:C[6]? =some (dW q.mt (Value.int .i64) pv (cz q.T)):=by rw [hC,alC (by decide),yE _ (by decide),hA];rfl
   refine h.ld (n:=3) (k:=.m) (x:=some q.mt) 0 (by rw [inC (by omega),hC0];rfl) rfl ?_;refine h.delete (ek:=Value.int .i64) (ev:=pv) (g:=cz q.T) (k:=set) 6 rfl (by rw [inC (by omega)];exact hC6) rZ tw fun nv2 vB h=>?_;have h:=h.OS (i:=C.length+0) (t:=fA tb (t.del row)) (by rw [alC (by omega),U3];rfl) rfl;have h:=h.less (i:=7) (t:=ak ((q.T.map tT).set k ao)) (t':=ak ((q.T.eraseIdx k).map tT)) (by rw [alC (by omega),alC (by decide),inC (by omega)];exact hC7) (aM _) (fun w O hO=>by
    obtain⟨O',g1,g2⟩:=kE (by simpa using cO) hO;refine⟨O',?_,g2⟩;rw [eK];exact g1) (aM _)
   rw [xD bJ hk,amc _ _ (by omega),alj _ _ (by rw [alV];omega),alV,amc _ _ (by rw [alV];omega)] at h;have h:Hp S w0 vB ((C.set 6 (dW q.mt (Value.int .i64) pv (cz (q.T.eraseIdx k)))).set 7 (ak ((q.T.eraseIdx k).map tT))++ [ao,aj s 2 1 iv vals,af xb 33 [.int .i64 e.1,.int .i64 e.2]]):=by
    simpa using h
   rw [hC,hB,hA] at h;have h:Hp S w0 vB ((({ q with T:=q.T.eraseIdx k}:WH).all b { m with aE:=aG m.aE e none} u++(more++ [af eb 33 [.int .i64 e.1,.int .i64 e.2]]))++ [ao,aj s 2 1 iv vals,af xb 33 [.int .i64 e.1,.int .i64 e.2]]):=h;have h:Hp S w0 vB (((({ q with T:=q.T.eraseIdx k}:WH).all b { m with aE:=aG m.aE e none} u++more)++ [af eb 33 [.int .i64 e.1,.int .i64 e.2],ao]++ [aj s 2 1 iv vals])++ [af xb 33 [.int .i64 e.1,.int .i64 e.2]]):=by
    simp only [ale,alI,alO] at h ⊢;exact h
   exact hK s _ vB (.inr ⟨hz,rfl⟩) h.front.rY
  ·refine aJ (by simpa using hz) ?_;have h:=h.iT (i:=7) (j:=C.length+0) (k:=k) (ts:=(q.T.map tT).set k ao) (t:=tT (set,tb,t.del row)) (by omega) (by rw [inC (by omega)];exact hC7) (by rw [U3];rfl) (by rw [alx (by simpa using cO)]) rfl;rw [amc _ _ (by omega),al2] at h;have h:Hp S w0 qo (C.set 7 (ak ((q.T.map tT).set k (tT (set,tb,t.del row))))++ [ao,aj s 2 1 iv vals,af xb 33 [.int .i64 e.1,.int .i64 e.2]]):=by
    rw [alj _ _ (by rw [alV];omega),alV] at h
    simpa using h
   have e2:(q.T.map tT).set k (tT (set,tb,t.del row))=(q.T.set k (set,tb,t.del row)).map tT:=by rw [amm]
   rw [e2,hC,hB,hA] at h;have h:Hp S w0 qo ((({ q with T:=q.T.set k (set,tb,t.del row)}:WH).all b { m with aE:=aG m.aE e none} u++(more++ [af eb 33 [.int .i64 e.1,.int .i64 e.2]]))++ [ao,aj s 2 1 iv vals,af xb 33 [.int .i64 e.1,.int .i64 e.2]]):=by
    unfold WH.all;rw [show cz ({ q with T:=q.T.set k (set,tb,t.del row)}:WH).T=cz q.T from r9 hk];exact h
   have h:Hp S w0 qo (((({ q with T:=q.T.set k (set,tb,t.del row)}:WH).all b { m with aE:=aG m.aE e none} u++more)++ [af eb 33 [.int .i64 e.1,.int .i64 e.2],ao]++ [aj s 2 1 iv vals])++ [af xb 33 [.int .i64 e.1,.int .i64 e.2]]):=by
    simp only [ale,alI,alO] at h ⊢;exact h
   exact hK s _ qo (.inl ⟨hz,rfl⟩) h.front.rY
 ·exact absurd ⟨by show (0:Int)<=row;omega,by show (row:Int) < _;have:=(ak6.1 e9).1;omega⟩ dz
end
abbrev KD:=List (ByteArray×List ByteArray)
abbrev PL:=List (Option (List Int))
def ju:PL->Nat
 | []=>0
 | o :: p=>(if o.isSome then 1 else 0)+2*ju p
def aA (p:PL):Int:=(ju (none :: p):Nat)
def flat (p:PL):List Int:=p.flatMap fun o=>o.getD []
def PL.fit (ks:KD) (p:PL):Prop:=p.length=ks.length /\ ∀(i:Nat) (v:List Int) (k:ByteArray×List ByteArray),p[i]? =some (some v)->ks[i]? =some k->v.length=k.2.length
theorem iz: ∀(p:PL) (i:Nat),(ju p).testBit i=(p.getD i none).isSome
 | [],i=>by simp [ju]
 | o :: p,0=>by
  rw [ju,Nat.testBit_zero]
  cases o <;> simp <;> omega
 | o :: p,i+1=>by
  rw [ju,Nat.testBit_succ];have:((if o.isSome=true then 1 else 0)+2*ju p) / 2=ju p:=by split <;> omega
  rw [this,iz p i];rfl
theorem AG: ∀p:PL,ju p < 2 ^ p.length
 | []=>by simp [ju]
 | o :: p=>by
  have:=AG p;rw [ju,alQ,Nat.pow_succ]
  split <;> omega
theorem ff (p:PL):0<=aA p:=by unfold aA;omega
theorem fg {p:PL} (h:p.length<=12):aA p < 8192:=by
 have h1:=AG (none :: p);have h2:2 ^ (none :: p:PL).length<=2 ^ 13:=am0 (by omega) (by simp;omega);unfold aA;omega
theorem KJ (p:PL) (i:Nat):bit ((ju p:Nat):Int) i=if (p.getD i none).isSome then 1 else 0:=by
 have h:=iz p i;rw [Nat.testBit_eq_decide_div_mod_eq] at h;unfold bit;have e:(((ju p:Nat):Int) / 2 ^ i) % 2=((ju p / 2 ^ i % 2:Nat):Int):=by simp
 rw [e]
 cases hs:(p.getD i none).isSome with
 | true=>rw [hs] at h;have:=of_decide_eq_true h;rw [this];rfl
 | false=>
  rw [hs] at h;have:=of_decide_eq_false h;have:ju p / 2 ^ i % 2=0:=by omega
  rw [this];rfl
theorem oO (p:PL) (i:Nat):bit (aA p) (i+1)=if (p.getD i none).isSome then 1 else 0:=KJ (none :: p) (i+1)
theorem AH {p:PL} {i:Nat}:bit (aA p) (i+1)=1↔(p.getD i none).isSome=true:=by
 rw [oO];split <;> simp_all
theorem tQ (p:PL) (i j:Nat) (o:Option (List Int)):(p.set i o).getD j none=if i=j /\ j < p.length then o else p.getD j none:=by
 rw [alk,alN,alk];by_cases h:i=j
 ·subst h;by_cases hl:i < p.length
  ·simp [hl]
  ·simp [hl]
 ·simp [h]
theorem EE {k:Nat} (hk:k<=61):(2:Nat) ^ k<=2305843009213693952:=amO (am0 (by omega) hk) (by decide)
theorem KK {k:Nat} (hk:k<=61):i64.wrap (1*2 ^ (min (Int.toNat (k:Int)) 64))=((2 ^ k:Nat):Int):=by
 have h:=EE hk;rw [ak7,show min k 64=k by omega,Int.one_mul];have e:(2:Int) ^ k=((2 ^ k:Nat):Int):=by simp
 rw [e];generalize 2 ^ k=t at h;exact aI (by omega) (by omega)
theorem or_eq {s k:Nat} (hs:s < 4611686018427387904) (hk:k<=61):
  i64.wrap ((BitVec.ofInt 64 (s:Int) ||| BitVec.ofInt 64 (i64.wrap (1*2 ^ (min (Int.toNat (k:Int)) 64)))).toNat:Nat)=((s ||| 2 ^ k:Nat):Int):=by
 have h:=EE hk;rw [KK hk];have e:(BitVec.ofInt 64 (s:Int) ||| BitVec.ofInt 64 ((2 ^ k:Nat):Int)).toNat=s ||| 2 ^ k:=by
  rw [BitVec.toNat_or];congr 1
  ·rw [am5];omega
  ·rw [am5];generalize 2 ^ k=t at h;omega
 rw [e];have:s ||| 2 ^ k < 2 ^ 62:=Nat.or_lt_two_pow (by omega) (by generalize 2 ^ k=t at h;omega)
 generalize s ||| 2 ^ k=t at this
 exact aI (by omega) (by omega)
theorem Py {s k:Nat} (hs:s < 4611686018427387904) (hk:k<=61) {t:Nat} (ht: ∀i,t.testBit i=(s.testBit i && !decide (k=i))):
  i64.wrap ((BitVec.ofInt 64 (s:Int) &&& ~~~ BitVec.ofInt 64 (i64.wrap (1*2 ^ (min (Int.toNat (k:Int)) 64)))).toNat:Nat)=(t:Int):=by
 have h:=EE hk;rw [KK hk];have a1:(BitVec.ofInt 64 (s:Int)).toNat=s:=by rw [am5];omega
 have a2:(BitVec.ofInt 64 ((2 ^ k:Nat):Int)).toNat=2 ^ k:=by rw [am5];generalize 2 ^ k=t at h;omega
 have e:(BitVec.ofInt 64 (s:Int) &&& ~~~ BitVec.ofInt 64 ((2 ^ k:Nat):Int)).toNat=t:=by
  apply amM;intro i;rw [ht i,anI,Nat.testBit_and,a1];show (s.testBit i && (~~~ BitVec.ofInt 64 ((2 ^ k:Nat):Int)).getLsbD i)=_;rw [BitVec.getLsbD_not];show (s.testBit i && (decide (i < 64) && !(BitVec.ofInt 64 ((2 ^ k:Nat):Int)).toNat.testBit i))=_;rw [a2,al7];by_cases hi:i < 64
  ·simp [hi]
  ·have:s.testBit i=false:=Nat.testBit_lt_two_pow (amV (show s < 2 ^ 64 by omega) (am0 (by omega) (by omega)));simp [this]
 rw [e];have:t<=s:=by
  rw [<-e,anI,a1];exact Nat.and_le_left
 exact aI (by omega) (by omega)
theorem sb {p:PL} (h:p.length<=12) {i:Nat} (hi:i < p.length) (v:List Int):
  i64.wrap ((BitVec.ofInt 64 (aA p) ||| BitVec.ofInt 64 (i64.wrap (1*2 ^ (min (Int.toNat ((i+1:Nat):Int)) 64)))).toNat:Nat)=aA (p.set i (some v)):=by
 have h1:=fg h;unfold aA at h1 ⊢;rw [or_eq (by omega) (by omega)];congr 1;apply amM;intro j;rw [alY,iz,iz,al7];show _=(((none :: p).set (i+1) (some v)).getD j none).isSome;rw [tQ];by_cases hj:i+1=j
 ·subst hj;simp [hi]
 ·simp [hj]
theorem KL {p:PL} (h:p.length<=12) {i:Nat} (hi:i < p.length):
  i64.wrap ((BitVec.ofInt 64 (aA p) &&& ~~~ BitVec.ofInt 64 (i64.wrap (1*2 ^ (min (Int.toNat ((i+1:Nat):Int)) 64)))).toNat:Nat)=aA (p.set i none):=by
 have h1:=fg h;unfold aA at h1 ⊢;refine Py (by omega) (by omega) fun j=>?_;rw [iz,iz];show (((none :: p).set (i+1) none).getD j none).isSome=_;rw [tQ];by_cases hj:i+1=j
 ·subst hj;simp [hi]
 ·simp [hj]
theorem tR {p:PL} {i:Nat} {o:Option (List Int)} (h:p[i]? =some o):flat (p.take (i+1))=flat (p.take i)++o.getD []:=by
 have hl:=(ak6.1 h).1;have he:=(ak6.1 h).2;unfold flat;rw [alp hl,alJ,he];simp
theorem dI {p:PL} {i:Nat} {o:Option (List Int)} (h:p[i]? =some o):flat p=flat (p.take i)++(o.getD []++flat (p.drop (i+1))):=by
 have hl:=(ak6.1 h).1;have he:=(ak6.1 h).2;have:p=p.take i++o :: p.drop (i+1):=by rw [<-he];simp
 conv=>lhs;rw [this]
 unfold flat;rw [alJ,alX]
theorem xE {p:PL} {i:Nat} (o:Option (List Int)) (hl:i < p.length):flat (p.set i o)=flat (p.take i)++(o.getD []++flat (p.drop (i+1))):=by
 rw [dI (p:=p.set i o) (i:=i) (o:=o) (by simp [hl])];rw [List.take_set_of_le (alA _),amo (by omega)]
theorem PL.fit.at {ks:KD} {p:PL} (h:p.fit ks): ∀{q:Nat},q<=p.length->gd ks (aA p) q=(flat (p.take q)).length
 | 0,_=>by simp [gd,flat]
 | q+1,hq=>by
  have ih:=PL.fit.at h (q:=q) (by omega);have hp:p[q]? =some p[q]:=by simp [show q < p.length by omega]
  have hk:ks[q]? =some (ks[q]'(by have:=h.1;omega)):=by simp [show q < ks.length by have:=h.1;omega]
  rw [tR hp,alb,gd,ih,hk];congr 1;by_cases hb:bit (aA p) (q+1)=1
  ·rw [if_pos hb];have:=AH.1 hb;rw [alk,hp] at this
   cases ho:p[q] with
   | none=>rw [ho] at this;cases this
   | some v=>
    have:=h.2 q v _ (by rw [hp,ho]) hk;simp [this]
  ·rw [if_neg hb]
   cases ho:p[q] with
   | none=>rfl
   | some v=>exact absurd (AH.2 (by rw [alk,hp,ho];rfl)) hb
theorem PL.fit.all {ks:KD} {p:PL} (h:p.fit ks):(flat p).length=gd ks (aA p) ks.length:=by
 rw [h.at (q:=ks.length) (by rw [h.1];exact alA _),<-h.1,amB]
theorem PL.fit.ins {ks:KD} {p:PL} (h:p.fit ks) {i:Nat} (hi:i < p.length) (hn:p.getD i none=none) (v:List Int):
  flat (p.set i (some v))=(flat p).take (gd ks (aA p) i)++v++(flat p).drop (gd ks (aA p) i):=by
 have hp:p[i]? =some none:=by
  have:p[i]? =some p[i]:=by simp [hi]
  rw [this];rw [alk,this] at hn;simpa using hn
 rw [xE _ hi,dI hp,h.at (by omega)];simp
theorem PL.fit.cut {ks:KD} {p:PL} (h:p.fit ks) {i:Nat} {v:List Int} (hp:p[i]? =some (some v)):
  flat (p.set i none)=(flat p).take (gd ks (aA p) i)++(flat p).drop (gd ks (aA p) i+v.length):=by
 have hi:=(ak6.1 hp).1;rw [xE _ hi,dI hp,h.at (by omega)];simp [List.drop_append]
theorem PL.fit.get {ks:KD} {p:PL} (h:p.fit ks) {i:Nat} {v:List Int} (hp:p[i]? =some (some v)):
  ((flat p).take (gd ks (aA p) i+v.length)).drop (gd ks (aA p) i)=v:=by
 have hi:=(ak6.1 hp).1;rw [dI hp,h.at (by omega)];simp [List.take_append]
theorem PL.fit.set {ks:KD} {p:PL} (h:p.fit ks) {i:Nat} {v:List Int} {k:ByteArray×List ByteArray} (hk:ks[i]? =some k) (hl:v.length=k.2.length):(PL.fit ks (p.set i (some v))):=by
 refine⟨by rw [alV];exact h.1,fun j x k' hx bL=>?_⟩;rw [alN] at hx;by_cases hj:i=j
 ·subst hj;by_cases av:i < p.length
  ·rw [if_pos rfl,if_pos av] at hx;obtain rfl:=alm (alm hx);rw [hk] at bL;obtain rfl:=alm bL;exact hl
  ·rw [if_pos rfl,if_neg av] at hx;cases hx
 ·rw [if_neg hj] at hx;exact h.2 j x k' hx bL
theorem PL.fit.off {ks:KD} {p:PL} (h:p.fit ks) (i:Nat):(PL.fit ks (p.set i none)):=by
 refine⟨by rw [alV];exact h.1,fun j x k' hx bL=>?_⟩;rw [alN] at hx;by_cases hj:i=j
 ·subst hj;by_cases av:i < p.length
  ·rw [if_pos rfl,if_pos av] at hx;cases hx
  ·rw [if_pos rfl,if_neg av] at hx;cases hx
 ·rw [if_neg hj] at hx;exact h.2 j x k' hx bL
theorem vZ (ks:KD):PL.fit ks (List.replicate ks.length none):=by
 refine⟨by simp,fun i v k hx _=>?_⟩;rw [ams] at hx
 split at hx <;> cases hx
theorem Ci: ∀n,ju (List.replicate n none)=0
 | 0=>rfl
 | n+1=>by rw [amD,ju,Ci n];rfl
theorem Cj (n:Nat):aA (List.replicate n none)=0:=by
 unfold aA;show ((ju (List.replicate (n+1) none):Nat):Int)=0;rw [Ci];rfl
theorem xF (n:Nat):flat (List.replicate n none)= []:=by
 unfold flat
 induction n with
 | zero=>rfl
 | succ n ih=>rw [amD,alX,ih];rfl
structure dS (ks:KD) (row:bw->Option PL) (aE:bw->Option Int) (bS:List (Int×az)):Prop where
 aE:aE=fun e=>(row e).map aA
 nd:(bS.map (·.1)).Nodup
 tok: ∀x∈bS,x.2.Ok /\ x.2.n=gd ks x.1 ks.length /\ x.2.rows≠ [] /\ ∀r∈x.2.rows,∃p,row r.1=some p /\ aA p=x.1 /\ flat p=r.2
 has: ∀e p,row e=some p-> ∃t,(aA p,t)∈bS /\ (e,flat p)∈t.rows
 fit: ∀e p,row e=some p->p.fit ks
theorem dS.new (ks:KD):dS ks (fun _=>none) (fun _=>none) []:=
 ⟨rfl,by simp,by simp,by simp,by simp⟩
theorem Ck: ∀(n:Nat) (L:List Nat),L.Nodup->(∀x∈L,x < n)->L.length<=n
 | 0,L,_,h=>by
  cases L with
  | nil=>simp
  | cons x L=>exact absurd (h x (by simp)) (by omega)
 | n+1,L,bJ,h=>by
  have h1:=Ck n (L.erase n) (bJ.erase n) (fun x hx=>by
   have hm:=(bJ.mem_erase_iff).1 hx;have:=h x hm.2;have:=hm.1;omega)
  have h2:=List.length_erase (a:=n) (l:=L)
  split at h2 <;> omega
theorem dS.enter {ks:KD} {row:bw->Option PL} {aE:bw->Option Int} {bS T1:List (Int×az)} (h:dS ks row aE bS) {e:bw} {p:PL} (aW:row e=none) (hp:p.fit ks)
  (hb: ∀L:List bw,L.Nodup->(∀x∈L,(row x).isSome=true)->L.length < 200) (hmk: ∀x∈ks,x.2.length<=4) (KM:ks.length<=12)
  (hT:T1=bS \/ (T1=bS++ [(aA p,⟨gd ks (aA p) ks.length,[]⟩)] /\ ∀x∈bS,x.1≠aA p)) {k:Nat} {t:az} (hk:T1[k]? =some (aA p,t)):
  (t.p7 e (flat p)).1=t.add e (flat p) /\ dS ks (aG row e (some p)) (aG aE e (some (aA p))) (T1.set k (aA p,t.add e (flat p))):=by
 -- the old tables, with perhaps one that is empty
 have Yk:(T1.map (·.1)).Nodup:=by
  rcases hT with rfl | ⟨rfl,dz⟩
  ·exact h.nd
  ·rw [alW,al1];refine⟨h.nd,by simp,fun a ha b hb=>?_⟩;simp only [alR,amK,ali] at hb;subst hb;obtain⟨x,hx,rfl⟩:=alu.1 ha;exact dz x hx
 have QV: ∀x∈T1,x.2.Ok /\ x.2.n=gd ks x.1 ks.length /\ ∀r∈x.2.rows,∃p,row r.1=some p /\ aA p=x.1 /\ flat p=r.2:=by
  intro x hx
  rcases hT with rfl | ⟨rfl,dz⟩
  ·exact⟨(h.tok x hx).1,(h.tok x hx).2.1,(h.tok x hx).2.2.2⟩
  ·rcases alg.1 hx with hx | hx
   ·exact⟨(h.tok x hx).1,(h.tok x hx).2.1,(h.tok x hx).2.2.2⟩
   ·simp only [ali] at hx;subst hx;have:=fD hmk (aA p) ks.length;exact⟨⟨by show gd ks (aA p) ks.length<=48;omega,by simp,by simp [az.aw],by simp⟩,rfl,by simp⟩
 have adP: ∀x∈T1,x.1≠aA p->x.2.rows≠ []:=by
  intro x hx kT
  rcases hT with rfl | ⟨rfl,dz⟩
  ·exact(h.tok x hx).2.2.1
  ·rcases alg.1 hx with hx | hx
   ·exact(h.tok x hx).2.2.1
   ·simp only [ali] at hx;subst hx;exact absurd rfl kT
 have Yl: ∀e p,row e=some p-> ∃t,(aA p,t)∈T1 /\ (e,flat p)∈t.rows:=by
  intro e p hr;obtain⟨t,h1,h2⟩:=h.has e p hr
  rcases hT with rfl | ⟨rfl,dz⟩
  ·exact⟨t,h1,h2⟩
  ·exact⟨t,amN _ h1,h2⟩
 have cO:=(ak6.1 hk).1;have dF:=ala hk;obtain⟨tk,tn,tr⟩:=QV _ dF;have Aq:e ∉ t.aw:=fun hm=>by
  obtain⟨r,hr,rfl⟩:=alu.1 hm;obtain⟨p',uv,_⟩:=tr r hr;rw [aW] at uv;cases uv
 have Ce:t.rows.length < 200:=by
  have:=hb t.aw tk.nd (fun x hx=>by
   obtain⟨r,hr,rfl⟩:=alu.1 hx;obtain⟨p',uv,_⟩:=tr r hr;rw [uv];rfl)
  rwa [az.cC] at this
 have dh:(flat p).length=t.n:=by rw [tn];exact hp.all
 refine⟨?_,?_⟩
 ·unfold az.p7;rw [if_neg (by simp [dh]),if_neg Aq,if_neg (by omega)]
 have hke: ∀x∈T1.set k (aA p,t.add e (flat p)),x=(aA p,t.add e (flat p)) \/ (x∈T1 /\ x.1≠aA p):=by
  intro x hx;obtain⟨j,hj⟩:=aly hx;rw [alN] at hj;by_cases sd:k=j
  ·subst sd;simp only [if_true,if_pos cO,ald] at hj;exact .inl hj.symm
  ·rw [if_neg sd] at hj;refine .inr ⟨ala hj,fun he=>sd ?_⟩;have gQ:=(ak6.1 hj).1;exact(amh (i:=k) (j:=j) (l:=T1.map (·.1)) (by simpa using cO) Yk).1 (by rw [alc,alc,hk,hj];simp [he])
 refine⟨?_,?_,?_,?_,?_⟩
 ·funext x
  unfold aG
  split
  ·rfl
  ·exact congrFun h.aE x
 ·have:(T1.set k (aA p,t.add e (flat p))).map (·.1)=T1.map (·.1):=by
   rw [amm];apply alM;intro j;rw [alN]
   split
   ·rename_i hj
    subst hj;rw [alc,hk,if_pos (by simpa using cO)];rfl
   ·rfl
  rw [this];exact Yk
 ·intro x hx
  rcases hke x hx with rfl | ⟨hx,kT⟩
  ·refine⟨tk.add dh Ce Aq,tn,by simp [az.add],fun r hr=>?_⟩
   rcases alg.1 hr with hr | hr
   ·obtain⟨p',h1,h2,h3⟩:=tr r hr;refine⟨p',?_,h2,h3⟩;unfold aG;rw [if_neg (fun he=>by rw [he,aW] at h1;cases h1)];exact h1
   ·simp only [ali] at hr;subst hr;exact⟨p,by unfold aG;rw [if_pos rfl],rfl,rfl⟩
  ·obtain⟨a1,a2,a3⟩:=QV x hx;refine⟨a1,a2,adP x hx kT,fun r hr=>?_⟩;obtain⟨p',h1,h2,h3⟩:=a3 r hr;refine⟨p',?_,h2,h3⟩;unfold aG;rw [if_neg (fun he=>by rw [he,aW] at h1;cases h1)];exact h1
 ·intro e' p' iD;unfold aG at iD;by_cases yS:e'=e
  ·rw [if_pos yS] at iD;obtain rfl:=alm iD;subst yS;exact⟨t.add e' (flat p),ala (i:=k) (by simp [cO]),by simp [az.add]⟩
  ·rw [if_neg yS] at iD;obtain⟨t',h1,h2⟩:=Yl e' p' iD;obtain⟨j,hj⟩:=aly h1;by_cases sd:k=j
   ·subst sd;rw [hk] at hj;obtain⟨hs,rfl⟩:=amx (alm hj);exact⟨t.add e (flat p),ala (i:=k) (by rw [alx cO,<-hs]),amN _ h2⟩
   ·exact⟨t',ala (i:=j) (by rw [alC sd];exact hj),h2⟩
 ·intro e' p' iD;unfold aG at iD;by_cases yS:e'=e
  ·rw [if_pos yS] at iD;obtain rfl:=alm iD;exact hp
  ·rw [if_neg yS] at iD;exact h.fit e' p' iD
theorem dS.find {ks:KD} {row:bw->Option PL} {aE:bw->Option Int} {bS:List (Int×az)} (h:dS ks row aE bS) {e:bw} {p:PL} (hr:row e=some p):
  ∃(k r:Nat) (t:az),bS[k]? =some (aA p,t) /\ t.Ok /\ jV t e=some (r:Int) /\ t.rows[r]? =some (e,flat p):=by
 obtain⟨t,h1,h2⟩:=h.has e p hr;obtain⟨k,hk⟩:=aly h1;obtain⟨r,oN⟩:=aly h2;have tk:=(h.tok _ h1).1;exact⟨k,r,t,hk,tk,(az.rT tk.nd).2 (by unfold az.aw;rw [alc,oN];rfl),oN⟩
theorem Pz {t:az} (tk:t.Ok) {r:Nat} {x:bw×List Int} (hr:t.rows[r]? =some x) (y:bw×List Int):y∈(t.del r).rows↔y∈t.rows /\ y.1≠x.1:=by
 have hl:=(ak6.1 hr).1;have h0:0 < t.rows.length:=by omega
 have inj: ∀{i j:Nat} {a b:bw×List Int},t.rows[i]? =some a->t.rows[j]? =some b->a.1=b.1->i=j:=fun{i j a b} hi hj he=>
  (amh (i:=i) (j:=j) (l:=t.aw) (by unfold az.aw;simpa using (ak6.1 hi).1) tk.nd).1 (by unfold az.aw;rw [alc,alc,hi,hj];simp [he])
 constructor
 ·intro hy;obtain⟨j,hj⟩:=aly hy;rw [az.mc t r j h0] at hj
  split at hj
  ·rename_i gQ
   split at hj
   ·refine⟨ala hj,fun he=>?_⟩;have:=inj hj hr he;omega
   ·rename_i Mp
    exact⟨ala hj,fun he=>Mp (inj hj hr he)⟩
  ·cases hj
 ·rintro⟨hy,aW⟩;obtain⟨j,hj⟩:=aly hy;have gQ:=(ak6.1 hj).1;have Mp:j≠r:=fun e=>by subst e;rw [hj] at hr;exact aW (by rw [alm hr])
  by_cases me:j=t.rows.length - 1
  ·refine ala (i:=r) ?_;rw [az.mc t r r h0,if_pos (by omega),if_pos rfl,<-me];exact hj
  ·refine ala (i:=j) ?_;rw [az.mc t r j h0,if_pos (by omega),if_neg Mp];exact hj
theorem dS.leave {ks:KD} {row:bw->Option PL} {aE:bw->Option Int} {bS T':List (Int×az)} (h:dS ks row aE bS) {e:bw} {p:PL} (hr:row e=some p)
  {k r:Nat} {t:az} (hk:bS[k]? =some (aA p,t)) (oN:t.rows[r]? =some (e,flat p)) (hT:((t.del r).rows.length≠0 /\ T'=bS.set k (aA p,t.del r)) \/ ((t.del r).rows.length=0 /\ T'=bS.eraseIdx k)):
  dS ks (aG row e none) (aG aE e none) T':=by
 have cO:=(ak6.1 hk).1;have dF:=ala hk;obtain⟨tk,tn,tne,tr⟩:=h.tok _ dF;have eT:=(ak6.1 oN).1;have dm:=Pz tk oN;have lH: ∀{i j:Nat} {a b:Int×az},bS[i]? =some a->bS[j]? =some b->a.1=b.1->i=j:=fun{i j a b} hi hj he=>
  (amh (i:=i) (j:=j) (l:=bS.map (·.1)) (by simpa using (ak6.1 hi).1) h.nd).1 (by rw [alc,alc,hi,hj];simp [he])
 -- what is in the new list
 have vC: ∀x,x∈T'↔(x∈bS /\ x.1≠aA p) \/ ((t.del r).rows.length≠0 /\ x=(aA p,t.del r)):=by
  intro x
  rcases hT with ⟨hz,rfl⟩ | ⟨hz,rfl⟩
  ·constructor
   ·intro hx;obtain⟨j,hj⟩:=aly hx;rw [alN] at hj;by_cases sd:k=j
    ·subst sd;simp only [if_true,if_pos cO,ald] at hj;exact .inr ⟨hz,hj.symm⟩
    ·rw [if_neg sd] at hj;exact .inl ⟨ala hj,fun he=>sd (lH hk hj he.symm)⟩
   ·rintro(⟨hx,kT⟩ | ⟨_,rfl⟩)
    ·obtain⟨j,hj⟩:=aly hx;have sd:k≠j:=fun e=>by subst e;rw [hk] at hj;exact kT (by rw [<-alm hj])
     exact ala (i:=j) (by rw [alC sd];exact hj)
    ·exact ala (i:=k) (by simp [cO])
  ·constructor
   ·intro hx;obtain⟨j,hj⟩:=aly hx;rw [anV] at hj
    split at hj
    ·exact .inl ⟨ala hj,fun he=>by have:=lH hk hj he.symm;omega⟩
    ·exact .inl ⟨ala hj,fun he=>by have:=lH hk hj he.symm;omega⟩
   ·rintro(⟨hx,kT⟩ | ⟨Dk,_⟩)
    ·obtain⟨j,hj⟩:=aly hx;have sd:k≠j:=fun e=>by subst e;rw [hk] at hj;exact kT (by rw [<-alm hj])
     by_cases av:j < k
     ·exact ala (i:=j) (by rw [anV,if_pos av];exact hj)
     ·exact ala (i:=j - 1) (by rw [anV,if_neg (by omega),show j - 1+1=j by omega];exact hj)
    ·exact absurd hz Dk
 refine⟨?_,?_,?_,?_,?_⟩
 ·funext x
  unfold aG
  split
  ·rfl
  ·exact congrFun h.aE x
 ·rcases hT with ⟨hz,rfl⟩ | ⟨hz,rfl⟩
  ·have:(bS.set k (aA p,t.del r)).map (·.1)=bS.map (·.1):=by
    rw [amm];apply alM;intro j;rw [alN]
    split
    ·rename_i hj
     subst hj;rw [alc,hk,if_pos (by simpa using cO)];rfl
    ·rfl
   rw [this];exact h.nd
  ·rw [eK];exact h.nd.sublist (anF _ _)
 ·intro x hx
  rcases(vC x).1 hx with ⟨hx,kT⟩ | ⟨hz,rfl⟩
  ·obtain⟨a1,a2,a3,a4⟩:=h.tok x hx;refine⟨a1,a2,a3,fun y hy=>?_⟩;obtain⟨p',h1,h2,h3⟩:=a4 y hy;refine⟨p',?_,h2,h3⟩;unfold aG;rw [if_neg (fun he=>by rw [he,hr] at h1;obtain rfl:=alm h1;exact kT h2.symm)];exact h1
  ·refine⟨tk.del eT,tn,fun e=>hz (by rw [e];rfl),fun y hy=>?_⟩;obtain⟨hy,aW⟩:=(dm y).1 hy;obtain⟨p',h1,h2,h3⟩:=tr y hy;refine⟨p',?_,h2,h3⟩;unfold aG;rw [if_neg aW];exact h1
 ·intro e' p' iD;unfold aG at iD;by_cases yS:e'=e
  ·rw [if_pos yS] at iD;cases iD
  ·rw [if_neg yS] at iD;obtain⟨t',h1,h2⟩:=h.has e' p' iD;by_cases hs:aA p'=aA p
   ·obtain⟨j,hj⟩:=aly h1;have sd:=lH hk hj hs.symm;subst sd;rw [hk] at hj;obtain⟨_,rfl⟩:=amx (alm hj);have hm:=(dm (e',flat p')).2 ⟨h2,yS⟩;refine⟨t.del r,(vC _).2 (.inr ⟨fun hz=>?_,by rw [hs]⟩),hm⟩;rw [anr.1 hz] at hm;simp at hm
   ·exact⟨t',(vC _).2 (.inl ⟨h1,hs⟩),h2⟩
 ·intro e' p' iD;unfold aG at iD;by_cases yS:e'=e
  ·rw [if_pos yS] at iD;cases iD
  ·rw [if_neg yS] at iD;exact h.fit e' p' iD
end Go.Proofs.YtcccjgmekakabaaGreat.FW
end

section
namespace Go.Proofs.YtcccjgmekakabaaGreat.FI
open F
open Go Go.Den Go.Proofs
def Ho (g:Int):Int:=if 1000000 < g then 1000000 else g
def onG (g:Int):Bool:=decide (g<=1000000)
structure QW (aO:Int) (au:List Int) (m:ai):Prop where
 Cl:m.aO=aO
 F9:m.au=au.map Ho
 len:m.alive.length=au.length
 nodup:m.free.Nodup
 free: ∀i∈m.free,0<=i /\ i < au.length /\ m.alive.getD i.toNat false=false /\ au.getD i.toNat 0 < 1000000
 dead: ∀i:Int,0<=i->i < au.length->m.alive.getD i.toNat false=false->au.getD i.toNat 0 < 1000000->i∈m.free
 lG:m.free.length+m.alive.count true<=au.length
theorem QW.step {aO:Int} {au:List Int} {m:ai} (h:QW aO au m) {i:Int} (hi: ¬(i < 0 \/ i>=au.length \/ m.alive.getD i.toNat false=false \/ au.getD i.toNat 0>=1000000)):
  QW aO au { m with alive:=m.alive.set i.toNat false,free:=m.free++ [i]}:=by
 simp only [not_or,Bool.not_eq_false] at hi;obtain⟨i0,i1,i2,i3⟩:=hi;have hl:i.toNat < m.alive.length:=by have:=h.len;omega
 refine⟨h.Cl,h.F9,by simpa using h.len,?_,?_,?_,?_⟩
 ·show (m.free++ [i]).Nodup;rw [al1];refine⟨h.nodup,by simp,?_⟩;rintro a ha b hb rfl;simp only [ali] at hb;subst hb;have:=(h.free _ ha).2.2.1;rw [i2] at this;cases this
 ·intro j hj;show _ /\ _ /\ (m.alive.set _ _).getD _ _=_ /\ _;rw [kA]
  rcases alg.1 hj with hj | hj
  ·obtain⟨a,b,c,d⟩:=h.free j hj;refine⟨a,b,?_,d⟩
   split
   ·rfl
   ·exact c
  ·simp only [ali] at hj;subst hj;exact⟨by omega,by omega,by rw [if_pos ⟨rfl,hl⟩],by omega⟩
 ·intro j h0 h1 h2 h3;show j∈m.free++ [i];have h2:(m.alive.set i.toNat false).getD j.toNat false=false:=h2;rw [kA] at h2;by_cases iZ:i.toNat=j.toNat /\ j.toNat < m.alive.length
  ·exact alg.2 (.inr (by simp;omega))
  ·rw [if_neg iZ] at h2;exact alg.2 (.inl (h.dead j h0 h1 h2 h3))
 ·have hc:=h.lG;have h1:=count_set (l:=m.alive) (v:=false) hl;have h2:m.alive[i.toNat]=true:=by
   simp only [alk,alf hl,amu] at i2;exact i2
  rw [h2] at h1;show (m.free++ [i]).length+(m.alive.set _ _).count true<=_;simp at h1 ⊢;omega
theorem QW.init (aO:Int) (au:List Int):QW aO au ⟨aO,au.map Ho,au.map onG,[]⟩:=by
 refine⟨rfl,rfl,by simp,by simp,by simp,?_,?_⟩
 ·intro i h0 h1 h2 h3;have hl:i.toNat < au.length:=by omega
  exfalso
  simp only [alk,alc,alf hl,al8,amu,onG,decide_eq_false_iff_not] at h2 h3;omega
 ·have:=List.count_le_length (a:=true) (l:=au.map onG)
  simpa using this
theorem Cm {aO:Int} {au:List Int}: ∀{free:List Int} {m m':ai},QW aO au m->iy au free m=some m'->QW aO au m'
 | [],m,m',h,he=>by rw [iy] at he;cases he;exact h
 | i :: r,m,m',h,he=>by
  rw [iy] at he
  split at he
  ·cases he
  ·rename_i hc
   exact Cm (h.step hc) he
theorem KN {aO:Int} {au free:List Int} {m:ai} (h:gK aO au free=some m):m.MD /\ m.aO=aO:=by
 unfold gK at h
 split at h
 ·cases h
 rename_i hc
 simp only [not_or,Decidable.not_not] at hc;obtain⟨c1,c2,c3,c4⟩:=hc;have hI:=Cm (QW.init aO au) h;have tN:m.au.length=au.length:=by rw [hI.F9];simp
 have eL: ∀i:Int,m.gen i=if i.toNat < au.length then Ho (au.getD i.toNat 0) else 0:=by
  intro i;unfold ai.gen;rw [hI.F9];simp only [alk,alc];by_cases hl:i.toNat < au.length
  ·rw [if_pos hl,alf hl];rfl
  ·rw [if_neg hl,alE (by omega)];rfl
 refine⟨⟨⟨by rw [hI.Cl];omega,by rw [hI.Cl];omega,by rw [hI.len,tN],by rw [hI.Cl,tN];omega,?_,?_,hI.nodup,by rw [tN];exact hI.lG⟩,?_⟩,hI.Cl⟩
 ·intro g hg;rw [hI.F9] at hg;obtain⟨x,hx,rfl⟩:=alu.1 hg;have:=c4 x hx;unfold Ho
  split <;> omega
 ·intro i hi;obtain⟨a,b,c,d⟩:=hI.free i hi;refine⟨a,by rw [tN];exact b,?_,?_⟩
  ·unfold ai.bD;rw [c];simp
  ·rw [eL,if_pos (by omega)];unfold Ho;rw [if_neg (by omega)];exact d
 ·intro i h0 h1 h2 h3;rw [tN] at h1;have Mo:m.alive.getD i.toNat false=false:=by
   unfold ai.bD at h2
   simpa [h0] using h2
  refine hI.dead i h0 h1 Mo ?_;rw [eL,if_pos (by omega)] at h3;unfold Ho at h3
  split at h3 <;> omega
theorem PA {n:Int} (h1:1<=n) (h2:n<=200):ai.MD ⟨n,[],[],[]⟩:=
 ⟨ai.Ok.new h1 h2,by intro i h0 h1;simp at h1;omega⟩
theorem Cn {m:ai} (h:m.MD):m.bG.1.MD /\ m.bG.1.aO=m.aO:=by
 unfold ai.bG
 cases hf:m.free with
 | cons i rest=>
  refine⟨⟨h.toOk.cS hf,?_⟩,rfl⟩;have hi:=h.free i (by simp [hf]);intro j h0 h1 h2 h3;have h1:j < (m.au.set i.toNat (m.gen i+1)).length:=h1;rw [alV] at h1;rw [ai.kB m hi.1 (by rw [h.len];omega)] at h2
  split at h2
  ·cases h2
  ·rename_i aW
   rw [ai.nk m hi.1 (by omega) h0,if_neg aW] at h3;have:=h.dead j h0 h1 h2 h3;rw [hf] at this
   rcases alF.1 this with e | e
   ·exact absurd e aW
   ·exact e
 | nil=>
  simp only []
  split
  ·rename_i hl
   refine⟨⟨h.toOk.dy hf hl,?_⟩,rfl⟩;intro j h0 h1 h2 h3;have h1:j < (m.au++ [1]).length:=h1;rw [alb,am4] at h1;rw [ai.qn m h.len] at h2
   split at h2
   ·cases h2
   ·rename_i aW
    rw [ai.uZ m h0,if_neg aW] at h3;exact h.dead j h0 (by omega) h2 h3
  ·exact⟨h,rfl⟩
theorem KO {m:ai} (h:m.MD) (i g:Int):(m.mi i g).1.MD /\ (m.mi i g).1.aO=m.aO:=by
 unfold ai.mi
 split
 ·rename_i hi
  refine⟨⟨h.toOk.dN hi,?_⟩,rfl⟩;obtain⟨k6,hg⟩:=ai.kC.1 hi;obtain⟨i0,EA,_⟩:=rV k6;intro j h0 h1 h2 h3;show j∈if g < 1000000 then m.free++ [i] else m.free
  rw [ai.xA] at h3;rw [ai.nm m i0 EA] at h2;by_cases hj:j=i
  ·subst hj;rw [if_pos (by omega)];simp
  ·rw [if_neg hj] at h2;have:=h.dead j h0 h1 h2 h3
   split
   ·simp [this]
   ·exact this
 ·exact⟨h,rfl⟩
theorem qP (m:ai):m.aH.length=m.au.length:=by simp [ai.aH]
theorem xG {m:ai} {k:Nat} (hk:k < m.au.length):m.aH[k]? =some (if m.gen k=1000000 /\ m.bD k=false then m.gen k+1 else m.gen k):=by
 simp [ai.aH,List.getElem?_mapIdx,hk,ai.gen]
theorem Hq {m:ai} (hm:m.MD):gK m.aO m.aH m.free=some m:=by
 have fB:=qP m;have eL: ∀k:Nat,k < m.au.length->m.aH.getD k 0=(if m.gen k=1000000 /\ m.bD k=false then m.gen k+1 else m.gen k):=by
  intro k hk;rw [alk,xG hk];rfl
 have Pg: ∀k:Nat,k < m.au.length->1<=m.gen k /\ m.gen k<=1000000:=fun k hk=>hm.toOk.gen (i:=(k:Int)) (by omega) (by omega);have bz: ∀g∈m.aH,1<=g /\ g<=1000001:=by
  intro g hg;obtain⟨k,hk,rfl⟩:=amd.1 hg;rw [fB] at hk;have h1:=eL k hk;rw [alk,alf (by omega),amu] at h1;have:=Pg k hk;rw [h1]
  split <;> omega
 unfold gK;have e2:m.aH.map (fun g=>if 1000000 < g then 1000000 else g)=m.au:=by
  apply List.ext_getElem
  ·simp [fB]
  ·intro k h1 h2;have hk:k < m.au.length:=h2;rw [List.getElem_map];have h3:=eL k hk;rw [alk,alf (by omega),amu] at h3;have h4:m.gen k=m.au[k]:=by unfold ai.gen;rw [ak7,alk,alf hk];rfl
   have:=Pg k hk;rw [h3,<-h4]
   split <;> split <;> omega
 rw [if_neg,e2,zz m.aH m.free _ hm.nodup]
 ·simp only [alO];have:m.free.foldl (fun a i=>a.set i.toNat false) (m.aH.map (fun g=>decide (g<=1000000)))=m.alive:=by
   obtain⟨f1,f2⟩:=Hl m.free (m.aH.map (fun g=>decide (g<=1000000)));apply List.ext_getElem
   ·rw [f1];simp [hm.len,fB]
   ·intro j h1 h2;have f3:=f2 j;have hj:j < m.au.length:=by rw [<-hm.len];exact h2
    have h4:=eL j hj;rw [alk,alf (by omega),amu] at h4;have h5:(m.aH.map (fun g=>decide (g<=1000000))).getD j false=decide ((if m.gen j=1000000 /\ m.bD j=false then m.gen j+1 else m.gen j)<=1000000):=by
     rw [alk,alc,alf (by omega),<-h4];rfl
    have KP:m.bD j=m.alive[j]:=by simp [ai.bD,h2]
    have hgj:=Pg j hj;rw [alk,alf h1,amu,h5] at f3;rw [f3]
    split
    ·rename_i hex
     obtain⟨i,hi,rfl⟩:=hex;obtain⟨i0,_,hd,_⟩:=hm.free i hi
     simpa [ai.bD,i0,h2] using hd.symm
    ·rename_i hex
     cases hb:m.alive[j] with
     | true=>
      rw [hb] at KP;rw [if_neg (by rw [KP];simp)]
      simpa using hgj.2
     | false=>
      rw [hb] at KP;by_cases hw:m.gen j=1000000
      ·rw [if_pos ⟨hw,KP⟩];simp;omega
      ·have:=hm.dead (j:Int) (amX j) (by omega) KP (by omega);exact absurd ⟨_,this,by simp⟩ hex
  rw [this]
 ·intro i hi;obtain⟨i0,i1,i2,i3⟩:=hm.free i hi;have h1:=eL i.toNat (by omega);have e:((i.toNat:Nat):Int)=i:=by omega
  rw [e,if_neg (by omega)] at h1;refine⟨i0,by rw [fB];exact i1,?_,by rw [h1];exact i3⟩;have hk:i.toNat < m.aH.length:=by omega
  simp only [alk,alc,alf hk,al8,amu,decide_eq_true_eq] at h1 ⊢;omega
 ·have:=hm.B8;have:=hm.zx;have:=hm.le;rintro(h | h | h | h)
  ·omega
  ·omega
  ·rw [fB] at h;omega
  ·exact h bz
end Go.Proofs.YtcccjgmekakabaaGreat.FI
end

section
namespace Go.Proofs.YtcccjgmekakabaaGreat.FP
open F
open Go Go.Den Go.Proofs
theorem w8 (n:Int):u8.wrap n=n % 256:=by simp only [IntKind.wrap,IntKind.bits,IntKind.signed,Bool.false_and];simp
theorem rh (n:Int):u64.wrap n=n % 18446744073709551616:=by simp only [IntKind.wrap,IntKind.bits,IntKind.signed,Bool.false_and];simp
theorem Hr (n:Int):i64.wrap n=if n % 18446744073709551616>=9223372036854775808 then n % 18446744073709551616 - 18446744073709551616 else n % 18446744073709551616:=by
 simp only [IntKind.wrap,IntKind.bits,IntKind.signed,amI,decide_eq_true_eq,ge_iff_le];split <;> split <;> omega
theorem Ym: ∀x:BitVec 8,(x ||| 128#8).toNat=x.toNat % 128+128:=by decide+kernel
theorem U4: ∀x:BitVec 8,(x &&& 127#8).toNat=x.toNat % 128:=by decide+kernel
theorem eH (k:Nat) (n:Int):(BitVec.ofInt k n).toNat=(n % 2 ^ k).toNat:=by
 rw [am5];norm_cast
theorem adS {n:Int}:u8.wrap ((BitVec.ofInt 8 (u8.wrap n) ||| BitVec.ofInt 8 128).toNat:Nat)=n % 128+128:=by
 have e:BitVec.ofInt 8 128=128#8:=by decide
 rw [e,Ym,eH,w8,w8];omega
theorem adT {c:Int} (h0:0<=c) (h1:c < 256):u64.wrap (u8.wrap ((BitVec.ofInt 8 c &&& BitVec.ofInt 8 127).toNat:Nat))=c % 128:=by
 have e:BitVec.ofInt 8 127=127#8:=by decide
 rw [e,U4,eH,w8,rh];omega
theorem KQ (n:Int):Int.fdiv n (2 ^ (min (Int.toNat 7) 64))=n / 128:=by
 show Int.fdiv n 128=_;rw [am3 _ (by omega)]
def fL:Nat->Int->List Int
 | 0,_=> []
 | f+1,n=>if n < 128 then [n] else (n % 128+128) :: fL f (n / 128)
def bu (n:Int):List Int:=fL 10 n
theorem zC: ∀(f:Nat) (n:Int),0<=n->n < 128 ^ (f+1)-> ∀g,f<=g->fL (g+1) n=fL (f+1) n
 | 0,n,h0,h1,g,hg=>by
  have h1:n < 128:=by simpa using h1
  rw [fL,fL,if_pos h1,if_pos h1]
 | f+1,n,h0,h1,0,hg=>by omega
 | f+1,n,h0,h1,g+1,hg=>by
  have u1:fL (g+1+1) n=if n < 128 then [n] else (n % 128+128) :: fL (g+1) (n / 128):=by rw [fL]
  have u2:fL (f+1+1) n=if n < 128 then [n] else (n % 128+128) :: fL (f+1) (n / 128):=by rw [fL]
  rw [u1,u2];by_cases h:n < 128
  ·rw [if_pos h,if_pos h]
  ·rw [if_neg h,if_neg h];rw [Int.pow_succ] at h1;have h3:n / 128 < 128 ^ (f+1):=by
    generalize (128:Int) ^ (f+1)=p at h1 ⊢;omega
   rw [zC f (n / 128) (by omega) h3 g (by omega)]
theorem Ga {n:Int} (h:n < 128):bu n= [n]:=by unfold bu;rw [fL,if_pos h]
theorem v5 {n:Int} (h:128<=n) (h2:n < 18446744073709551616):bu n=(n % 128+128) :: bu (n / 128):=by
 unfold bu;rw [fL,if_neg (by omega),zC 8 (n / 128) (by omega) (by omega) 9 (by omega)]
theorem Co: ∀(f:Nat) (n:Int),(fL f n).length<=f
 | 0,n=>by simp [fL]
 | f+1,n=>by
  rw [fL];split
  ·simp
  ·have:=Co f (n / 128);simp;omega
theorem bx (n:Int):(bu n).length<=10:=Co 10 n
theorem KR (f:Nat) (n:Int):1<=(fL (f+1) n).length:=by
 rw [fL];split <;> simp
theorem eV (n:Int):1<=(bu n).length:=KR 9 n
theorem zD: ∀(f:Nat) (n:Int),0<=n-> ∀x∈fL f n,0<=x /\ x < 256
 | 0,n,h,x,hx=>by simp [fL] at hx
 | f+1,n,h,x,hx=>by
  rw [fL] at hx
  split at hx
  ·simp only [ali] at hx;omega
  ·rcases alF.1 hx with rfl | hx
   ·omega
   ·exact zD f (n / 128) (by omega) x hx
def gL (n:Int):Int:=if n < 0 then -2*n - 1 else 2*n
def tU (n:Int):Int:=if n % 2=1 then -(n / 2) - 1 else n / 2
theorem AI (n:Int):tU (gL n)=n:=by unfold tU gL;split <;> split <;> omega
theorem jX {n:Int} (h1: -9223372036854775808<=n) (h2:n<=9223372036854775807):0<=gL n /\ gL n < 18446744073709551616:=by unfold gL;split <;> omega
theorem zE {n:Int} (h1:0<=n) (h2:n < 18446744073709551616): -9223372036854775808<=tU n /\ tU n<=9223372036854775807:=by unfold tU;split <;> omega
theorem Cp {k:Nat} (x:BitVec k):(x ^^^ BitVec.allOnes k).toNat=2 ^ k - 1 - x.toNat:=by
 rw [BitVec.xor_allOnes,BitVec.toNat_not]
theorem zF {n:Int} (h1: -9223372036854775808<=n) (h2:n<=9223372036854775807):
  u64.wrap ((BitVec.ofInt 64 (u64.wrap (i64.wrap (n*2 ^ (min (Int.toNat 1) 64)))) ^^^ BitVec.ofInt 64 (u64.wrap (Int.fdiv n (2 ^ (min (Int.toNat 63) 64))))).toNat:Nat)=gL n:=by
 have e1:n*2 ^ (min (Int.toNat 1) 64)=n*2:=rfl;have e2:Int.fdiv n (2 ^ (min (Int.toNat 63) 64))=n / 9223372036854775808:=by
  show Int.fdiv n 9223372036854775808=_;rw [am3 _ (by omega)]
 rw [e1,e2];unfold gL;by_cases h:n < 0
 ·have e3:n / 9223372036854775808= -1:=by omega
  have e4:BitVec.ofInt 64 (u64.wrap (-1))=BitVec.allOnes 64:=by decide
  rw [e3,e4,Cp,eH,if_pos h,rh,rh,Hr]
  split <;> omega
 ·have e3:n / 9223372036854775808=0:=by omega
  have e4:BitVec.ofInt 64 (u64.wrap 0)=0#64:=by decide
  rw [e3,e4,BitVec.xor_zero,eH,if_neg h,rh,rh,Hr]
  split <;> omega
theorem adU (n:Int):((BitVec.ofInt 64 n &&& BitVec.ofInt 64 1).toNat:Int)=n % 2:=by
 have e:BitVec.ofInt 64 1=1#64:=by decide
 rw [e,anI,eH];show ((_ &&& 1:Nat):Int)=_;rw [Nat.and_one_is_mod];omega
theorem KT {n:Int} (h1:0<=n) (h2:n < 18446744073709551616):
  i64.wrap ((BitVec.ofInt 64 (i64.wrap (Int.fdiv n (2 ^ (min (Int.toNat 1) 64)))) ^^^ BitVec.ofInt 64 (i64.wrap (0 - (i64.wrap (u64.wrap ((BitVec.ofInt 64 n &&& BitVec.ofInt 64 1).toNat:Nat)))))).toNat:Nat)=tU n:=by
 have e2:Int.fdiv n (2 ^ (min (Int.toNat 1) 64))=n / 2:=by
  show Int.fdiv n 2=_;rw [am3 _ (by omega)]
 rw [e2,adU];have e3:u64.wrap (n % 2)=n % 2:=by rw [rh];omega
 have e4:i64.wrap (n % 2)=n % 2:=aI (by omega) (by omega);have e5:i64.wrap (n / 2)=n / 2:=aI (by omega) (by omega);rw [e3,e4,e5];unfold tU
 rcases Int.emod_two_eq n with h | h
 ·rw [h,if_neg (by omega)];have e6:BitVec.ofInt 64 (i64.wrap (0 - 0))=0#64:=by decide
  rw [e6,BitVec.xor_zero,eH,Hr]
  split <;> omega
 ·rw [h,if_pos rfl];have e6:BitVec.ofInt 64 (i64.wrap (0 - 1))=BitVec.allOnes 64:=by decide
  rw [e6,Cp,eH,Hr]
  split <;> omega
def k7:List Int->Nat->Int->Int×Int
 | [],_,_=>(0,0)
 | c :: r,i,n=>if i=9 /\ 1 < c then (0,0) else
  if 128<=c then k7 r (i+1) (n+(c % 128)*2 ^ (7*i)) else
  if c=0 /\ 0 < i then (0,0) else (n+(c % 128)*2 ^ (7*i),i+1)
def bH (l:List Int):Int×Int:=k7 l 0 0
theorem U5 {n:Int} {a k:Nat} (h0:0<=n) (h1:n < 2 ^ k) (h2:n+a*2 ^ k < 18446744073709551616):((BitVec.ofInt 64 n ||| BitVec.ofInt 64 ((a:Int)*2 ^ k)).toNat:Int)=n+a*2 ^ k:=by
 obtain⟨m,rfl⟩:=Int.eq_ofNat_of_zero_le h0;have uD:m < 2 ^ k:=by exact_mod_cast h1
 have hc:((a*2 ^ k:Nat):Int)=(a:Int)*2 ^ k:=by rw [Int.natCast_mul,Int.natCast_pow];rfl
 rw [<-hc] at h2 ⊢;have Mo:m+a*2 ^ k < 18446744073709551616:=by omega
 generalize hq:a*2 ^ k=q at h2 Mo ⊢;have e1:(BitVec.ofInt 64 (m:Int)).toNat=m:=by rw [eH];omega
 have e2:(BitVec.ofInt 64 (q:Int)).toNat=q:=by rw [eH];omega
 rw [BitVec.toNat_or,e1,e2,<-hq,Nat.or_comm,Nat.mul_comm a,<-Nat.two_pow_add_eq_or_of_lt uD,Nat.mul_comm];omega
abbrev iv (x:Int):List Value:= [.int .i64 x]
theorem aB (x:Int):(iv x).length=1:=rfl
theorem AJ: ∃inf:TypeInfo,Tryz.prog.info? 5=some inf /\ inf.zero=some (.int .u8 0) /\ inf.size=1 /\ inf.bytes=1:=fU (by kernel_rfl)
theorem ku: ∃inf:TypeInfo,Tryz.prog.info? 2=some inf /\ inf.zero=some (.int .i64 0) /\ inf.size=1 /\ inf.bytes=8:=fU (by kernel_rfl)
theorem eM:Tryz.prog.underlying 23=some (.slice 5):=by kernel_rfl
theorem KU:Tryz.prog.underlying 34=some (.slice 2):=by kernel_rfl
abbrev tB (s:Sl) (l:List Int):aa:=aj s 5 1 ky l
section
variable {S:List Nat} {w0 w:World} {ae:List aa}
theorem cM {α:Type} (l:List α) (t u:α):(l++ [t]).set l.length u=l++ [u]:=by
 rw [alj _ _ (alA _),alK,alq]
theorem kF (h:Hp S w0 w ae) (i:Nat) {b:Sl} {l:List Int} {n:Int} (hi:ae[i]? =some (tB b l)) (h0:0<=n) (h1:n < 18446744073709551616) (hl:l.length+10<=140737488355328) {K:Sl->World->Prop}
  (hK: ∀s w',Hp S w0 w' (ae.set i (tB s (l++bu n)))->K s w'):Ai b n w K:=by
 refine NQ ?_;unfold f101;have jD:=(ak6.1 hi).1;obtain⟨inf,q1,q2,q3,q4⟩:=AJ;refine⟨fun b2 n2 m w'=> ∃pre:List Int,0<=n2 /\ n2 < 18446744073709551616 /\ l++bu n=l++pre++bu n2 /\ pre.length+(bu n2).length<=10 /\ m=n2.toNat /\ Hp S w0 w' (ae.set i (tB b2 (l++pre))),
  ⟨n.toNat,[],h0,h1,by simp,by have:=bx n;simpa using this,rfl,by rw [alh,Hp.bN hi];exact h⟩,?_⟩
 rintro b2 n2 m w2 ⟨pre,g0,g1,g2,g3,rfl,h⟩;have Yn:(ae.set i (tB b2 (l++pre)))[i]? =some (tB b2 (l++pre)):=by simp [jD]
 have yM:=h.len (s:=b2) i (by rw [Yn];rfl);simp only [alb] at yM;have hp:=eV n2;by_cases lK:n2>=128
 ·refine aL (by simpa using lK) ?_;rw [adS];refine h.cj (c:= [_]) i (n2 % 128+128) Yn cE eM q1 q3 q2 rfl rfl (by simp [Value.oneCell']) (by rw [q4];omega) (by omega) fun s2 w1 h pM _=>?_;rw [al2] at h;refine⟨by omega,(n2 / 128).toNat,by omega,pre++ [n2 % 128+128],?_,?_,?_,?_,?_,?_⟩
  ·rw [KQ];omega
  ·rw [KQ];omega
  ·rw [g2,KQ,v5 lK g1];simp
  ·rw [KQ,v5 lK g1] at*;simp at g3 ⊢;omega
  ·rw [KQ]
  ·rw [<-ale];exact h
 ·refine aJ (by simpa using lK) ?_;have e:u8.wrap n2=n2:=by rw [w8];omega
  rw [e];refine h.cj (c:= [_]) i n2 Yn cE eM q1 q3 q2 rfl rfl (by simp [Value.oneCell']) (by rw [q4];omega) (by omega) fun s2 w1 h pM _=>?_;rw [al2] at h;refine hK s2 w1 ?_;rw [g2,Ga (by omega)];exact h
theorem np (h:Hp S w0 w ae) (j:Nat) {u:aa} {b:Sl} {l:List Int} (hj:ae[j]? =some u) (hu:Hp.Reads u b 1 ky l) (hl:l.length<=140737488355328) {K:Sl->World->Prop}
  (hK: ∀s w',Hp S w0 w' (ae++ [tB s l])->K s w'):cA .sl Tryz.prog (Builtin.append_ #[23,23] 23 #[.slice none 0 0,.slice b.a b.len b.cap]) w K:=by
 have yM:=h.dR j (by rw [hj];rfl) hu;have av:=(ak6.1 hj).1;have h:=h.nil 5 1 ky;obtain⟨inf,q1,q2,q3,q4⟩:=AJ;refine h.gq ae.length j (s:=⟨none,0,0⟩) alw (u:=u) (by rw [ak9 av];exact hj) hu cE eM q1 q3 q2 rfl (by simp [Value.oneCell']) (by rw [q4];show (0+b.len)*1<=_;omega) (by show 0+b.len<=_;omega) fun r w h _ _=>?_;rw [cM] at h;exact hK r w h
theorem Cq (h:Hp S w0 w ae) (j:Nat) {u:aa} {b:Sl} {l:List Int} {n:Int} (hj:ae[j]? =some u) (hu:Hp.Reads u b 1 ky l) (h0:0<=n) (h1:n < 18446744073709551616) (hl:l.length+10<=140737488355328) {K:Sl->World->Prop}
  (hK: ∀s w',Hp S w0 w' (ae++ [tB s (l++bu n)])->K s w'):c40 b n w K:=by
 refine Tu ?_;unfold f40;refine Ec ?_;unfold f98;refine np h j hj hu (by omega) fun s w1 h=>?_;refine kF h ae.length alw h0 h1 hl fun s w2 h=>?_;rw [cM] at h;exact hK s w2 h
theorem Cr (h:Hp S w0 w ae) (j:Nat) {u:aa} {b:Sl} {l:List Int} {n:Int} (hj:ae[j]? =some u) (hu:Hp.Reads u b 1 ky l) (h0: -9223372036854775808<=n) (h1:n<=9223372036854775807) (hl:l.length+10<=140737488355328) {K:Sl->World->Prop}
  (hK: ∀s w',Hp S w0 w' (ae++ [tB s (l++bu (gL n))])->K s w'):c41 b n w K:=by
 refine Tv ?_;unfold f41;refine FC ?_;unfold f102;refine⟨by omega,by omega,?_⟩;rw [zF h0 h1];have:=jX h0 h1;exact Cq h j hj hu this.1 this.2 hl hK
theorem mj (h:Hp S w0 w ae) (j:Nat) {u:aa} {b:Sl} {l:List Int} {n:Int} (hj:ae[j]? =some u) (hu:Hp.Reads u b 1 ky l) (h0:0<=n) (h1:n < 18446744073709551616) (hl:l.length+10<=140737488355328) {K:Sl->World->Prop}
  (hK: ∀s w',Hp S w0 w' (ae++ [tB s (l++bu n)])->K s w'):DM b n w K:=by
 refine NU ?_;unfold f106;refine np h j hj hu (by omega) fun s w1 h=>?_;obtain⟨inf,q1,q2,q3,q4⟩:=AJ;refine⟨fun n2 b2 m w'=> ∃pre:List Int,0<=n2 /\ n2 < 18446744073709551616 /\ l++bu n=l++pre++bu n2 /\ pre.length+(bu n2).length<=10 /\ m=n2.toNat /\ Hp S w0 w' (ae++ [tB b2 (l++pre)]),
  ⟨n.toNat,[],h0,h1,by simp,by have:=bx n;simpa using this,rfl,by rw [alh];exact h⟩,?_⟩
 rintro n2 b2 m w2 ⟨pre,g0,g1,g2,g3,rfl,h⟩;have yM:=h.len (s:=b2) ae.length (by rw [alw];rfl);simp only [alb] at yM;have hp:=eV n2;by_cases lK:n2>=128
 ·refine aL (by simpa using lK) ⟨by omega,?_⟩;have e:u8.wrap (u64.wrap (Int.tmod n2 128+128))=n2 % 128+128:=by
   rw [Int.tmod_eq_emod_of_nonneg g0,rh,w8];omega
  have e2:u64.wrap (Int.tdiv n2 128)=n2 / 128:=by rw [Int.tdiv_eq_ediv_of_nonneg g0,rh];omega
  rw [e];refine h.cj (c:= [_]) ae.length (n2 % 128+128) alw cE eM q1 q3 q2 rfl rfl (by simp [Value.oneCell']) (by rw [q4];omega) (by omega) fun s2 w1 h pM _=>?_;rw [cM] at h;refine⟨by omega,(n2 / 128).toNat,by omega,pre++ [n2 % 128+128],?_,?_,?_,?_,?_,?_⟩
  ·rw [e2];omega
  ·rw [e2];omega
  ·rw [g2,e2,v5 lK g1];simp
  ·rw [e2];rw [v5 lK g1] at g3;simp at g3 ⊢;omega
  ·rw [e2]
  ·rw [<-ale];exact h
 ·refine aJ (by simpa using lK) ?_;have e:u8.wrap n2=n2:=by rw [w8];omega
  rw [e];refine h.cj (c:= [_]) ae.length n2 alw cE eM q1 q3 q2 rfl rfl (by simp [Value.oneCell']) (by rw [q4];omega) (by omega) fun s2 w1 h pM _=>?_;rw [cM] at h;refine hK s2 w1 ?_;rw [g2,Ga (by omega)];exact h
theorem Hs {n:Int} (h1: -9223372036854775808<=n) (h2:n<=9223372036854775807) {K:Int->World->Prop} (hK:K (gL n) w):Sr n w K:=by
 refine OA ?_;unfold f147;unfold gL at hK;by_cases h:n < 0
 ·refine aL (by simpa using h) ?_;rw [if_pos h] at hK;have e:u64.wrap (u64.wrap (u64.wrap (i64.wrap (0 - i64.wrap (n+1)))*2)+1)= -2*n - 1:=by
   rw [aI (n:=n+1) (by omega) (by omega),aI (by omega) (by omega),rh,rh,rh];omega
  rw [e];exact hK
 ·refine aJ (by simpa using h) ?_;rw [if_neg h] at hK;have e:u64.wrap (u64.wrap n*2)=2*n:=by rw [rh,rh];omega
  rw [e];exact hK
theorem jR (h:Hp S w0 w ae) (j:Nat) {u:aa} {b:Sl} {l:List Int} {n:Int} (hj:ae[j]? =some u) (hu:Hp.Reads u b 1 ky l) (h0: -9223372036854775808<=n) (h1:n<=9223372036854775807) (hl:l.length+10<=140737488355328) {K:Sl->World->Prop}
  (hK: ∀s w',Hp S w0 w' (ae++ [tB s (l++bu (gL n))])->K s w'):GJ b n w K:=by
 refine NV ?_;unfold f107;refine Hs h0 h1 ?_;have:=jX h0 h1;exact mj h j hj hu this.1 this.2 hl hK
end
theorem tX {n c:Int} {i:Nat} (hi:i<=9) (c0:0<=c) (c1:c < 256) (h9:i=9->c<=1) (n0:0<=n) (n1:n < 2 ^ (7*i)):
  0<=(c % 128)*2 ^ (7*i) /\ n+(c % 128)*2 ^ (7*i) < 18446744073709551616 /\ n+(c % 128)*2 ^ (7*i) < 2 ^ (7*(i+1)):=by
 have hc9:i≠9 \/ c<=1:=by
  by_cases h:i=9
  ·exact .inr (h9 h)
  ·exact .inl h
 clear h9;have:i=0 \/ i=1 \/ i=2 \/ i=3 \/ i=4 \/ i=5 \/ i=6 \/ i=7 \/ i=8 \/ i=9:=by omega
 rcases this with rfl | rfl | rfl | rfl | rfl | rfl | rfl | rfl | rfl | rfl <;> simp only [Nat.reduceMul,Nat.reduceAdd,Int.reducePow] at* <;> omega
theorem Ht {i:Nat} (hi:i<=9):min (Int.toNat (i64.wrap (7*(i:Int)))) 64=7*i:=by
 rw [aI (by omega) (by omega)];omega
theorem PB {n c:Int} {i:Nat} (hi:i<=9) (c0:0<=c) (c1:c < 256) (h9:i=9->c<=1) (n0:0<=n) (n1:n < 2 ^ (7*i)):
  u64.wrap ((BitVec.ofInt 64 n ||| BitVec.ofInt 64 (u64.wrap ((u64.wrap (u8.wrap ((BitVec.ofInt 8 c &&& BitVec.ofInt 8 127).toNat:Nat)))*2 ^ (min (Int.toNat (i64.wrap (7*(i:Int)))) 64)))).toNat:Nat)=n+(c % 128)*2 ^ (7*i):=by
 obtain⟨b0,b1,b2⟩:=tX hi c0 c1 h9 n0 n1;rw [adT c0 c1,Ht hi];have e:u64.wrap (c % 128*2 ^ (7*i))=c % 128*2 ^ (7*i):=by
  rw [rh];generalize c % 128*2 ^ (7*i)=q at b0 b1;omega
 rw [e];obtain⟨a,ha⟩:=Int.eq_ofNat_of_zero_le (show 0<=c % 128 by omega);rw [ha] at b0 b1 b2 ⊢;have:=U5 (a:=a) (k:=7*i) n0 n1 b1;rw [this,rh];generalize (a:Int)*2 ^ (7*i)=q at b0 b1;omega
theorem ml (c:Int) (r:List Int) (i:Nat) (n:Int):k7 (c :: r) i n=if i=9 /\ 1 < c then (0,0) else
  if 128<=c then k7 r (i+1) (n+(c % 128)*2 ^ (7*i)) else
  if c=0 /\ 0 < i then (0,0) else (n+(c % 128)*2 ^ (7*i),(i:Int)+1):=by rw [k7]
theorem xH: ∀(l:List Int) (i:Nat) (n:Int),i<=9->Bytes l->0<=n->n < 2 ^ (7*i)->0<=(k7 l i n).1 /\ (k7 l i n).1 < 18446744073709551616 /\ 0<=(k7 l i n).2 /\ (k7 l i n).2<=i+l.length /\ (k7 l i n).2<=10 /\ ((k7 l i n).2=0->(k7 l i n).1=0)
 | [],i,n,hi,hb,h0,h1=>by rw [k7];simp
 | c :: r,i,n,hi,hb,h0,h1=>by
  have hc:=hb c (by simp);rw [ml]
  split
  ·simp;omega
  ·rename_i h9
   have h9':i=9->c<=1:=fun h=>by omega
   obtain⟨b0,b1,b2⟩:=tX hi hc.1 hc.2 h9' h0 h1
   split
   ·have:=xH r (i+1) (n+(c % 128)*2 ^ (7*i)) (by omega) (fun x hx=>hb x (by simp [hx])) (by omega) b2;refine⟨this.1,this.2.1,this.2.2.1,?_,this.2.2.2.2.1,this.2.2.2.2.2⟩;have:=this.2.2.2.1;simp only [alQ];omega
   ·split
    ·simp;omega
    ·refine⟨by omega,b1,by omega,by simp only [alQ];omega,by omega,by omega⟩
theorem dJ {l:List Int} (hb:Bytes l):0<=(bH l).1 /\ (bH l).1 < 18446744073709551616 /\ 0<=(bH l).2 /\ (bH l).2<=l.length /\ (bH l).2<=10 /\ ((bH l).2=0->(bH l).1=0):=by
 have:=xH l 0 0 (by omega) hb (by omega) (by simp);unfold bH
 simpa using this
section
variable {S:List Nat} {w0 w:World} {ae:List aa}
theorem xI (h:Hp S w0 w ae) (j:Nat) {u:aa} {b:Sl} {l:List Int} (hj:(ae[j]?).map aa.holds=some u.holds) (hu:Hp.Reads u b 1 ky l) (hb:Bytes l) (hl:l.length<=9000000000000000) {K:Int->Int->World->Prop}
  (hK:K (bH l).1 (bH l).2 w):W6 b w K:=by
 refine TZ ?_;unfold f66;have yM:=h.dR j hj hu;refine⟨fun n t m w'=> ∃i:Nat,t=i /\ i<=l.length /\ i<=9 /\ 0<=n /\ n < 2 ^ (7*i) /\ k7 (l.drop i) i n=bH l /\ m=l.length - i /\ w'=w,⟨l.length,0,rfl,by omega,by omega,by omega,by simp,rfl,rfl,rfl⟩,?_⟩;rintro n t m w2 ⟨i,rfl,hi,hi9,n0,n1,hg,rfl,rfl⟩;by_cases av:i < l.length
 ·refine aL (by simp;omega) ?_;have hc:=hb l[i] (alz av);have hd:l.drop i=l[i] :: l.drop (i+1):=al0 av;refine h.fH (k:=.i .u8) (u:=u) (y:=l[i]) (x:=l[i]) j hj hu (by omega) (by simp [av]) cE rfl ?_;rw [hd,ml] at hg;generalize l[i]=c at hc hg hd;by_cases h9:i=9 /\ 1 < c
  ·refine aL (by rw [h9.1];simpa using h9.2) ?_;rw [if_pos h9] at hg;rw [<-hg] at hK;exact hK
  ·rw [if_neg h9] at hg;refine aJ ?_ ?_
   ·by_cases hY:(i:Int)=9
    ·have: ¬c > 1:=fun h=>h9 ⟨by omega,h⟩;simp [hY,this]
    ·simp [hY]
   have h9':i=9->c<=1:=fun h=>by omega
   obtain⟨b0,b1,b2⟩:=tX hi9 hc.1 hc.2 h9' n0 n1;refine⟨by rw [aI (by omega) (by omega)];omega,?_⟩;rw [PB hi9 hc.1 hc.2 h9' n0 n1];by_cases lK:128<=c
   ·refine aL (by simpa using lK) ?_;rw [if_pos lK] at hg;exact⟨l.length - (i+1),by omega,i+1,by rw [aI (by omega) (by omega)];omega,by omega,by omega,by omega,b2,hg,rfl,rfl⟩
   ·refine aJ (by simpa using lK) ?_;rw [if_neg lK] at hg;by_cases hz:c=0 /\ 0 < i
    ·refine aL (by simp [hz]) ?_;rw [if_pos hz] at hg;rw [<-hg] at hK;exact hK
    ·refine aJ ?_ ?_
     ·by_cases Du:c=0
      ·have: ¬0 < i:=fun h=>hz ⟨Du,h⟩;simp [Du];omega
      ·simp [Du]
     rw [if_neg hz] at hg;rw [<-hg] at hK;rw [aI (by omega) (by omega)];exact hK
 ·refine aJ (by simp;omega) ?_;rw [amb (by omega),k7] at hg;rw [<-hg] at hK;exact hK
def nq (l:List Int):Int×Int:=(tU (bH l).1,(bH l).2)
theorem qQ {n:Int} {K:Int->World->Prop} (h1:0<=n) (h2:n < 18446744073709551616) (hK:K (tU n) w):I0 n w K:=by
 refine N9 ?_;unfold f122;refine⟨by omega,?_⟩;rw [KT h1 h2];exact hK
theorem Cs (h:Hp S w0 w ae) (j:Nat) {u:aa} {b:Sl} {l:List Int} (hj:(ae[j]?).map aa.holds=some u.holds) (hu:Hp.Reads u b 1 ky l) (hb:Bytes l) (hl:l.length<=9000000000000000) {K:Int->Int->World->Prop}
  (hK:K (nq l).1 (nq l).2 w):c67 b w K:=by
 refine T0 ?_;unfold f67;have hr:=dJ hb;refine xI h j hj hu hb hl ?_;exact qQ hr.1 hr.2.1 hK
theorem EF {l:List Int} (h:Bytes l) (n:Nat):Bytes (l.take n):=fun x hx=>h x (ank hx)
theorem EG {l:List Int} (h:Bytes l) (n:Nat):Bytes (l.drop n):=fun x hx=>h x (anJ hx)
end
def eW (l:List Int):Prop:= ∀x∈l,-9223372036854775808<=x /\ x<=9223372036854775807
def bV (l:List Int):List Int:=l.flatMap fun x=>bu (gL x)
def mn:Int->List Int->List Int
 | _,[]=> []
 | last,x :: r=>bu (gL (i64.wrap (x - last)))++mn x r
def lG (x:Int):List Int->Nat
 | []=>0
 | y :: r=>if y=x then lG x r+1 else 0
def runT:Option Int->List Int->List (Int×Int)
 | _,[]=> []
 | p,x :: r=>if p=some x then runT (some x) r else (((lG x r+1:Nat):Int),x) :: runT (some x) r
def dA (l:List Int):List (Int×Int):=runT none l
def kG (x:Int×Int):List Int:=bu x.1++bu (gL x.2)
def Hu (l:List Int):List Int:=bu (dA l).length++(dA l).flatMap kG
def cw (f:Int) (l:List Int):List Int:=if f=0 then bV l else if f=1 then mn 0 l else Hu l
def eI (a b:List Int):List Int:=if b.length < a.length then b else a
def lx (l:List Int):List Int:=eI (eI (0 :: cw 0 l) (1 :: cw 1 l)) (2 :: cw 2 l)
def bQ (l:List Int):List Int:=bu l.length++(if l= [] then [] else lx l)
def ly (out:List (Int×Int)) (x:Int):List (Int×Int):=
 match out.getLast? with
 | some (n,y)=>if y=x then out.dropLast++ [(n+1,y)] else out++ [(1,x)]
 | none=> [(1,x)]
theorem xJ (out:List (Int×Int)) (n y:Int):ly (out++ [(n,y)]) y=out++ [(n+1,y)]:=by
 unfold ly;simp
theorem xK (out:List (Int×Int)) (n:Int) {x y:Int} (h:y≠x):ly (out++ [(n,y)]) x=out++ [(n,y)]++ [(1,x)]:=by
 unfold ly;simp [h]
theorem tY: ∀(r:List Int) (out:List (Int×Int)) (n y:Int),r.foldl ly (out++ [(n,y)])=out++ [(n+lG y r,y)]++runT (some y) r
 | [],out,n,y=>by simp [runT,lG]
 | x :: r,out,n,y=>by
  rw [amQ];by_cases h:x=y
  ·subst h;rw [xJ,tY r out (n+1) x,runT,if_pos rfl];simp only [lG,if_true];have e:n+1+(lG x r:Int)=n+((lG x r+1:Nat):Int):=by omega
   rw [e]
  ·rw [xK _ _ (Ne.symm h),tY r (out++ [(n,y)]) 1 x,runT,if_neg (by simpa using Ne.symm h)];have e:lG y (x :: r)=0:=by simp [lG,h]
   rw [e];have e2:(1:Int)+(lG x r:Int)=((lG x r+1:Nat):Int):=by omega
   rw [e2];simp
theorem KV (l:List Int):l.foldl ly []=dA l:=by
 cases l with
 | nil=>rfl
 | cons x r=>
  rw [amQ];have e:ly [] x= []++ [(1,x)]:=rfl;rw [e,tY];unfold dA;rw [runT,if_neg (by simp)];have e2:(1:Int)+(lG x r:Int)=((lG x r+1:Nat):Int):=by omega
  rw [e2];simp
theorem EH (x:Int): ∀r:List Int,lG x r<=r.length
 | []=>by simp [lG]
 | y :: r=>by
  rw [lG];split
  ·have:=EH x r;simp;omega
  ·simp
theorem Ct: ∀(p:Option Int) (l:List Int),(runT p l).length<=l.length
 | p,[]=>by simp [runT]
 | p,x :: r=>by
  have:=Ct (some x) r;rw [runT];split
  ·simp;omega
  ·simp;omega
theorem pP (l:List Int):(dA l).length<=l.length:=Ct none l
theorem oP: ∀(p:Option Int) (l:List Int) (y:Int×Int),y∈runT p l->1<=y.1 /\ y.1<=l.length /\ y.2∈l
 | p,[],y,h=>by simp [runT] at h
 | p,x :: r,y,h=>by
  rw [runT] at h
  split at h
  ·have:=oP (some x) r y h;exact⟨this.1,by simp;omega,by simp [this.2.2]⟩
  ·rcases alF.1 h with rfl | h
   ·have:=EH x r;exact⟨by show (1:Int)<=_;omega,by show ((lG x r+1:Nat):Int)<=_;simp;omega,by simp⟩
   ·have:=oP (some x) r y h;exact⟨this.1,by simp;omega,by simp [this.2.2]⟩
theorem dO (l:List Int):(bV l).length<=10*l.length:=by
 induction l with
 | nil=>simp [bV]
 | cons x r ih=>
  have:=bx (gL x);simp only [bV,alX,alb,alQ] at ih ⊢;omega
theorem KW (x:Int×Int):(kG x).length<=20:=by
 have:=bx x.1;have:=bx (gL x.2);simp only [kG,alb];omega
theorem Hv (l:List (Int×Int)):(l.flatMap kG).length<=20*l.length:=by
 induction l with
 | nil=>simp
 | cons x r ih=>
  have:=KW x;simp only [alX,alb,alQ];omega
theorem tZ (l:List Int):(lx l).length<=11+10*l.length:=by
 have h0:(0 :: cw 0 l).length<=11+10*l.length:=by
  have:=dO l;simp only [cw,if_true,alQ];omega
 unfold lx;have hs: ∀a b:List Int,(eI a b).length<=a.length:=fun a b=>by unfold eI;split <;> omega
 have:=hs (0 :: cw 0 l) (1 :: cw 1 l);have:=hs (eI (0 :: cw 0 l) (1 :: cw 1 l)) (2 :: cw 2 l);omega
theorem u6 {a b:List Int} (ha:1<=a.length) (hb:1<=b.length):1<=(eI a b).length:=by
 unfold eI;split <;> assumption
theorem Hw (l:List Int):1<=(lx l).length:=
 u6 (u6 (by simp) (by simp)) (by simp)
end Go.Proofs.YtcccjgmekakabaaGreat.FP
end

section
namespace Go.Den
open Go.RowKit
theorem EI {wC:List Obj} {K:List (Option Addr)->World->Prop} {P:List (Option Addr)->World->Prop} (hK: ∀ys w,P ys w->K ys w)
  (hs: ∀ys w q o,P ys w->wC[q]? =some o->ys[q]? =some none->P (ys.set q (some ⟨w.heap.size,0,none⟩)) (w.alloc o)): ∀n ys w,P ys w->MW wC K n ys w
 | 0,ys,w,h=>hK ys w h
 | n+1,ys,w,h=>⟨hK ys w h,fun q o ho hy=>EI hK hs n _ _ (hs ys w q o h ho hy)⟩
namespace Hp
variable {S:List Nat} {w0 w:World} {ae:List aa}
end Hp
end Go.Den
end

section
namespace Go.Proofs.YtcccjgmekakabaaGreat.FP
open F
open Go Go.Den Go.Proofs
abbrev rv (x:Int×Int):List Value:= [.int .u64 x.1,.int .i64 x.2]
theorem ua (x:Int×Int):(rv x).length=2:=rfl
theorem Yo: ∃inf:TypeInfo,Tryz.prog.info? 207=some inf /\ inf.zero=some (.agg #[.int .u64 0,.int .i64 0]) /\ inf.size=2 /\ inf.bytes=16:=fU (by kernel_rfl)
theorem QX:Tryz.prog.underlying 204=some (.slice 207):=by kernel_rfl
section
variable {S:List Nat} {w0 w:World} {ae:List aa}
theorem KX {α:Type} {f:α->List Value} {e:TypeId} (h:Hp S w0 w ae) (i:Nat) {s:Sl} {l:List α} {j:Int} {x y:α} {v a b':Value} {K:World->Prop} (hi:ae[i]? =some (aj s e 2 f l)) (h0:0<=j) (hx:l[j.toNat]? =some x) (hf: ∀x,(f x).length=2) (hfx:f x= [a,b']) (hy:f y= [v,b']) (hv:v.oneCell'=true)
  (hK: ∀w',Hp S w0 w' (ae.set i (aj s e 2 f (l.set j.toNat y)))->K w'):Ix s.a s.len j 2 fun a=>St a v w K:=by
 obtain⟨O,hO,back⟩:=h.step hi rfl;refine cq.ix hf hO h0 hx fun b off c ho hb fm ma dM=>?_;refine Go.Den.st hb (by omega) hv fun w' j7 Dt _=>hK w' (back (t':=aj s e 2 f (l.set j.toNat y)) (O':=O) (by rw [ho];exact Dt) (dM w' y ?_) (fun k hk=>.inl hk) rfl);have c1:=ma 1 (by omega);rw [hfx] at c1;simp only [alP,alo] at c1;have e1:c.set off v=c.take off++f y++c.drop (off+2):=by
  apply alM;intro m;rw [hy];have l1:(List.take off c).length=off:=by rw [alv];omega
  simp only [alN,amy,alb,l1,alQ,amF,alU,alZ];by_cases h1:m < off
  ·rw [if_neg (by omega),if_pos (by omega),if_pos h1,if_pos h1]
  ·by_cases h2:m=off
   ·subst h2;rw [if_pos rfl,if_pos (by omega),if_pos (by omega),if_neg (by omega)];simp
   ·by_cases h3:m=off+1
    ·subst h3;rw [if_neg (by omega),if_pos (by omega),if_neg (by omega),c1];simp
    ·rw [if_neg (by omega),if_neg (by omega)];congr 1;omega
 rw [<-e1];exact j7
theorem Hx (h:Hp S w0 w ae) (j:Nat) {u:aa} {b:Sl} {l:List Int} (hj:ae[j]? =some u) (hu:Hp.Reads u b 1 iv l) (hr:eW l) (hl:l.length<=1000000000000) {K:Sl->World->Prop}
  (hK: ∀s w',Hp S w0 w' (ae++ [aj s 207 2 rv (dA l)])->K s w'):SB b w K:=by
 refine OM ?_;unfold f161;have yM:=h.dR j (by rw [hj];rfl) hu;have av:=(ak6.1 hj).1;have h:=h.nil 207 2 rv;obtain⟨inf,q1,q2,q3,q4⟩:=Yo;refine⟨fun out t m w'=> ∃(i:Nat) (R:List (Int×Int)),t=i /\ i<=l.length /\ R.length<=i /\ (∀x∈R,0<=x.1 /\ x.1<=i) /\ (l.drop i).foldl ly R=dA l /\ m=l.length - i /\ Hp S w0 w' (ae++ [aj out 207 2 rv R]),⟨l.length,0,[],rfl,by omega,by simp,by simp,KV l,rfl,h⟩,?_⟩;rintro out t m w2 ⟨i,R,rfl,hi,hRl,hR,se,rfl,h⟩;have lq:=h.len (s:=out) ae.length (by rw [alw];rfl);have eA: ∀t:aa,(ae++ [t])[j]? =some u:=fun t=>by rw [ak9 av];exact hj
 by_cases hli:i < l.length
 ·refine aL (by simp;omega) ?_;have hd:l.drop i=l[i] :: l.drop (i+1):=al0 hli;refine h.fH (k:=.i .i64) (u:=u) (y:=l[i]) (x:=l[i]) j (by rw [eA];rfl) hu (by omega) (by simp [hli]) aB rfl ?_;rw [hd,amQ] at se;generalize l[i]=x at se;have ew:i64.wrap ((out.len:Int) - 1)=(out.len:Int) - 1:=aI (by omega) (by omega);rw [ew]
  rcases List.eq_nil_or_concat R with rfl | ⟨R',⟨n,y⟩,rfl⟩
  ·simp only [amF] at lq;refine⟨fun t w'=>t=false /\ w'=w2,aJ (by simp;omega) ⟨rfl,rfl⟩,?_⟩;rintro t w' ⟨rfl,rfl⟩;refine aJ (by simp) ?_;refine h.cj (c:= [_,_]) ae.length ((1:Int),x) alw ua QX q1 q3 q2 rfl rfl (by simp [Value.oneCell']) (by rw [q4];omega) (by omega) fun s2 w1 h _ _=>?_;rw [cM] at h;exact⟨l.length - (i+1),by omega,i+1,[(1,x)],by rw [aI (by omega) (by omega)];omega,by omega,by simp,by simp;omega,se,rfl,h⟩
  ·simp only [List.concat_eq_append] at*;simp only [alb,alQ,amF] at lq hRl;have eL:(R'++ [(n,y)])[((out.len:Int) - 1).toNat]? =some (n,y):=by
    rw [ak8 (by omega),show ((out.len:Int) - 1).toNat - R'.length=0 by omega];rfl
   obtain⟨n0,n1⟩:=hR (n,y) (by simp);dsimp only at n0 n1;refine⟨fun t w'=>t=(y ==x) /\ w'=w2,?_,?_⟩
   ·refine aL (by simp;omega) ?_;refine h.rf ae.length (by rw [alw];rfl) (by omega) eL ua fun a hc=>?_;exact jB (k:=.i .i64) (x:=y) (hc 1 (by omega)) rfl ⟨rfl,rfl⟩
   ·rintro t w' ⟨rfl,rfl⟩;by_cases QY:y=x
    ·subst QY;refine aL (by simp) ?_;refine h.rf ae.length (by rw [alw];rfl) (by omega) eL ua fun a hc=>?_;refine dG (k:=.i .u64) (x:=n) (hc 0 (by omega)) rfl ?_;have ew2:u64.wrap (n+1)=n+1:=by rw [rh];omega
     rw [ew2];refine KX h ae.length (y:=(n+1,y)) alw (by omega) eL ua rfl rfl rfl fun w1 h=>?_;rw [cM] at h;have es:(R'++ [(n,y)]).set ((out.len:Int) - 1).toNat (n+1,y)=R'++ [(n+1,y)]:=by
      rw [alj _ _ (by omega),show ((out.len:Int) - 1).toNat - R'.length=0 by omega];rfl
     rw [es] at h;rw [xJ] at se;refine⟨l.length - (i+1),by omega,i+1,_,by rw [aI (by omega) (by omega)];omega,by omega,by simp;omega,?_,se,rfl,h⟩;intro z hz
     rcases alg.1 hz with hz | hz
     ·have:=hR z (by simp [hz]);omega
     ·simp only [ali] at hz;subst hz;dsimp only;omega
    ·refine aJ (by simpa using QY) ?_;refine h.cj (c:= [_,_]) ae.length ((1:Int),x) alw ua QX q1 q3 q2 rfl rfl (by simp [Value.oneCell']) (by rw [q4];omega) (by omega) fun s2 w1 h _ _=>?_;rw [cM] at h;rw [xK _ _ QY] at se;refine⟨l.length - (i+1),by omega,i+1,_,by rw [aI (by omega) (by omega)];omega,by omega,by simp;omega,?_,se,rfl,h⟩;intro z hz
     rcases alg.1 hz with hz | hz
     ·have:=hR z hz;omega
     ·simp only [ali] at hz;subst hz;dsimp only;omega
 ·refine aJ (by simp;omega) ?_;rw [amb (by omega),List.foldl_nil] at se;subst se;exact hK out _ h
end
section
variable {S:List Nat} {w0 w:World} {ae:List aa}
theorem oQ {n:Int} {K:Int->World->Prop} (h1: -9223372036854775808<=n) (h2:n<=9223372036854775807) (hK:K (gL n) w):GH n w K:=by
 refine FC ?_;unfold f102;refine⟨by omega,by omega,?_⟩;rw [zF h1 h2];exact hK
theorem AK (h:Hp S w0 w ae) (i j:Nat) (iZ:i≠j) {u:aa} {b v:Sl} {pre l:List Int} (hi:ae[i]? =some (tB b pre)) (hj:ae[j]? =some u) (hu:Hp.Reads u v 1 iv l) (hr:eW l) (hl:l.length<=1000000000000) (hp:pre.length<=10000000000000) {form:Int} (hf:form=0 \/ form=1 \/ form=2) {K:Sl->World->Prop}
  (hK: ∀s w',Hp S w0 w' (ae.set i (tB s (pre++cw form l)))->K s w'):Sp form b v w K:=by
 refine Ow ?_;unfold f143;have gJ:=h.dR j (by rw [hj];rfl) hu;have jD:=(ak6.1 hi).1;have eA: ∀t:aa,(ae.set i t)[j]? =some u:=fun t=>by rw [alC iZ];exact hj
 have hY: ∀t:aa,(ae.set i t)[i]? =some t:=fun t=>by simp [jD]
 rcases hf with rfl | rfl | rfl
 ·refine aL rfl ?_;refine⟨fun b2 t m w'=> ∃(k:Nat) (cur:List Int),t=k /\ k<=l.length /\ cur++bV (l.drop k)=pre++bV l /\ cur.length<=pre.length+10*k /\ m=l.length - k /\ Hp S w0 w' (ae.set i (tB b2 cur)),⟨l.length,0,pre,rfl,by omega,rfl,by omega,rfl,by rw [Hp.bN hi];exact h⟩,?_⟩;rintro b2 t m w2 ⟨k,cur,rfl,hk,hc,vy,rfl,h⟩;by_cases av:k < l.length
  ·refine aL (by simp;omega) ?_;have hd:l.drop k=l[k] :: l.drop (k+1):=al0 av;have hx:=hr l[k] (alz av);refine h.fH (k:=.i .i64) (u:=u) (y:=l[k]) (x:=l[k]) j (by rw [eA];rfl) hu (by omega) (by simp [av]) aB rfl ?_;rw [hd] at hc;generalize l[k]=x at hc hx;refine oQ hx.1 hx.2 ?_;have hz:=jX hx.1 hx.2;refine kF h i (hY _) hz.1 hz.2 (by omega) fun s w1 h=>?_;rw [al2] at h;have:=bx (gL x);refine⟨l.length - (k+1),by omega,k+1,_,by rw [aI (by omega) (by omega)];omega,by omega,?_,by simp only [alb];omega,rfl,h⟩;rw [<-hc];simp [bV]
  ·refine aJ (by simp;omega) ?_;rw [amb (by omega)] at hc;have hc:cur=pre++bV l:=by simpa [bV] using hc
   rw [hc] at h;exact hK b2 _ h
 ·refine aJ (by simp) ?_;refine aL rfl ?_;refine⟨fun b2 last t m w'=> ∃(k:Nat) (cur:List Int),t=k /\ k<=l.length /\ cur++mn last (l.drop k)=pre++mn 0 l /\ cur.length<=pre.length+10*k /\ m=l.length - k /\ Hp S w0 w' (ae.set i (tB b2 cur)),⟨l.length,0,pre,rfl,by omega,rfl,by omega,rfl,by rw [Hp.bN hi];exact h⟩,?_⟩;rintro b2 last t m w2 ⟨k,cur,rfl,hk,hc,vy,rfl,h⟩;by_cases av:k < l.length
  ·refine aL (by simp;omega) ?_;have hd:l.drop k=l[k] :: l.drop (k+1):=al0 av;refine h.fH (k:=.i .i64) (u:=u) (y:=l[k]) (x:=l[k]) j (by rw [eA];rfl) hu (by omega) (by simp [av]) aB rfl ?_;rw [hd,mn] at hc;generalize l[k]=x at hc;have Gb:=wP (x - last);have qp:=wQ (x - last);generalize i64.wrap (x - last)=y at hc Gb qp ⊢;refine oQ Gb qp ?_;have hz:=jX Gb qp;refine kF h i (hY _) hz.1 hz.2 (by omega) fun s w1 h=>?_;rw [al2] at h;have:=bx (gL y);refine⟨l.length - (k+1),by omega,k+1,_,by rw [aI (by omega) (by omega)];omega,by omega,?_,by simp only [alb];omega,rfl,h⟩;rw [<-hc,ale]
  ·refine aJ (by simp;omega) ?_;rw [amb (by omega),mn,alh] at hc;rw [hc] at h;exact hK b2 _ h
 ·refine aJ (by simp) ?_;refine aJ (by simp) ?_;refine Hx h j hj hu hr hl fun all w1 h=>?_;have ig:=h.len (s:=all) ae.length (by rw [alw];rfl);have eT:=pP l;have hrm:=oP none l;have ew:u64.wrap (all.len:Int)=((dA l).length:Int):=by rw [rh];omega
  rw [ew];refine kF h i (by rw [ak9 jD];exact hi) (by omega) (by omega) (by omega) fun b6 w1 h=>?_;rw [amc _ _ jD] at h;have si:=bx (dA l).length;have hKs: ∀s w',Hp S w0 w' (ae.set i (tB s (pre++bu (dA l).length++(dA l).flatMap kG)))->K s w':=fun s w' h=>hK s w' (by
   have e:cw 2 l=Hu l:=rfl;rw [e,Hu,<-ale];exact h)
  change ∀y∈dA l,_ at hrm
  generalize dA l=R at ig eT hrm si h hKs ⊢;have hR: ∀y∈R,0<=y.1 /\ y.1 < 18446744073709551616 /\ -9223372036854775808<=y.2 /\ y.2<=9223372036854775807:=fun y hy=>by
   obtain⟨a1,a2,a3⟩:=hrm y hy;have:=hr _ a3;omega
  refine⟨fun b7 t m w'=> ∃(k:Nat) (cur:List Int),t=k /\ k<=R.length /\ cur++(R.drop k).flatMap kG=pre++bu R.length++R.flatMap kG /\ cur.length<=pre.length+10+20*k /\ m=R.length - k /\ Hp S w0 w' (ae.set i (tB b7 cur)++ [aj all 207 2 rv R]),⟨R.length,0,_,rfl,by omega,rfl,by simp;omega,rfl,h⟩,?_⟩;rintro b7 t m w2 ⟨k,cur,rfl,hk,hc,vy,rfl,h⟩;have fB:(ae.set i (tB b7 cur)).length=ae.length:=by simp
  by_cases av:k < R.length
  ·refine aL (by simp;omega) ?_;have hd:R.drop k=R[k] :: R.drop (k+1):=al0 av;have hy:=hR R[k] (alz av);have eL:R[((k:Int)).toNat]? =some R[k]:=by simp [av]
   rw [hd] at hc;generalize R[k]=y at hc hy eL;refine h.rf ae.length (by rw [ak8 (by omega),fB,alK];rfl) (by omega) eL ua fun a ha=>?_;refine dG (k:=.i .u64) (x:=y.1) (ha 0 (by omega)) rfl ?_;refine jB (k:=.i .i64) (x:=y.2) (ha 1 (by omega)) rfl ?_;have e1: ∀t:aa,(ae.set i (tB b7 cur)++ [aj all 207 2 rv R]++ [t])[ae.length+1]? =some t:=fun t=>by
    rw [ak8 (by simp),alb,fB];simp
   have Yp: ∀t t':aa,(ae.set i (tB b7 cur)++ [aj all 207 2 rv R]++ [t]).set (ae.length+1) t'=ae.set i (tB b7 cur)++ [aj all 207 2 rv R]++ [t']:=fun t t'=>by
    rw [alj _ _ (by simp),alb,fB];simp
   refine h.nw (c:= [_,_]) fun r3 w1 h=>?_;refine h.gz (ae.length+1) (e1 _) (by simp) rfl fun w1 h=>?_;rw [Yp] at h;refine h.st (ae.length+1) (e1 _) (by simp) rfl fun w1 h=>?_;rw [Yp] at h;refine h.dr fun w1 h=>?_;refine h.bE (k:=.i .u64) (x:=y.1) (ae.length+1) (by rw [e1];rfl) rfl ?_;refine h.ld (x:=y.2) (ae.length+1) (by rw [e1];rfl) rfl ?_;have hii: ∀t t' OQ:aa,(ae.set i t++ [t']++ [OQ])[i]? =some t:=fun t t' OQ=>by
    rw [ale,ak9 (by simp;omega)];exact hY t
   have hss: ∀t t' OQ q:aa,(ae.set i t++ [t']++ [OQ]).set i q=ae.set i q++ [t']++ [OQ]:=fun t t' OQ q=>by
    rw [ale,amc _ _ (by simp;omega),al2,ale]
   refine kF h i (hii _ _ _) hy.1 hy.2.1 (by omega) fun r4 w1 h=>?_;rw [hss] at h;have e2: ∀q t:aa,(ae.set i q++ [aj all 207 2 rv R]++ [t])[ae.length+1]? =some t:=fun q t=>by
    rw [ak8 (by simp),alb,alV];simp
   refine⟨h.xl (ae.length+1) (by rw [e2];rfl) rfl,?_⟩;refine oQ hy.2.2.1 hy.2.2.2 ?_;have hz:=jX hy.2.2.1 hy.2.2.2;have:=bx y.1;refine kF h i (hii _ _ _) hz.1 hz.2 (by simp only [alb];omega) fun b8 w1 h=>?_;rw [hss] at h;have:=bx (gL y.2);refine⟨R.length - (k+1),by omega,k+1,_,by rw [aI (by omega) (by omega)];omega,by omega,?_,by simp only [alb];omega,rfl,h.front⟩;rw [<-hc];simp [kG]
  ·refine aJ (by simp;omega) ?_;rw [amb (by omega),an0,alh] at hc;rw [hc] at h;exact hKs b7 _ h.front
theorem xL (h:Hp S w0 w ae) (i i' j:Nat) {u:aa} {bh bl:Nat} {head v:Sl} {hd:List Int} {l:List Int} {t1 t2:TypeId} {ih:Nat} {uh:aa} (hi:(ae[i]?).map aa.holds=some (af bh t1 [.slice head.a head.len head.cap]).holds) (hY:(ae[i']?).map aa.holds=some (af bl t2 [.slice v.a v.len v.cap]).holds)
  (hih:ae[ih]? =some uh) (huh:Hp.Reads uh head 1 ky hd) (hj:ae[j]? =some u) (hu:Hp.Reads u v 1 iv l) (hr:eW l) (hl:l.length<=1000000000000) (hp:hd.length<=1000000000000) {form:Int} (hf:form=0 \/ form=1 \/ form=2) {K:Sl->World->Prop}
  (hK: ∀s w',Hp S w0 w' (ae++ [tB s (hd++form :: cw form l)])->K s w'):So form (some ⟨bh,0,none⟩) (some ⟨bl,0,none⟩) w K:=by
 refine Ov ?_;unfold f142;have gQ:=(ak6.1 hj).1;have adZ:=(ak6.1 hih).1;have Yq:i' < ae.length:=by
  refine anY fun hle=>?_;rw [alE hle] at hY
  cases hY
 obtain⟨inf,q1,q2,q3,q4⟩:=AJ;refine h.dr fun w1 h=>?_;refine aS ?_;refine h.bE (k:=.sl) (x:=head) i hi rfl ?_;refine aS ?_;refine h.bE (k:=.sl) (x:=v) i' hY rfl ?_;have h:=h.opt 5 [.int .u8 form];refine h.dB ae.length alw fun y w1 h=>?_;rw [cM] at h;refine Ec ?_;unfold f98;refine np h ih (by rw [ak9 adZ];exact hih) huh (by omega) fun r w1 h=>?_;refine⟨h.vw i' (by rw [ale,ak9 Yq];exact hY) rfl,?_⟩;have e1: ∀t t':aa,(ae++ [t]++ [t'])[ae.length]? =some t:=fun t t'=>by
  rw [ale,ak8 (alA _),alK];rfl
 have Yp: ∀t t' q:aa,(ae++ [t]++ [t']).set ae.length q=ae++ [q]++ [t']:=fun t t' q=>by
  rw [ale,alj _ _ (alA _),alK];simp
 have e2: ∀t t':aa,(ae++ [t]++ [t'])[ae.length+1]? =some t':=fun t t'=>by
  rw [ak8 (by simp)];simp
 have e2': ∀t t' q:aa,(ae++ [t]++ [t']).set (ae.length+1) q=ae++ [t]++ [q]:=fun t t' q=>by
  rw [alj _ _ (by simp)];simp
 have eT:=h.len (s:=r) (ae.length+1) (by rw [e2];rfl);refine h.dB ae.length (e1 _ _) fun y2 w1 h=>?_;rw [Yp] at h;refine h.Ei ae.length (e1 _ _) fun b3 h=>?_;rw [Yp] at h;refine h.app (ae.length+1) ae.length (y:=form) (c:= [.int .u8 form]) (e2 _ _) (by rw [e1];rfl) cE eM q1 q3 q2 rfl rfl (by simp [Value.oneCell']) (by rw [q4];omega) (by omega) fun s w1 h _ _=>?_;rw [e2'] at h;refine⟨h.vw i' (by rw [ale,ak9 Yq];exact hY) rfl,?_⟩;refine AK h (ae.length+1) j (by omega) (e2 _ _) (by rw [ale,ak9 gQ];exact hj) hu hr hl (by simp;omega) hf fun s2 w1 h=>?_;rw [e2'] at h;refine hK s2 w1 ?_;have e3:hd++ [form]++cw form l=hd++form :: cw form l:=by simp
 rw [e3] at h;refine h.JS (List.range ae.length++ [ae.length+1]) ?_ (by simp) ?_
 ·rw [al1];refine⟨anZ,by simp,?_⟩;intro a ha b hb;simp only [al5] at ha;simp only [ali] at hb;omega
 ·intro n m yF;by_cases hn:n < ae.length
  ·rw [ak9 (by simpa using hn),amC hn] at yF
   cases yF
   rw [ale,ak9 hn,ak9 hn]
  ·have Ii:n=ae.length:=by
    have:=(ak6.1 yF).1;simp at this;omega
   subst Ii;rw [ak8 (by simp)] at yF;simp at yF;subst yF;rw [e2,ak8 (alA _),alK];rfl
end
def bk (l:List Int) (k:Nat):List Int:=if k=1 then 0 :: cw 0 l else if k=2 then eI (0 :: cw 0 l) (1 :: cw 1 l) else lx l
theorem Gc (l:List Int) {k:Nat} (h1:1<=k) (h2:k < 3):bk l (k+1)=eI (bk l k) ((k:Int) :: cw k l):=by
 have:k=1 \/ k=2:=by omega
 rcases this with rfl | rfl <;> rfl
section
variable {S:List Nat} {w0 w:World} {ae:List aa}
theorem Ge {α:Type} {f:α->List Value} {n:Nat} {e:TypeId} (h:Hp S w0 w ae) (i:Nat) {s:Sl} {l:List α} (hi:(ae[i]?).map aa.holds=some (aj s e n f l).holds) (hl:l≠ []):s.a≠none:=by
 obtain⟨O,hO⟩:=h.de hi;intro hn
 rcases hO.2 with ⟨_,h0,_⟩ | ⟨b,off,c,h1,_⟩
 ·exact hl (alL (by rw [hO.1,h0]))
 ·rw [hn] at h1;cases h1
theorem Cu (h:Hp S w0 w ae) (j:Nat) {u:aa} {v:Sl} {l:List Int} (hj:ae[j]? =some u) (hu:Hp.Reads u v 1 iv l) (hr:eW l) (hl:l.length<=1000000000000) {K:Sl->World->Prop}
  (hK: ∀s w',Hp S w0 w' (ae++ [tB s (bQ l)])->K s w'):c99 v w K:=by
 refine Ut ?_;unfold f99;have gJ:=h.dR j (by rw [hj];rfl) hu;have h1:=h.My (j:=j) (u:=u) (by rw [hj];rfl);have AL:Hp.Reads u.ro v 1 iv l:=⟨hu.rd⟩;refine h1.nw (c:= [_]) fun l2 w1 h1=>?_;refine h1.bE (k:=.sl) (x:=v) 1 rfl rfl ?_;have h1:=h1.nil 5 1 ky;have ew:u64.wrap (v.len:Int)=(l.length:Int):=by rw [rh];omega
 rw [ew];refine kF h1 2 rfl (by omega) (by omega) (by simp) fun head w1 h1=>?_;rw [alO] at h1;have hhl:=bx l.length;refine h1.nw (c:= [_]) fun rO w1 h1=>?_;refine h1.gz 3 rfl (by simp) rfl fun w1 h1=>?_;simp only [alI,alO,alq,alG] at h1;refine h1.bE (k:=.sl) (x:=v) 1 rfl rfl ?_;by_cases hz:l= []
 ·refine aL (by rw [hz] at gJ;simp at gJ ⊢;omega) ?_;refine h1.bE (k:=.sl) (x:=head) 3 rfl rfl ?_;have e:bQ l=bu l.length:=by unfold bQ;rw [if_pos hz,alh]
  have:=hK head w1;rw [e] at this;exact this (h.r0 rfl (h1.rQ 2 rfl))
 have hlp:1<=l.length:=by cases l with | nil=>exact absurd rfl hz | cons _ _=>simp
 refine aJ (by simp;omega) ?_;have e9:bQ l=bu l.length++lx l:=by unfold bQ;rw [if_neg hz]
 rw [e9] at hK;generalize bu l.length=hd at hhl h1 hK;refine⟨fun kp t m w'=> ∃k:Nat,t=k /\ k<=3 /\ m=3 - k /\ ((k=0 /\ kp=⟨none,0,0⟩ /\ Hp [] w w' [u.ro,af l2 34 [.slice v.a v.len v.cap],tB head hd,af rO 23 [.slice head.a head.len head.cap]]) \/
   (1<=k /\ kp.a≠none /\ Hp [] w w' [u.ro,af l2 34 [.slice v.a v.len v.cap],tB head hd,af rO 23 [.slice head.a head.len head.cap],tB kp (hd++bk l k)])),⟨3,0,rfl,by omega,rfl,.inl ⟨rfl,rfl,h1⟩⟩,?_⟩
 rintro kp t m w2 ⟨k,rfl,hk,rfl,hh⟩;have Yr: ∀{w':World} {K':Sl->World->Prop},So (k:Int) (some ⟨rO,0,none⟩) (some ⟨l2,0,none⟩) w' K'->IC Tryz.prog (.func (.func 142) #[] #[.pointer (some ⟨rO,0,none⟩),.pointer (some ⟨l2,0,none⟩)]) [.int .u8 (k:Int)] [.one .sl] w' K':=
  fun hc=>⟨142,#[],#[.pointer (some ⟨rO,0,none⟩),.pointer (some ⟨l2,0,none⟩)],rfl,⟨_,Tryz.func142,by kernel_rfl⟩,hc⟩
 have ew2:k < 3->u8.wrap ((k:Int)+1)=((k+1:Nat):Int):=fun h=>by rw [w8];omega
 by_cases av:k < 3
 ·refine aL (by simp;omega) ?_;rw [ew2 av];refine Yr ?_
  rcases hh with ⟨rfl,rfl,h1⟩ | ⟨hk1,aW,h1⟩
  ·refine xL h1 3 1 0 rfl rfl (ih:=2) rfl Hp.bZ rfl AL hr hl (by omega) (by omega) fun r w3 h1=>?_;refine aL rfl ?_;have aW:=Ge h1 4 rfl (by simp);exact⟨2,by omega,1,rfl,by omega,rfl,.inr ⟨by omega,aW,h1⟩⟩
  ·refine xL h1 3 1 0 rfl rfl (ih:=2) rfl Hp.bZ rfl AL hr hl (by omega) (by omega) fun r w3 h1=>?_;have yM:=h1.len (s:=kp) 4 rfl;have eT:=h1.len (s:=r) 5 rfl;simp only [alb] at yM eT;have hs:=Gc l hk1 av;have hbn:kp.a.isNone=false:=by cases hb:kp.a with | none=>exact absurd hb aW | some _=>rfl
   rw [hbn];by_cases U6:((k:Int) :: cw k l).length < (bk l k).length
   ·refine aL (by simp only [cond_false,decide_eq_true_eq];omega) ?_;have e:bk l (k+1)=(k:Int) :: cw k l:=by rw [hs];unfold eI;rw [if_pos U6]
    have ad0:=Ge h1 5 rfl (by simp);refine⟨3 - (k+1),by omega,k+1,rfl,by omega,rfl,.inr ⟨by omega,ad0,?_⟩⟩;rw [e];exact h1.Ap 0 1 2 3 5 (by decide) rfl rfl rfl rfl rfl
   ·refine aJ (by simp only [cond_false,decide_eq_true_eq];omega) ?_;have e:bk l (k+1)=bk l k:=by rw [hs];unfold eI;rw [if_neg U6]
    refine⟨3 - (k+1),by omega,k+1,rfl,by omega,rfl,.inr ⟨by omega,aW,?_⟩⟩;rw [e];exact h1.trim 5
 ·refine aJ (by simp;omega) ?_;obtain rfl:k=3:=by omega
  rcases hh with ⟨h,_⟩ | ⟨_,_,h1⟩
  ·omega
  ·exact hK kp _ (h.r0 rfl (h1.rQ 4 rfl))
theorem fu (l:List Int):(bQ l).length<=21+10*l.length:=by
 have:=bx l.length;have:=tZ l;unfold bQ;rw [alb]
 split
 ·simp;omega
 ·omega
theorem u7 (h:Hp S w0 w ae) (j j':Nat) {u u':aa} {b v:Sl} {bs l:List Int} (hj:ae[j]? =some u) (hu:Hp.Reads u b 1 ky bs) (eA:ae[j']? =some u') (AL:Hp.Reads u' v 1 iv l) (hr:eW l) (hl:l.length<=1000000000000) (hb:bs.length<=10000000000000) {K:Sl->World->Prop}
  (hK: ∀s w',Hp S w0 w' (ae++ [tB s (bs++bQ l)])->K s w'):c37 b v w K:=by
 refine Tq ?_;unfold f37;have gQ:=(ak6.1 eA).1;refine Ec ?_;unfold f98;refine np h j hj hu (by omega) fun r w1 h=>?_;refine Cu h j' (by rw [ak9 gQ];exact eA) AL hr hl fun r2 w1 h=>?_;have eT:=h.len (s:=r) ae.length (by rw [ale,ak8 (alA _),alK];rfl);have zG:=h.len (s:=r2) (ae.length+1) (by rw [ak8 (by simp)];simp;rfl);have hrw:=fu l;obtain⟨inf,q1,q2,q3,q4⟩:=AJ;refine h.gq ae.length (ae.length+1) (s:=r) (by rw [ale,ak8 (alA _),alK];rfl) (by rw [ak8 (by simp)];simp;rfl) Hp.bZ cE eM q1 q3 q2 rfl (by simp [Value.oneCell']) (by rw [q4];omega) (by omega) fun s w1 h _ _=>?_;have e:(ae++ [tB r bs]++ [tB r2 (bQ l)]).set ae.length (tB s (bs++bQ l))=ae++ [tB s (bs++bQ l)]++ [tB r2 (bQ l)]:=by
  rw [ale,alj _ _ (alA _),alK];simp
 rw [e] at h;exact hK s w1 h.front
end
end Go.Proofs.YtcccjgmekakabaaGreat.FP
end
