/-
  Part 2 of the proof:WorldPlays of layer 6 is true of the given program for every input that its guards let in (of bulk at most 1048576).
-/
import Derived.Test.YtcccjgmekakabaaGreatPkA
import Derived.Below
import Derived.OpenShut
import Derived.SizedLaws
import Derived.ChangeOld
set_option linter.unusedSimpArgs false
set_option linter.unusedVariables false
set_option maxRecDepth 100000
open Go.IntKind (i64 u64 u8)
section
namespace Go.Den
variable {ds:List Deferred}
def MW (wC:List Obj) (K:List (Option Addr)->World->Prop):Nat->List (Option Addr)->World->Prop
 | 0,ys,w=>K ys w
 | n+1,ys,w=>K ys w /\ ∀i o,wC[i]? =some o->ys[i]? =some none->MW wC K n (ys.set i (some ⟨w.heap.size,0,none⟩)) (w.alloc o)
def vI (fs:List (Obj×Option Addr)) (w:World) (K:Fn (fs.map fun _=>Kd.p) (World->Prop)):Prop:=
 MW (fs.map (·.1)) (fun ys w=>lM (fs.map fun _=>Kd.p) (ys.map Value.pointer) (fun r=>r w) K) fs.length (fs.map (·.2)) w
def td (y:Option Addr) (K:Addr->Prop):Prop:=
 match y with
 | some a=>K a
 | none=>True
structure lJ where
 idx:Nat
 obj:Obj
 val:Addr->Value
 dst:Nat
 y:Option Addr
def IM (P:Program) (op:Op) (ρ:Operand->Option Value) (K:Obj->(Addr->Value)->Prop):Prop:=
 match op with
 | .alloc el=>
  match P.info? el with
  | some i=>match i.zero with
   | some z=>K (.cells z.cells el) fun a=>.pointer (some a)
   | none=>False
  | none=>False
 | .box el x=>
  match ρ x with
  | some v=>sS P el v fun cs=>K (.cells cs.toArray el) fun a=>.pointer (some a)
  | none=>False
 | .buildSlice t len parts=>
  match P.underlying t,sT ρ (parts.toList.map (·.2)) with
  | some (.slice el),some vs=>match P.info? el with
   | some inf=>match inf.zero with
    | some z=>cond (Nat.beq len 0) (match parts.toList with
      | []=>K (.cells #[] el) fun a=>.slice (some a) 0 0
      | _=>False) <| cond (Nat.ble (len*inf.size) 1000000 && Nat.beq z.cells.size inf.size && !Nat.beq (len*inf.size) 0)
      (ur P ((List.range len).map fun i=>(i*inf.size,inf.size,el)) (n8 z.cells.toList len) ((parts.toList.map (·.1)).zip vs) fun cs=>
       K (.cells cs.toArray el) fun a=>.slice (some a) len len) False
    | none=>False
   | none=>False
  | _,_=>False
 | .makeMap t r=>
  match r with
  | none=>K (.map #[] 0) fun a=>.map (some a.block)
  | some x=>match P.underlying t,ρ x with
   | some (.map _ _),some (.int _ _)=>K (.map #[] 0) fun a=>.map (some a.block)
   | _,_=>False
 | .makeSlice t x y=>
  match P.underlying t,ρ x,ρ y with
  | some (.slice el),some (.int _ l),some (.int _ c)=>match P.info? el with
   | some inf=>match inf.zero with
    | some z=>cond (Nat.beq z.cells.size inf.size && !Nat.beq inf.size 0)
      (0<=l /\ l<=c /\ c<=281474976710656 /\ inf.bytes*c<=281474976710656 /\ K (.cells (n8 z.cells.toList c.toNat).toArray el) fun a=>.slice (some a) l.toNat c.toNat) False
    | none=>False
   | none=>False
  | _,_,_=>False
 | _=>False
inductive WN where
 | ro (i:Nat)
 | MR (i:Nat)
 | settle (i:Nat)
def wD (P:Program) (N:Nat) (fl:dV):List Row->Env->List lJ->(Env->List lJ->Prop)->Prop
 | [],l,pend,K=>K l pend
 | x :: r,l,pend,K=>match x.o.guard,x.o.dst with
  | none,some d=>cond (Nat.blt d N && fP fl d)
    (IM P x.o.op (look l fl []) fun obj val=>wD P N fl r ((d,none) :: l) (pend++ [⟨x.idx,obj,val,d,none⟩]) K) False
  | _,_=>False
def yG:List lJ->List Value->List lJ
 | p :: ps,.pointer y :: vs=>{ p with y:=y} :: yG ps vs
 | ps,_=>ps
def ia (mask:Nat) (x:Row):Bool:=Nat.beq (x.eZ ||| mask) mask
def ZT (P:Program) (N:Nat) (fl:dV) (mask:Nat) (wait:List Row) (pend:List lJ) (l:Env) (w:World) (K:List lJ->Env->World->Prop):Prop:=
 wD P N fl (wait.filter (ia mask)) l pend fun l1 iI=>match iI with
  | []=>K [] l1 w
  | p :: ps=>vI ((p :: ps).map fun p=>(p.obj,p.y)) w (curry _ fun cs w1=>K (yG (p :: ps) cs) l1 w1)
def GB (P:Program) (N:Nat) (ops:Array Oper) (split:Bool) (rows:List Row):List WN->Nat->List Row->List lJ->Env->dV->dE->World->(Env->World->Prop)->Prop
 | [],_,wait,pend,l,_,_,w,K=>match wait,pend with
  | [],[]=>K l w
  | _,_=>False
 | .ro i :: r,mask,wait,pend,l,fl,C,w,K=>match rows[i]? with
  | some x=>oh P N ops split (eB x) l fl C w fun l' lO C' w'=>GB P N ops split rows r (mask ||| 2 ^ i) wait pend l' lO C' w' K
  | none=>False
 | .MR i :: r,mask,wait,pend,l,fl,C,w,K=>match rows[i]? with
  | some x=>ZT P N fl mask wait pend l w fun iI l1 w1=>
    oh P N ops split (eB x) l1 fl C w1 fun l' lO C' w'=>GB P N ops split rows r (mask ||| 2 ^ i) (wait.filter fun y=> !ia mask y) iI l' lO C' w' K
  | none=>False
 | .settle i :: r,mask,wait,pend,l,fl,C,w,K=>
  ZT P N fl mask wait pend l w fun iI l1 w1=>match iI.find? fun p=>Nat.beq p.idx i with
   | some p=>td p.y fun ad=>GB P N ops split rows r (mask ||| 2 ^ i) (wait.filter fun y=> !ia mask y) (iI.filter fun p=> !Nat.beq p.idx i) ((p.dst,some (p.val ad)) :: l1) fl C w1 K
   | none=>False
def MX (rows:List Row) (x:Row):Bool:=
 !x.ro && eD x.o.op && x.o.guard.isNone && rows.any fun y=> !y.ro && !Nat.beq y.idx x.idx && !Nat.testBit x.eZ y.idx && !Nat.testBit y.eZ x.idx
def MY (dB:List Nat) (done:Nat) (x:Row):List Nat:=dB.filter fun i=>Nat.testBit x.eZ i && !Nat.testBit done i
def rI (rows:List Row) (dB:List Nat):Nat->Nat->List WN
 | 0,_=> []
 | f+1,done=>
  match rows.find? (fun x=>x.ro && !Nat.testBit done x.idx && ia done x) with
  | some x=>.ro x.idx :: rI rows dB f (done ||| 2 ^ x.idx)
  | none=>match rows.find? (fun x=> !x.ro && !(dB.any fun i=>Nat.beq i x.idx) && !Nat.testBit done x.idx && Nat.beq (x.eZ ||| done ||| (dB.foldl (fun s i=>s ||| 2 ^ i) 0)) (done ||| (dB.foldl (fun s i=>s ||| 2 ^ i) 0))) with
   | some x=>match MY dB done x with
    | i :: _=>.settle i :: rI rows dB f (done ||| 2 ^ i)
    | []=>.MR x.idx :: rI rows dB f (done ||| 2 ^ x.idx)
   | none=>match dB.find? (fun i=> !Nat.testBit done i) with
    | some i=>.settle i :: rI rows dB f (done ||| 2 ^ i)
    | none=> []
section
variable {P:Program} {e:Operand->Value} {ρ:Operand->Option Value}
theorem IN (hρ: ∀x v,ρ x=some v->e x=v) {op:Op} {ty:TypeId} {K:Obj->(Addr->Value)->Prop} (h:IM P op ρ K)
  (dst:Option Tmp) (pos:String) (after:Array Edge) (g:Option (Nat×Bool)):
  ∃obj val,(∀w,(execOp e ⟨dst,op,ty,pos,after,g⟩).run P w=.ok (.value (val ⟨w.heap.size,0,none⟩)) (w.alloc obj)) /\ K obj val:=by
 unfold IM at h
 split at h
 ·rename_i el
  split at h
  ·rename_i i hi
   split at h
   ·rename_i z hz
    refine⟨_,_,fun w=>?_,h⟩;simp [execOp,Instr.alloc,zeroValue,typeInfo,hi,hz,newVar,newRow]
   ·exact h.elim
  ·exact h.elim
 ·rename_i el x
  split at h
  ·rename_i v hv
   have h1:=pg h;refine⟨_,_,fun w=>?_,h1⟩;simp [execOp,Instr.box,newVar,newRow,hρ _ _ hv]
  ·exact h.elim
 ·rename_i t len parts
  split at h
  ·rename_i el vs hu hm
   split at h
   ·rename_i inf hi
    split at h
    ·rename_i z hz
     cases vr:Nat.beq len 0 with
     | true=>
      rw [vr] at h;simp only [cond_true] at h;obtain rfl:=alB vr
      split at h
      ·rename_i hp
       have uv:parts=#[]:=amw (by simpa using hp);subst uv;refine⟨_,_,fun w=>?_,h⟩;have e0:Array.range 0=#[]:=rfl;simp [execOp,Instr.buildSlice,run_underlying hu,sizeOf,typeInfo,hi,Instr.fill,newRow,e0]
      ·exact h.elim
     | false=>
     rw [vr] at h;simp only [cond_false] at h
     cases hb:(Nat.ble (len*inf.size) 1000000 && Nat.beq z.cells.size inf.size && !Nat.beq (len*inf.size) 0) with
     | false=>rw [hb] at h;exact h.elim
     | true=>
      rw [hb] at h;simp only [cond_true] at h;simp only [alD,alS] at hb;obtain⟨⟨n9,gO⟩,rA⟩:=hb;have hle:len*inf.size<=1000000:=ang n9;have dL:z.cells.size=inf.size:=alB gO;have hnz:len*inf.size≠0:=by intro h0;rw [h0] at rA;cases rA
      obtain⟨cs,hc,hK⟩:=rp h;have Ry:=pn (F':=fun i=>some (i*inf.size,inf.size)) (by
       intro i x hx;simp only [alH] at hx;obtain⟨y,hy,rfl⟩:=hx;simp only [alc,alH] at hy;obtain⟨j,hj,rfl⟩:=hy;obtain⟨av,eA⟩:=ak6.1 hj;simp only [List.getElem_range] at eA;subst eA;rfl) hc
      have e1:=k8 hρ hm;have oc:(parts.map fun(i,x)=>(i,e x)).toList=(parts.toList.map (·.1)).zip vs:=by
       rw [<-e1];simp only [anX,amJ];generalize parts.toList=ps
       induction ps with
       | nil=>rfl
       | cons p ps ih=>simp [ih]
      have e9:=Aa (z:=z.cells) len;rw [dL] at e9;refine⟨_,_,fun w=>?_,hK⟩;have h24: ¬(len*inf.size > 2 ^ 24):=by
       have:(2:Nat) ^ 24=16777216:=by decide
       omega
      simp only [execOp,Instr.buildSlice,Sem.run_bind,run_underlying hu,Result.andThen_ok,sizeOf,typeInfo,run_program,hi,Sem.run_pure,if_neg h24,if_neg hnz,zeroValue,hz,dL,e9,oc,Ry,newRow,
       run_newObj,World.alloc_eq,Array.toArray_toList]
    ·exact h.elim
   ·exact h.elim
  ·exact h.elim
 ·rename_i t r
  split at h
  ·refine⟨_,_,fun w=>?_,h⟩;simp [execOp,Instr.makeMap]
  ·rename_i x
   split at h
   ·rename_i k el kk n hu h1
    refine⟨_,_,fun w=>?_,h⟩;simp [execOp,Instr.makeMap,run_underlying hu,hρ _ _ h1,asInt,asIntOf]
   ·exact h.elim
 ·rename_i t x y
  split at h
  ·rename_i el k l k' c hu h1 h2
   split at h
   ·rename_i inf hi
    split at h
    ·rename_i z hz
     cases hb:(Nat.beq z.cells.size inf.size && !Nat.beq inf.size 0) with
     | false=>rw [hb] at h;exact h.elim
     | true=>
      rw [hb] at h;simp only [cond_true] at h;simp only [alD,alS] at hb;obtain⟨c1,c2,c3,c4,hK⟩:=h;refine⟨_,_,fun w=>?_,hK⟩;have:=run_makeSlice (P:=P) (w:=w) (k:=k) (k':=k') hu hi hz (alB hb.1) (by intro h0;rw [h0] at hb;exact absurd hb.2 (by decide)) c1 c2 c3 c4;simp [execOp,hρ _ _ h1,hρ _ _ h2,this]
    ·exact h.elim
   ·exact h.elim
  ·exact h.elim
 ·exact h.elim
theorem IP {wC:List Obj} {K:List (Option Addr)->World->Prop}: ∀{n:Nat} {ys:List (Option Addr)} {w:World},MW wC K n ys w->K ys w
 | 0,_,_,h=>h
 | _+1,_,_,h=>h.1
end
section
variable {P:Program} {N:Nat} {ops:Array Oper}
theorem Bt (hP:A6 P) (hs:Region.noSelect ops=true) {Q:Exit->Act->World->Prop} (hQ: ∀c a w,¬Q (.panic c) a w)
  (as:List Nat) (has:as=hZ ops.toList []) (rows:List Row) (bg:rows=rowsOf P 0 ops.toList as) {x:Row} {i done m:Nat} {C:dE} {a:Act} {w:World} {G:Env->dV->dE->World->Prop}
  (lD:rows[i]? =some x) (fR: ∀j,done.testBit j=true->j < ops.size /\ as.getD j 0 ||| done=done) (vu:x.eZ ||| done=done) (vr:done.testBit x.idx=false) (ys:List Row)
  (sJ: ∀y∈rows,done.testBit y.idx=false->y.idx≠x.idx->y∈ys) (hC: ∀x∈C,dY w x.2 /\ (jI P rows).testBit x.1=true) (bW:Step ds P N ops (eB x) a C w G)
  (ih: ∀{v:Value} {l:Env} {fl:dV} {C':dE} {w':World},(∀x∈C',dY w' x.2 /\ (jI P rows).testBit x.1=true)->bX ds N (a.put x.o.dst v) l->jy (a.put x.o.dst v) fl->G l fl C' w'->
   cL P .any ops as Q C' m (cI ops.size (done ||| 2 ^ x.idx)) (a.put x.o.dst v) w'):
  (x.ro=true->mR P ops x ys=true->cL P .any ops as Q C (m+1) (cI ops.size done) a w) /\
  (x.ro=false->IJ (jI P rows) x ys=true->wpOp P ops Q x.idx (fun a' w'=>Gd P ops as C x.idx w w' /\ cL P .any ops as Q C m ((cI ops.size done).setIfInBounds x.idx true) a' w') a w):=by
  have lh: ∀y∈rowsOf P 0 ops.toList as,ops[y.idx]? =some y.o /\ as[y.idx]? =some y.eZ /\ y.dir=uy y.o.after.toList /\ y.ro=ij P y.o.op /\ y.hd=gT P y.o:=by
   intro y hy;obtain⟨j,h1,h2,h3,h4⟩:=iP hy;rw [aml] at h3;rw [h3];exact⟨by simpa using h1,h2,h4⟩
  obtain⟨h0,WD,WE,Bp,WG⟩:=lh x (by rw [<-bg];exact ala lD);have sZ:as.getD x.idx 0=x.eZ:=by simp [WD]
  have Ab:x.idx < ops.size:=(als.1 h0).1;have jh: ∀j oj,ops[j]? =some oj->as[j]? =some (fc (as.take j) oj.after.toList):=by
   intro j oj hj;have:=jg ops.toList [] j oj (by simpa using hj);rw [has]
   simpa using this
  have uB: ∀j oj,ops[j]? =some oj->as.getD j 0=fc (as.take j) oj.after.toList:=fun j oj hj=>by simp [jh j oj hj]
  have oq:x.idx∈Region.ready .any ops (cI ops.size done):=by
   refine mem_ready.2 ⟨by rw [aQ,if_pos Ab];exact vr,x.o,h0,fun e he lT=>?_⟩;have h2:x.eZ.testBit e.on=true:=by
    rw [<-sZ,uB _ _ h0];exact iN lT _ _ (.inl (by simpa using he))
   have h3:=dd vu h2;rw [aQ,if_pos (fR _ h3).1];exact h3
  have jz: ∀j oj,j≠x.idx->ops[j]? =some oj->done.testBit j=false-> ∃y∈ys,y.idx=j /\ y.o=oj /\ y.eZ=as.getD j 0 /\ y.dir=uy oj.after.toList /\ y.hd=gT P oj:=by
   intro j oj aW hj qj;have dZ:=(als.1 hj).1;have Mp:j < rows.length:=by
    rw [bg,gI P _ _ _ (by rw [has,rG])];simpa using dZ
   obtain⟨y,hy⟩: ∃y,rows[j]? =some y:=⟨_,alf Mp⟩;have dF:y∈rows:=ala hy;have lE:y.idx=j:=by
    rw [bg] at hy;have:=j9 P _ _ _ _ _ hy;omega
   obtain⟨g1,g2,g3,g4,g5⟩:=lh y (by rw [<-bg];exact dF);rw [lE] at g1 g2;have e:y.o=oj:=alm (g1.symm.trans hj);refine⟨y,?_,lE,e,by simp [g2],by rw [g3,e],by rw [g5,e]⟩;exact sJ y dF (by rw [lE];exact qj) (by rw [lE];exact aW)
  -- where a set of bits holds whom an operation waits for
  have through: ∀i oi,ops[i]? =some oi->(as.getD i 0).testBit x.idx=true-> ∃e∈oi.after,Region.binds .any e=true /\ (e.on=x.idx \/ (as.getD e.on 0).testBit x.idx=true):=by
   intro i oi hi hb;rw [uB i oi hi] at hb
   rcases iM _ _ hb with h5 | ⟨e,he,lT,h5⟩
   ·simp at h5
   ·refine⟨e,by simpa using he,lT,h5.imp id fun h6=>?_⟩;have h7:(as.take i).getD e.on 0=as.getD e.on 0 \/ (as.take i).getD e.on 0=0:=by
     simp only [alk,alU]
     split
     ·exact .inl rfl
     ·exact .inr rfl
    rcases h7 with h7 | h7
    ·rw [h7] at h6;exact h6
    ·rw [h7] at h6;simp at h6
  refine⟨fun ji gO=>?_,fun ji RI=>?_⟩
  ·have Ac:ij P x.o.op=true:=Bp ▸ ji;have go: ∀(v:Value) (S:World->Prop) (C':dE),(∀j,j < ops.size->j≠x.idx->done.testBit j=false->(as.getD j 0).testBit x.idx=false-> ∀w w',Gd P ops as C' j w w'->S w->S w')->
     YieldsIf P ops S x.o v a->S w->cL P .any ops as Q C' m (cI ops.size (done ||| 2 ^ x.idx)) (a.put x.o.dst v) w->
     cL P .any ops as Q C' (m+1) (cI ops.size done) a w:=by
    intro v S C' Bq hy hS wA;refine mP (S:=S) (lg as ops.size x.idx) h0 (Region.noSelect_spec hs) (fun c a w hq=>absurd hq (hQ c _ w)) ?_ (by simp [lg]) _ _ _ _ ?_ ?_ ?_ oq hy hS (by rw [iO];exact wA)
    ·intro j hj;obtain⟨h1,oj,h2,h3⟩:=mem_ready.1 hj;have dZ:=(als.1 h2).1;rw [cP,if_pos dZ] at h1;by_cases mQ:j=x.idx
     ·exact mQ
     ·simp only [mQ,decide_false,amY,amI,Bool.not_eq_false'] at h1;obtain⟨e,he,lT,h5⟩:=through j oj h2 h1;have h6:=h3 e he lT;rw [cP] at h6
      split at h6
      ·simp only [alD,alS,decide_eq_false_iff_not] at h6
       rcases h5 with h5 | h5
       ·exact absurd h5 h6.1
       ·rw [h6.2] at h5;cases h5
      ·cases h6
    ·intro j oj hj mQ qj dz;have dZ:=(als.1 hj).1;rw [aQ,if_pos dZ] at qj;obtain⟨y,wB,e1,e2,e3,e4,e5⟩:=jz j oj mQ hj qj;have kV:=eE gO wB;rw [ji] at kV;simp only [alD,al9] at kV
     rcases kV.1 with h1 | h1
     ·rw [e4] at h1
      rcases pw _ _ h1 with h2 | ⟨e,he,lT,h2⟩
      ·simp at h2
      ·exact absurd h2 (dz e (by simpa using he) lT)
     ·rw [e2] at h1;exact h1
    ·intro j hj;rw [aQ] at hj
     split at hj
     ·rename_i dZ
      rw [cP,if_pos dZ];have aW:j≠x.idx:=by intro e;rw [e,vr] at hj;cases hj
      have:(as.getD j 0).testBit x.idx=false:=by
       cases rE:(as.getD j 0).testBit x.idx with
       | false=>rfl
       | true=>
        have:=dd (fR j hj).2 rE;rw [vr] at this;cases this
      simp only [aW,decide_false,amY,amI,alS,this]
     ·cases hj
    ·intro j hj Df;rw [aQ] at hj
     split at hj
     ·rename_i dZ
      rw [cP,if_pos dZ] at Df;simp only [alD,alS,decide_eq_false_iff_not] at Df;exact Bq j dZ Df.1 hj Df.2
     ·cases hj
   rcases bW with ⟨v,l',lO,fp,yD,h1,Br,h2,h3,h4,h5⟩ | ⟨l',lO,h1,h3,h4,h5⟩ | ⟨hn,h1,h2⟩
   ·have WI: ∀y∈C,y∈j8 (eB x) fp C:=fun y hy=>by simp [j8,eB,hy]
    refine fQ WI _ _ _ _ ?_;refine go v (IG P x.o.op fp w) _ ?_ (.inl ⟨h1,h2⟩) ?_ (ih ?_ h3 h4 h5)
    ·intro j dZ mQ qj uC w1 w2 hg aT
     rcases aT with aT | ⟨aT,hx⟩ | ⟨aT,hc⟩
     ·exact .inl aT
     ·have eA:ops[j]? =some ops[j]:=by simp [dZ]
      obtain⟨y,wB,e1,e2,e3,e4,e5⟩:=jz j ops[j] mQ eA qj;have kV:=eE gO wB;rw [ji] at kV;simp only [alD,al9] at kV
      rcases kV.2 with ((h7 | h7) | h7) | h7
      ·exact .inl h7
      ·rw [aT] at h7;cases h7
      ·rw [e3,uC] at h7;cases h7
      ·refine .inr (.inl ⟨aT,hx.trans (hg.1 ?_)⟩);simp only [lB,eA];rw [<-e5];exact h7
     ·refine .inr (.inr ⟨aT,fun z hz=>?_⟩);exact hg.2 (x.idx,z) (by simp [j8,eB,hz]) uC (hc z hz)
    ·unfold IG
     cases hb:cQ P x.o.op with
     | true=>exact .inr (.inr ⟨rfl,Br⟩)
     | false=>exact .inr (.inl ⟨rfl,Ext.refl w⟩)
    ·intro y hy;simp only [j8,eB,alg,alu] at hy
     rcases hy with ⟨z,hz,rfl⟩ | hy
     ·exact⟨Br z hz,lk (ala lD) (by
       cases p5:cQ P x.o.op with
       | true=>rfl
       | false=>rw [yD p5] at hz;cases hz)⟩
     ·exact hC y hy
   ·exact go undef (fun _=>True) C (fun _ _ _ _ _ _ _ _ _=>trivial) (.inr ⟨h1,rfl⟩) trivial (ih hC h3 h4 h5)
   ·have lC:ij P x.o.op=false:=hn;rw [Ac] at lC;cases lC
  ·have Ac:ij P x.o.op=false:=Bp ▸ ji;unfold wpOp;simp only [h0];rw [iO]
   rcases bW with ⟨v,l',lO,fp,yD,h1,Br,h2,h3,h4,h5⟩ | ⟨l',lO,h1,h3,h4,h5⟩ | ⟨hn,h1,h2⟩
   ·have uD:Region.wanted x.o (yielded ops a.tmps)=true:=h1;rw [if_pos uD];refine .inl ?_;unfold Oper.wp;have Mo:(execOp a.eval x.o).run P w=.ok (.value v) w:=h2 w (by
     unfold IG
     cases hb:cQ P (eB x).o.op with
     | true=>exact .inr (.inr ⟨rfl,Br⟩)
     | false=>exact .inr (.inl ⟨rfl,Ext.refl w⟩))
    rw [Mo];refine⟨Gd.refl,?_⟩;refine fQ (C':=j8 (eB x) fp C) (fun y hy=>by simp [j8,eB,hy]) _ _ _ _ (ih ?_ h3 h4 h5);intro y hy;simp only [j8,eB,alg,alu] at hy
    rcases hy with ⟨z,hz,rfl⟩ | hy
    ·exact⟨Br z hz,lk (ala lD) (by
      cases p5:cQ P x.o.op with
      | true=>rfl
      | false=>rw [yD p5] at hz;cases hz)⟩
    ·exact hC y hy
   ·have uD:Region.wanted x.o (yielded ops a.tmps)=false:=h1;rw [if_neg (by rw [uD];simp)];exact⟨Gd.refl,ih hC h3 h4 h5⟩
   ·have uD:Region.wanted x.o (yielded ops a.tmps)=true:=h1;rw [if_pos uD];refine .inl (Oper.wp_mono ?_ (h2 Q));rintro a' w' ⟨nY,Qj,v,l',lO,rfl,h3,h4,h5⟩;have ik: ∀y∈C,(as.getD x.idx 0).testBit y.1=false->dY w' y.2:=by
     intro y hy hb
     cases ig:eD x.o.op with
     | true=>exact(nY ig).hold (hC y hy).1
     | false=>
      have:=Qj ig;simp only [wv,eB] at this;exact this y hy (by rw [<-sZ];exact hb)
    refine⟨⟨fun hh=>nY ?_,fun y hy hb _=>ik y hy hb⟩,?_⟩
    ·have:gT P x.o=true:=by simpa [lB,h0] using hh
     have lC:ij P x.o.op=false:=hn;simp only [gT,lC,anW] at this;exact this
    ·refine lf (C2:=oe (eB x) C) trivial _ _ _ _ ?_ (ih ?_ h3 h4 h5)
     ·intro y hy
      cases hb:x.eZ.testBit y.1 with
      | false=>exact .inl (by simp [oe,eB,hy,hb])
      | true=>
       refine .inr fun i hi=>?_;rw [aQ] at hi
       split at hi
       ·rename_i pZ
        simp only [alY,anj,al7,decide_eq_false_iff_not] at hi;have hY:ops[i]? =some ops[i]:=by simp [pZ]
        obtain⟨z,hz,e1,e2,e3,e4,e5⟩:=jz i ops[i] (fun e=>hi.2 e.symm) hY hi.1;have kV:=ame.1 RI z hz;simp only [al9] at kV
        rcases kV with kV | kV
        ·left;simp only [lB,hY];rw [<-e5];exact kV
        ·right;rw [<-e3];exact dd (alB kV) (by rw [Nat.testBit_and,hb,(hC y hy).2];rfl)
       ·cases hi
     ·intro y hy;simp only [oe,eB,ama,alS] at hy;exact⟨ik y hy.1 (by rw [sZ];exact hy.2),(hC y hy.1).2⟩
end
def bitsOf (is:List Nat):Nat:=is.foldl (fun s i=>s ||| 2 ^ i) 0
def iQ (rows:List Row) (dB:List Nat) (mask:Nat):List Nat:=dB.filter fun i=> !Nat.testBit mask i && match rows[i]? with
 | some y=>ia mask y
 | none=>false
def has (is:List Nat) (j:Nat):Bool:=is.any fun i=>Nat.beq i j
def IQ (rows:List Row) (pm:List Nat) (mask on:Nat) (e:Option Nat):Bool:=
 rows.all fun y=>Nat.testBit mask y.idx || has pm y.idx || (match e with
  | some i=>Nat.beq i y.idx
  | none=>false) || !ia on y
def jJ (P:Program) (ops:Array Oper) (rows:List Row) (dB:List Nat):List WN->Nat->Bool
 | [],mask=>(List.range ops.size).all fun i=>Nat.testBit mask i
 | .ro i :: r,mask=>match rows[i]? with
  | some x=>x.ro && ia mask x && !Nat.testBit mask i && mR P ops x (rest rows mask i) && jJ P ops rows dB r (mask ||| 2 ^ i)
  | none=>false
 | .MR i :: r,mask=>match rows[i]? with
  | some x=> !x.ro && !has dB i && ia mask x && !Nat.testBit mask i && IJ (jI P rows) x (rest rows mask i) &&
    IQ rows (iQ rows dB mask) mask (mask ||| bitsOf (iQ rows dB mask)) (some i) && jJ P ops rows dB r (mask ||| 2 ^ i)
  | none=>false
 | .settle i :: r,mask=>has (iQ rows dB mask) i &&
   IQ rows (iQ rows dB mask) mask (mask ||| bitsOf ((iQ rows dB mask).filter fun j=> !Nat.beq j i)) none && jJ P ops rows dB r (mask ||| 2 ^ i)
def ka (ops:Array Oper) (rows:List Row) (dB:List Nat):Bool:=
 dB.all fun i=>match rows[i]? with
  | some x=>eD x.o.op && !x.ro && rows.all fun y=>Nat.beq y.idx i || ((match x.o.dst,y.o.dst with
    | some d,some d'=> !Nat.beq d d'
    | _,_=>true) && (Nat.testBit x.eZ y.idx || match y.o.dst with
    | some d=> !(x.o.looksAt ops).contains d
    | none=>true) && (match y.o.guard,x.o.dst with
    | some (j,_),some d=>(match (ops[j]?).bind (·.dst) with
     | some d'=> !Nat.beq d d'
     | none=>true)
    | _,_=>true))
  | none=>false
def ot (n D:Nat):Nat:=((List.range n).filter fun j=> !Nat.testBit D j).length
theorem filter_lt {l:List Nat} {p q:Nat->Bool} {i:Nat} (hi:i∈l) (hp:p i=true) (hq:q i=false) (h: ∀j,q j=true->p j=true):(l.filter q).length+1<=(l.filter p).length:=by
 induction l with
 | nil=>cases hi
 | cons x l ih=>
  have hle:(l.filter q).length<=(l.filter p).length:=by
   clear ih hi
   induction l with
   | nil=>simp
   | cons y l ih=>
    simp only [ann]
    cases ZU:q y with
    | true=>rw [h y ZU];simpa using ih
    | false=>cases ZV:p y <;> simp <;> omega
  rcases alF.1 hi with rfl | hi
  ·simp only [ann,hp,hq,if_true,amk,if_false,alQ];omega
  ·have:=ih hi;simp only [ann]
   cases hqx:q x with
   | true=>rw [h x hqx];simp;omega
   | false=>cases wE:p x <;> simp <;> omega
theorem vJ {n D i:Nat} (hi:i < n) (h:D.testBit i=false):ot n (D ||| 2 ^ i)+1<=ot n D:=by
 refine filter_lt (al5.2 hi) (by simp [h]) (by simp [alY]) ?_;intro j hj;simp only [alY,Bool.not_or,alD] at hj;exact hj.1
theorem lU {N:Nat} {fl:dV} {dst:Option Nat} {l:Env} {v:Value} {K R:Env->Prop} (hR: ∀l',(∀t,dst≠some t->gt l' t=gt l t)->R l'):
  wu N fl dst l v K=wu N fl dst l v (fun l'=>K l' /\ R l'):=by
 cases dst with
 | none=>simp [wu,hR l (fun _ _=>rfl)]
 | some d=>
  simp only [wu];congr 1;apply propext;refine⟨fun h=>⟨h,hR _ fun t ht=>?_⟩,fun h=>h.1⟩;simp only [gt]
  cases hb:Nat.beq d t with
  | false=>rfl
  | true=>exact absurd (by rw [alB hb]) ht
theorem qE {P:Program} {N:Nat} {it:It} {l:Env} {fl:dV} {C:dE} {w:World} {K:Env->dE->World->Prop} {R:Env->Prop} (hR: ∀l',(∀t,it.o.dst≠some t->gt l' t=gt l t)->R l'):
  uw P N it l fl C w K=uw P N it l fl C w (fun l' C' w'=>K l' C' w' /\ R l'):=by
 unfold uw;congr 1
 ·congr 1
  funext v fp
  congr 1
  funext v
  rw [lU hR]
 ·congr 1
  funext v w'
  congr 1;rw [lU hR]
def Kept (ops:Array Oper) (o:Oper) (l:Env) (fl:dV) (l':Env) (lO:dV):Prop:=
 ∀t,o.dst≠some t->(∀j want,o.guard=some (j,want)->(ops[j]?).bind (·.dst)≠some t)->gt l' t=gt l t /\ (fP fl t=true->fP lO t=true)
theorem vK {l:Env} {g t:Nat} {v:Option Value} (h:g≠t):gt ((g,v) :: l) t=gt l t:=by
 simp only [gt]
 cases hb:Nat.beq g t with
 | false=>rfl
 | true=>exact absurd (alB hb) h
theorem wF {fl:dV} {t g:Nat} {G:List (Nat×Bool)} (h:fP fl t=true) (hg:g8 fl g=some G): ∀x∈G,x.1≠t:=by
 induction fl with
 | nil=>simp [g8] at hg
 | cons y fl ih=>
  obtain⟨d,G',v⟩:=y;simp only [g8] at hg;have bz:=yX h
  cases hb:Nat.beq d g with
  | true=>
   rw [hb] at hg;simp only [cond_true,ald] at hg;subst hg;exact(bz (d,G',v) (by simp)).2
  | false=>
   rw [hb] at hg;refine ih ?_ hg;unfold fP at h ⊢;simp only [List.all_cons,alD] at h;exact h.2
theorem wG {P:Program} {N:Nat} {ops:Array Oper} {split:Bool} {it:It} {l:Env} {fl:dV} {C:dE} {w:World} {G:Env->dV->dE->World->Prop} (h:oh P N ops split it l fl C w G):
  oh P N ops split it l fl C w (fun l' lO C' w'=>G l' lO C' w' /\ Kept ops it.o l fl l' lO):=by
 have base: ∀l',(∀t,it.o.dst≠some t->gt l' t=gt l t)->Kept ops it.o l fl l' fl:=fun l' h t h1 _=>⟨h t h1,id⟩;unfold oh at h ⊢
 split at h
 ·rename_i hg
  rw [qE base] at h;simp only [hg];exact h
 ·rename_i j want hg
  simp only [hg]
  split at h
  ·exact h.elim
  ·rename_i g MS
   have Fx: ∀(b:Bool) l',(∀t,it.o.dst≠some t->gt l' t=gt ((g,some (.bool b)) :: l) t)->Kept ops it.o l fl l' fl:=fun b l' h t h1 h2=>
    ⟨(h t h1).trans (vK (by intro e;subst e;exact h2 j want hg MS)),id⟩
   split at h
   ·split at h
    ·rename_i c hc
     split at h
     ·rename_i RC
      rw [if_pos RC]
      cases want with
      | true=>simp only [cond_true] at h ⊢;rw [qE (Fx true)] at h;exact h
      | false=>simp only [cond_false] at h ⊢;rw [lU (Fx true)] at h;exact h
     ·rename_i RC
      rw [if_neg RC]
      cases want with
      | true=>simp only [cond_true] at h ⊢;rw [lU (Fx false)] at h;exact h
      | false=>simp only [cond_false] at h ⊢;rw [qE (Fx false)] at h;exact h
    ·rename_i hc
     rw [lU base] at h;exact h
    ·exact h.elim
   ·split at h
    ·exact h.elim
    ·rename_i G' hG
     split at h
     ·rename_i v d hv hd
      cases hb:(Nat.blt d N && fP fl d && ((g,want) :: G').all fun x=> !(Nat.beq x.1 d)) with
      | false=>rw [hb] at h;exact h.elim
      | true=>
       rw [hb] at h;simp only [cond_true] at h ⊢;refine⟨h,fun t h1 h2=>⟨vK (by intro e;subst e;exact h1 hd),fun hf=>?_⟩⟩;have WO:g≠t:=by intro e;subst e;exact h2 j want hg MS
       have hdt:d≠t:=by intro e;subst e;exact h1 hd
       have hGt: ∀x∈G',x.1≠t:=by
        unfold flagsOf at hG
        split at hG
        ·simp only [ald] at hG;subst hG;simp
        ·exact wF hf hG
        ·cases hG
       unfold fP at hf ⊢;simp only [List.all_cons,hf,Bool.and_true];have nb: ∀{x y:Nat},x≠y->Nat.beq x y=false:=fun{x y} aW=>by
        cases hb:Nat.beq x y with
        | false=>rfl
        | true=>exact absurd (alB hb) aW
       simp only [nb hdt,nb WO,amY,amI];exact ame.2 fun x hx=>by rw [nb (hGt x hx)];rfl
     ·exact h.elim
section
variable {P:Program} {N:Nat} {ops:Array Oper}
def IS (P:Program) (rows:List Row) (dB:List Nat) (mask:Nat) (a:Act) (p:lJ):Prop:=
 ∃x,rows[p.idx]? =some x /\ x.o.dst=some p.dst /\ x.o.guard=none /\ has dB p.idx=true /\ ia mask x=true /\
  (p.y=none-> ∀w,(execOp a.eval x.o).run P w=.ok (.value (p.val ⟨w.heap.size,0,none⟩)) (w.alloc p.obj)) /\ (∀ad,p.y=some ad->a.tmps[p.dst]? =some (p.val ad))
structure za (ds:List Deferred) (P:Program) (N:Nat) (ops:Array Oper) (as:List Nat) (rows:List Row) (dB:List Nat) (a0:Act) (mask D:Nat) (wait:List Row) (pend:List lJ) (l:Env) (fl:dV) (C:dE) (w:World) (a:Act):Prop where
 env:bX ds N a l
 GC:jy a fl
 cells: ∀x∈C,dY w x.2 /\ (jI P rows).testBit x.1=true
 uG: ∀p∈pend,IS P rows dB mask a p
 free: ∀p∈pend,(∀v,gt l p.dst≠some (some v)) /\ fP fl p.dst=true /\ p.dst < N
 Fy:(pend.map (·.idx)).Nodup
 pm: ∀p∈pend,mask.testBit p.idx=false
 sub: ∀j,D.testBit j=true↔mask.testBit j=true \/ ∃p∈pend,p.idx=j /\ p.y≠none
 dn: ∀j,D.testBit j=true->j < ops.size /\ as.getD j 0 ||| D=D
 wt: ∀y∈wait,rows[y.idx]? =some y /\ has dB y.idx=true /\ mask.testBit y.idx=false /\ ∀p∈pend,p.idx≠y.idx
 IT:(wait.map (·.idx)).Nodup
 all: ∀i,has dB i=true->mask.testBit i=false->i < rows.length->(∃p∈pend,p.idx=i) \/ ∃y∈wait,y.idx=i
 off:lQ (dstsOf ops.toList) a0 a
theorem bX.RJ {a:Act} {l:Env} {d:Nat} (h:bX ds N a l):bX ds N a ((d,none) :: l):=by
 refine⟨h.size,h.defers,fun t u hu=>?_⟩;simp only [gt] at hu
 cases hb:Nat.beq d t with
 | true=>rw [hb] at hu;simp at hu
 | false=>rw [hb] at hu;exact h.De t u hu
theorem Dz {as:List Nat} {rows:List Row} {dB:List Nat} {a0:Act} {mask D:Nat} {fl:dV} {C:dE} {w:World} {a:Act} {K:Env->List lJ->Prop}:
  ∀(on off:List Row) (pend:List lJ) (l:Env),(∀y∈on,ia mask y=true)->za ds P N ops as rows dB a0 mask D (on++off) pend l fl C w a->wD P N fl on l pend K->
   ∃l1 more,K l1 (pend++more) /\ za ds P N ops as rows dB a0 mask D off (pend++more) l1 fl C w a /\ (∀y∈on,∃p∈pend++more,p.idx=y.idx)
 | [],off,pend,l,_,bW,h=>⟨l,[],by simpa [wD] using h,by simpa using bW,by simp⟩
 | x :: on,off,pend,l,VQ,bW,h=>by
  simp only [wD] at h
  split at h
  ·rename_i d hg hd
   cases hb:(Nat.blt d N && fP fl d) with
   | false=>rw [hb] at h;exact h.elim
   | true=>
    rw [hb] at h;simp only [cond_true] at h;simp only [alD] at hb;obtain⟨⟨dst,op,ty,pos,after,guard⟩,idx,eZ,dir,ro,hdd⟩:=x;simp only at hg hd;subst hd;subst hg;obtain⟨obj,val,DA,h⟩:=IN (ty:=ty) (fun x v hx=>pq bW.env bW.GC lS x v hx) h (some d) pos after none;have hw:=bW.wt _ (amN _ List.mem_cons_self);have bJ:=bW.IT;simp only [alI,alR,al6] at bJ;have eQ:za ds P N ops as rows dB a0 mask D (on++off) (pend++ [⟨idx,obj,val,d,none⟩]) ((d,none) :: l) fl C w a:=by
     refine{ env:=bW.env.RJ,GC:=bW.GC,cells:=bW.cells,uG:=?_,free:=?_,Fy:=?_,pm:=?_,sub:=?_,dn:=bW.dn,wt:=?_,IT:=bJ.2,all:=?_,off:=bW.off}
     ·intro p hp
      rcases alg.1 hp with hp | hp
      ·exact bW.uG p hp
      ·simp only [ali] at hp;subst hp;exact⟨_,hw.1,rfl,rfl,hw.2.1,VQ _ (by simp),fun _=>DA,fun ad h=>by cases h⟩
     ·intro p hp
      rcases alg.1 hp with hp | hp
      ·refine⟨fun v=>?_,(bW.free p hp).2⟩;by_cases e:d=p.dst
       ·subst e;simp [gt]
       ·rw [vK e];exact(bW.free p hp).1 v
      ·simp only [ali] at hp;subst hp;exact⟨fun v=>by simp [gt],hb.2,by simpa [Nat.blt_eq] using hb.1⟩
     ·rw [alW,al1];refine⟨bW.Fy,by simp,?_⟩;rintro x hx y hy rfl;simp only [alR,amK,ali] at hy;obtain⟨p,hp,he⟩:=alu.1 hx;exact hw.2.2.2 p hp (he.trans hy)
     ·intro p hp
      rcases alg.1 hp with hp | hp
      ·exact bW.pm p hp
      ·simp only [ali] at hp;subst hp;exact hw.2.2.1
     ·intro j;rw [bW.sub j];refine or_congr Iff.rfl ⟨?_,?_⟩
      ·rintro⟨p,hp,h⟩;exact⟨p,amN _ hp,h⟩
      ·rintro⟨p,hp,h1,h2⟩
       rcases alg.1 hp with hp | hp
       ·exact⟨p,hp,h1,h2⟩
       ·simp only [ali] at hp;subst hp;exact absurd rfl h2
     ·intro y hy;obtain⟨h1,h2,h3,h4⟩:=bW.wt y (amZ _ hy);refine⟨h1,h2,h3,fun p hp=>?_⟩
      rcases alg.1 hp with hp | hp
      ·exact h4 p hp
      ·simp only [ali] at hp;subst hp;intro e;exact bJ.1 (alu.2 ⟨y,hy,e.symm⟩)
     ·intro i h1 h2 h3
      rcases bW.all i h1 h2 h3 with ⟨p,hp,he⟩ | ⟨y,hy,he⟩
      ·exact .inl ⟨p,amN _ hp,he⟩
      ·rcases alF.1 hy with rfl | hy
       ·exact .inl ⟨_,anB _ (ali.2 rfl),he⟩
       ·exact .inr ⟨y,hy,he⟩
    obtain⟨l1,more,hK,hs,tc⟩:=Dz on off _ _ (fun y hy=>VQ y (amZ _ hy)) eQ h;refine⟨l1,[⟨idx,obj,val,d,none⟩]++more,by simpa using hK,by simpa using hs,?_⟩;intro y hy
    rcases alF.1 hy with rfl | hy
    ·exact⟨⟨idx,obj,val,d,none⟩,by simp,rfl⟩
    ·obtain⟨p,hp,he⟩:=tc y hy;exact⟨p,by simpa using hp,he⟩
  ·exact h.elim
end
section
variable {P:Program} {N:Nat} {ops:Array Oper}
theorem fS {rows:List Row} {dB:List Nat} (h:ka ops rows dB=true) {i:Nat} {x:Row} (hi:has dB i=true) (hx:rows[i]? =some x):
  eD x.o.op=true /\ x.ro=false /\ ∀y∈rows,y.idx≠i->(∀d d',x.o.dst=some d->y.o.dst=some d'->d≠d') /\ (x.eZ.testBit y.idx=true \/ ∀d,y.o.dst=some d->d ∉ x.o.looksAt ops) /\ (∀j want d,y.o.guard=some (j,want)->x.o.dst=some d->(ops[j]?).bind (·.dst)≠some d):=by
 obtain⟨j,hj,he⟩:=anm.1 hi;have:=ame.1 h j hj;rw [alB he,hx] at this;simp only [alD,alS] at this;obtain⟨⟨h1,h2⟩,h3⟩:=this;refine⟨h1,h2,fun y hy aW=>?_⟩;have h4:=ame.1 h3 y hy;simp only [al9,alD] at h4
 rcases h4 with h4 | ⟨⟨h4,h5⟩,h6⟩
 ·exact absurd (alB h4) aW
 ·refine⟨fun d d' hd hd'=>?_,?_,fun j want d hg hd he=>?_⟩
  ·rw [hd,hd'] at h4;intro e;subst e;simp at h4
  ·rcases h5 with h5 | h5
   ·exact .inl h5
   ·refine .inr fun d hd=>?_;rw [hd] at h5
    simpa using h5
  ·rw [hg,hd] at h6;simp only [he] at h6;simp at h6
theorem IS.put {rows:List Row} {dB:List Nat} {mask:Nat} {a:Act} {p:lJ} {o:Oper} {v:Value} (hs:Region.noSelect ops=true) (h:IS P rows dB mask a p)
  (DB: ∀(i:Nat) (x:Row),rows[i]? =some x->ops[i]? =some x.o) (hd:o.dst≠some p.dst) (hl: ∀x:Row,rows[p.idx]? =some x-> ∀d,o.dst=some d->d ∉ x.o.looksAt ops):IS P rows dB mask (a.put o.dst v) p:=by
 obtain⟨x,h1,h2,h3,h4,h5,h6,h7⟩:=h;refine⟨x,h1,h2,h3,h4,h5,fun hy w=>?_,fun ad Ae=>?_⟩
 ·rw [execOp_put (ops:=ops) x.o (fun cs b=>Region.noSelect_spec hs p.idx x.o cs b (DB _ _ h1)) a o.dst v (hl x h1)];exact h6 hy w
 ·cases hod:o.dst with
  | none=>exact h7 ad Ae
  | some d=>
   rw [gP,if_neg]
   ·exact h7 ad Ae
   ·intro e;apply hd;rw [hod,e]
theorem bX.MZ {a:Act} {l:Env} {d:Nat} {v:Value} (h:bX ds N a l) (hf: ∀u,gt l d≠some (some u)):bX ds N (a.put (some d) v) l:=by
 refine⟨by simp [Act.put,h.size],by simp [Act.put,h.defers],fun t u hu=>?_⟩;rw [gP,if_neg]
 ·exact h.De t u hu
 ·intro e;subst e;exact hf u hu
theorem DC {pend:List lJ} (h:(pend.map (·.idx)).Nodup) {j k:Nat} {q p:lJ} (hj:pend[j]? =some q) (hk:pend[k]? =some p) (aW:j≠k):q.idx≠p.idx:=by
 have hp:=amG.1 h;obtain⟨gQ,rfl⟩:=ak6.1 hj;obtain⟨cO,rfl⟩:=ak6.1 hk
 rcases Nat.lt_or_gt_of_ne aW with h1 | h1
 ·have:=hp j k (by simpa using gQ) (by simpa using cO) h1
  simpa using this
 ·have:=hp k j (by simpa using cO) (by simpa using gQ) h1;intro e;simp [e] at this
theorem M0 (hs:Region.noSelect ops=true) {as:List Nat} (kc:as=hZ ops.toList []) {rows:List Row} (bg:rows=rowsOf P 0 ops.toList as) {dB:List Nat} (zb:ka ops rows dB=true) {a0:Act} {mask D:Nat} {wait:List Row} {pend:List lJ}
  {l:Env} {fl:dV} {C:dE} {w:World} {a:Act} (bW:za ds P N ops as rows dB a0 mask D wait pend l fl C w a) (hmD: ∀x:Row,ia mask x=true->x.eZ ||| D=D) {k:Nat} {p:lJ} (hk:pend[k]? =some p) (hy:p.y=none)
  {Q:Exit->Act->World->Prop} {R:Act->World->Prop}
  (H: ∀a',za ds P N ops as rows dB a0 mask (D ||| 2 ^ p.idx) wait (pend.set k { p with y:=some ⟨w.heap.size,0,none⟩}) l fl C (w.alloc p.obj) a'->R a' (w.alloc p.obj)):
  wpOp P ops Q p.idx (fun a' w'=>Gd P ops as C p.idx w w' /\ R a' w') a w:=by
 have hp:p∈pend:=ala hk;have cO:k < pend.length:=(ak6.1 hk).1;obtain⟨x,h1,h2,h3,h4,h5,h6,h7⟩:=bW.uG p hp;have DB: ∀(i:Nat) (x:Row),rows[i]? =some x->ops[i]? =some x.o:=fun i x hx=>(ec bg hx).2.1;have WQ:=fS zb h4 h1;have wy:=bW.free p hp;unfold wpOp;simp only [DB _ _ h1];rw [if_pos (by simp [Region.wanted,h3])];refine .inl ?_;unfold Oper.wp;rw [h6 hy w];have RL:Ext w (w.alloc p.obj):=Ext.alloc w p.obj;refine⟨⟨fun _=>RL,fun y hy _ hc=>RL.hold hc⟩,?_⟩;rw [h2];refine H _ { env:=bW.env.MZ wy.1,GC:=bW.GC.put wy.2.1,cells:=fun y hy=>⟨RL.hold (bW.cells y hy).1,(bW.cells y hy).2⟩,uG:=?_,free:=?_,Fy:=?_,pm:=?_,sub:=?_,dn:=?_,wt:=?_,IT:=bW.IT,all:=?_,off:=?_}
 ·intro q hq;have aW: ∀q∈pend,q.idx≠p.idx->IS P rows dB mask (a.put (some p.dst) (p.val ⟨w.heap.size,0,none⟩)) q:=by
   intro q hq aW;obtain⟨xq,g1,g2,g3,g4,g5,g6,g7⟩:=bW.uG q hq;have hx:=ec bg h1;have hxq:=ec bg g1;have:=IS.put (o:=x.o) (v:=p.val ⟨w.heap.size,0,none⟩) hs (bW.uG q hq) DB (by
    rw [h2];intro e;simp only [ald] at e;exact(WQ.2.2 xq (ala g1) (by rw [hxq.1];exact aW)).1 _ _ h2 g2 e) (by
    intro x' Mq d hd;obtain rfl:=alm (g1.symm.trans Mq)
    rcases((fS zb g4 g1).2.2 x (ala h1) (by rw [hx.1];exact fun e=>aW e.symm)).2.1 with h | h
    ·exfalso
     rw [hx.1] at h;have:=dd (alB g5) h;rw [bW.pm p hp] at this;cases this
    ·exact h d hd)
   rw [h2] at this;exact this
  obtain⟨j,hj⟩:=aly hq;by_cases DD:k=j
  ·subst DD;rw [alx cO] at hj;obtain rfl:=alm hj;refine⟨x,h1,h2,h3,h4,h5,(fun h=>by cases h),fun ad Ae=>?_⟩
   ·simp only [ald] at Ae;subst Ae;rw [gP,if_pos rfl,if_pos (by rw [bW.env.size];exact wy.2.2)]
  ·rw [alC DD] at hj;exact aW q (ala hj) (DC bW.Fy hj hk (fun e=>DD e.symm))
 ·intro q hq;obtain⟨j,hj⟩:=aly hq;by_cases DD:k=j
  ·subst DD;rw [alx cO] at hj;obtain rfl:=alm hj;exact wy
  ·rw [alC DD] at hj;exact bW.free q (ala hj)
 ·have:(pend.set k { p with y:=some ⟨w.heap.size,0,none⟩}).map (·.idx)=pend.map (·.idx):=by
   rw [amm];apply alM;intro j;rw [alN]
   split
   ·rename_i e;subst e;rw [if_pos (by simpa using cO),alc,hk];rfl
   ·rfl
  rw [this];exact bW.Fy
 ·intro q hq;obtain⟨j,hj⟩:=aly hq;by_cases DD:k=j
  ·subst DD;rw [alx cO] at hj;obtain rfl:=alm hj;exact bW.pm p hp
  ·rw [alC DD] at hj;exact bW.pm q (ala hj)
 ·intro j;rw [alY,al9,bW.sub j,al7,decide_eq_true_eq];constructor
  ·rintro((h | ⟨q,hq,h1,h2⟩) | rfl)
   ·exact .inl h
   ·obtain⟨jj,hj⟩:=aly hq;by_cases e:k=jj
    ·subst e;rw [hk] at hj;obtain rfl:=alm hj;exact absurd hy h2
    ·exact .inr ⟨q,ala (i:=jj) (by rw [alC e];exact hj),h1,h2⟩
   ·exact .inr ⟨_,ala (i:=k) (alx cO),rfl,by simp⟩
  ·rintro(h | ⟨q,hq,h1,h2⟩)
   ·exact .inl (.inl h)
   ·obtain⟨jj,hj⟩:=aly hq;by_cases e:k=jj
    ·subst e;rw [alx cO] at hj;obtain rfl:=alm hj;exact .inr h1
    ·rw [alC e] at hj;exact .inl (.inr ⟨q,ala hj,h1,h2⟩)
 ·intro j hj;rw [alY,al9,al7,decide_eq_true_eq] at hj
  rcases hj with hj | rfl
  ·obtain⟨g1,g2⟩:=bW.dn j hj;exact⟨g1,by rw [<-ane,g2]⟩
  ·have hx:=ec bg h1;refine⟨(als.1 hx.2.1).1,?_⟩;have:as.getD p.idx 0=x.eZ:=by simp [hx.2.2]
   rw [this,<-ane,hmD x h5]
 ·intro y hyw;obtain⟨g1,g2,g3,g4⟩:=bW.wt y hyw;refine⟨g1,g2,g3,fun q hq=>?_⟩;obtain⟨j,hj⟩:=aly hq;by_cases DD:k=j
  ·subst DD;rw [alx cO] at hj;obtain rfl:=alm hj;exact g4 p hp
  ·rw [alC DD] at hj;exact g4 q (ala hj)
 ·intro i g1 g2 g3
  rcases bW.all i g1 g2 g3 with ⟨q,hq,he⟩ | h
  ·obtain⟨j,hj⟩:=aly hq;by_cases DD:k=j
   ·subst DD;rw [hk] at hj;obtain rfl:=alm hj;exact .inl ⟨_,ala (i:=k) (alx cO),he⟩
   ·exact .inl ⟨q,ala (i:=j) (by rw [alC DD];exact hj),he⟩
  ·exact .inr h
 ·refine bW.off.trans ?_;have:=mS (ops:=ops) (o:=x.o) (a:=a) (v:=p.val ⟨w.heap.size,0,none⟩) (by
   obtain⟨hh,he⟩:=als.1 (DB _ _ h1);rw [<-he];simp)
  rw [h2] at this;exact this
theorem M1 {base:List lJ} {p:lJ} {ad:Addr}: ∀{pend:List lJ} {k:Nat},yG base ((pend.map (·.y)).map Value.pointer)=pend->pend[k]? =some p->
  yG base (((pend.set k { p with y:=some ad}).map (·.y)).map Value.pointer)=pend.set k { p with y:=some ad}:=by
 induction base with
 | nil=>
  intro pend k h hk;simp only [yG] at h;subst h;simp at hk
 | cons b base ih=>
  intro pend k h hk
  cases pend with
  | nil=>simp at hk
  | cons q pend=>
   simp only [alR,yG,amS] at h;obtain⟨h1,h2⟩:=h
   cases k with
   | zero=>
    simp only [alo,ald] at hk;subst hk;simp only [alq,alR,yG,amS];refine⟨?_,h2⟩;rw [<-h1]
   | succ k=>
    simp only [alG,alR,yG,amS];exact⟨h1,ih h2 (by simpa using hk)⟩
def pz (p:lJ):Bool:=p.y.isNone
theorem uH {ad:Addr}: ∀{pend:List lJ} {k:Nat} {p:lJ},pend[k]? =some p->p.y=none->
  ((pend.set k { p with y:=some ad}).filter pz).length+1=(pend.filter pz).length
 | [],k,p,hk,_=>by simp at hk
 | q :: pend,0,p,hk,hy=>by
  simp only [alo,ald] at hk;subst hk;simp [pz,hy]
 | q :: pend,k+1,p,hk,hy=>by
  have:=uH (ad:=ad) (pend:=pend) (k:=k) (p:=p) (by simpa using hk) hy;simp only [alG,ann]
  split
  ·simp only [alQ];omega
  ·exact this
theorem IU (hs:Region.noSelect ops=true) {as:List Nat} (kc:as=hZ ops.toList []) {rows:List Row} (bg:rows=rowsOf P 0 ops.toList as) {dB:List Nat} (zb:ka ops rows dB=true) {a0:Act} {mask:Nat} {wait:List Row}
  {base:List lJ} {l:Env} {fl:dV} {C:dE} {Q:Exit->Act->World->Prop} {K':List (Option Addr)->World->Prop}
  (WR: ∀x:Row,ia mask x=true-> ∀D,(∀j,mask.testBit j=true->D.testBit j=true)->x.eZ ||| D=D)
  (H: ∀pend D w a m,yG base ((pend.map (·.y)).map Value.pointer)=pend->pend.map (·.idx)=base.map (·.idx)->K' (pend.map (·.y)) w->za ds P N ops as rows dB a0 mask D wait pend l fl C w a->ot ops.size D<=m->
   cL P .any ops as Q C m (cI ops.size D) a w \/ ((∃i,i∈Region.ready .any ops (cI ops.size D)) /\ ∀i∈Region.ready .any ops (cI ops.size D),(∃p∈pend,p.idx=i /\ p.y=none) \/
    ∀m',m=m'+1->wpOp P ops Q i (fun a' w'=>Gd P ops as C i w w' /\ cL P .any ops as Q C m' ((cI ops.size D).setIfInBounds i true) a' w') a w)):
  ∀(n:Nat) (pend:List lJ) (D:Nat) (w:World) (a:Act) (m:Nat),MW (base.map (·.obj)) K' n (pend.map (·.y)) w->pend.map (·.obj)=base.map (·.obj)->yG base ((pend.map (·.y)).map Value.pointer)=pend->pend.map (·.idx)=base.map (·.idx)->
   (pend.filter pz).length<=n->za ds P N ops as rows dB a0 mask D wait pend l fl C w a->ot ops.size D<=m->cL P .any ops as Q C m (cI ops.size D) a w:=by
 have common: ∀(n:Nat) (pend:List lJ) (D:Nat) (w:World) (a:Act) (m:Nat),MW (base.map (·.obj)) K' n (pend.map (·.y)) w->pend.map (·.obj)=base.map (·.obj)->yG base ((pend.map (·.y)).map Value.pointer)=pend->pend.map (·.idx)=base.map (·.idx)->
   za ds P N ops as rows dB a0 mask D wait pend l fl C w a->ot ops.size D<=m->
   (∀(k:Nat) (p:lJ),pend[k]? =some p->p.y=none-> ∀m',m=m'+1->p.idx∈Region.ready .any ops (cI ops.size D)->wpOp P ops Q p.idx (fun a' w'=>Gd P ops as C p.idx w w' /\ cL P .any ops as Q C m' ((cI ops.size D).setIfInBounds p.idx true) a' w') a w)->
   cL P .any ops as Q C m (cI ops.size D) a w:=by
  intro n pend D w a m hF ho hu hi bW hm dh
  rcases H pend D w a m hu hi (IP hF) bW hm with h | ⟨⟨i0,GA⟩,h⟩
  ·exact h
  ·obtain⟨h1,oi,h2,_⟩:=mem_ready.1 GA;have av:=(als.1 h2).1;rw [aQ,if_pos av] at h1;have jK:=vJ av h1;obtain⟨m',rfl⟩: ∃m',m=m'+1:=⟨m - 1,by omega⟩;refine⟨fun h1=>(by rw [h1] at GA;cases GA),fun i hi=>?_⟩
   rcases h i hi with ⟨p,hp,rfl,hy⟩ | h
   ·obtain⟨k,hk⟩:=aly hp;exact dh k p hk hy m' rfl hi
   ·exact h m' rfl
 intro n
 induction n with
 | zero=>
  intro pend D w a m hF ho hu hi hn bW hm;refine common 0 pend D w a m hF ho hu hi bW hm fun k p hk hy=>?_;have:p∈pend.filter pz:=ama.2 ⟨ala hk,by simp [pz,hy]⟩;have:=anT this;omega
 | succ n ih=>
  intro pend D w a m hF ho hu hi hn bW hm;refine common (n+1) pend D w a m hF ho hu hi bW hm fun k p hk hy m' gG hr=>?_;subst gG;have hp:p∈pend:=ala hk;obtain⟨x,g1,_⟩:=bW.uG p hp;have hx:=ec bg g1;have av:p.idx < ops.size:=(als.1 hx.2.1).1;have bJ:D.testBit p.idx=false:=by
   obtain⟨h1,_⟩:=mem_ready.1 hr;rw [aQ,if_pos av] at h1;exact h1
  have RM:=vJ av bJ;refine M0 hs kc bg zb bW (fun x hx=>WR x hx D fun j hj=>(bW.sub j).2 (.inl hj)) hk hy fun a' eQ=>?_;rw [iO];have hF':=hF.2 k p.obj (by rw [<-ho];simp [hk]) (by simp [hk,hy]);refine ih _ _ _ a' m' ?_ ?_ (M1 hu hk) ?_ ?_ eQ (by omega)
  ·rw [amm];exact hF'
  ·rw [amm,<-ho];apply alM;intro j;rw [alN]
   split
   ·rename_i e;subst e;rw [if_pos (by simpa using (ak6.1 hk).1),alc,hk];rfl
   ·rfl
  ·rw [amm,<-hi];apply alM;intro j;rw [alN]
   split
   ·rename_i e;subst e;rw [if_pos (by simpa using (ak6.1 hk).1),alc,hk];rfl
   ·rfl
  ·have:=uH (ad:=⟨w.heap.size,0,none⟩) hk hy;omega
theorem uI {R:Type} {f:R->Prop}: ∀(fs:List (Obj×Option Addr)) (ys:List (Option Addr)) (F:List Value->R),ys.length=fs.length->
  lM (fs.map fun _=>Kd.p) (ys.map Value.pointer) f (curry (fs.map fun _=>Kd.p) F)=f (F (ys.map Value.pointer))
 | [],[],F,_=>rfl
 | [],_ :: _,F,h=>by simp at h
 | _ :: _,[],F,h=>by simp at h
 | _ :: fs,y :: ys,F,h=>by
  have:=uI (f:=f) fs ys (fun vs=>F (Value.pointer y :: vs)) (by simpa using h);exact this
theorem za.perm {as:List Nat} {rows:List Row} {dB:List Nat} {a0:Act} {mask D:Nat} {wait Qk:List Row} {pend:List lJ} {l:Env} {fl:dV} {C:dE} {w:World} {a:Act} (hp:wait.Perm Qk) (bW:za ds P N ops as rows dB a0 mask D wait pend l fl C w a):za ds P N ops as rows dB a0 mask D Qk pend l fl C w a:=
  { env:=bW.env,GC:=bW.GC,cells:=bW.cells,uG:=bW.uG,free:=bW.free,Fy:=bW.Fy,pm:=bW.pm,sub:=bW.sub,dn:=bW.dn
    wt:=fun y hy=>bW.wt y (hp.mem_iff.2 hy)
    IT:=(hp.map _).nodup_iff.1 bW.IT
    all:=fun i h1 h2 h3=>(bW.all i h1 h2 h3).imp id fun⟨y,hy,he⟩=>⟨y,hp.mem_iff.1 hy,he⟩
    off:=bW.off}
theorem IS.mono {rows:List Row} {dB:List Nat} {mask Ql:Nat} {a:Act} {p:lJ} (h:IS P rows dB mask a p) (hm: ∀x:Row,ia mask x=true->ia Ql x=true):IS P rows dB Ql a p:=by
 obtain⟨x,h1,h2,h3,h4,h5,h6⟩:=h;exact⟨x,h1,h2,h3,h4,hm x h5,h6⟩
theorem Fz {mask m:Nat} {x:Row} (h:ia mask x=true):ia (mask ||| m) x=true:=by
 unfold ia at h ⊢;have:=alB h;rw [<-ane,this];simp
theorem za.next (hs:Region.noSelect ops=true) {as:List Nat} (kc:as=hZ ops.toList []) {rows:List Row} (bg:rows=rowsOf P 0 ops.toList as) {dB:List Nat} (zb:ka ops rows dB=true) {a0:Act} {mask D:Nat} {wait:List Row} {pend:List lJ}
  {l l':Env} {fl lO:dV} {C C':dE} {w w':World} {a:Act} {i:Nat} {x:Row} {v:Value} (bW:za ds P N ops as rows dB a0 mask D wait pend l fl C w a) (lD:rows[i]? =some x) (Qm:has dB i=false) (hD:x.eZ ||| D=D) (hmi:mask.testBit i=false)
  (hC: ∀x∈C',dY w' x.2 /\ (jI P rows).testBit x.1=true) (abu:bX ds N (a.put x.o.dst v) l') (abv:jy (a.put x.o.dst v) lO) (hk:Kept ops x.o l fl l' lO):
  za ds P N ops as rows dB a0 (mask ||| 2 ^ i) (D ||| 2 ^ i) wait pend l' lO C' w' (a.put x.o.dst v):=by
 have DB: ∀(i:Nat) (x:Row),rows[i]? =some x->ops[i]? =some x.o:=fun i x hx=>(ec bg hx).2.1;have hx:=ec bg lD;have aW: ∀p∈pend,i≠p.idx:=by
  intro p hp e;obtain⟨y,h1,h2,h3,h4,_⟩:=bW.uG p hp;rw [<-e,Qm] at h4;cases h4
 have WS: ∀p∈pend,x.o.dst≠some p.dst:=by
  intro p hp e;obtain⟨y,h1,h2,h3,h4,_⟩:=bW.uG p hp;exact((fS zb h4 h1).2.2 x (ala lD) (by rw [hx.1];exact aW p hp)).1 _ _ h2 e rfl
 have WT: ∀p∈pend,gt l' p.dst=gt l p.dst /\ (fP fl p.dst=true->fP lO p.dst=true):=by
  intro p hp;refine hk p.dst (WS p hp) fun j want hg he=>?_;obtain⟨y,h1,h2,h3,h4,_⟩:=bW.uG p hp;exact((fS zb h4 h1).2.2 x (ala lD) (by rw [hx.1];exact aW p hp)).2.2 j want _ hg h2 he
 refine{ env:=abu,GC:=abv,cells:=hC,uG:=?_,free:=?_,Fy:=bW.Fy,pm:=?_,sub:=?_,dn:=?_,wt:=?_,IT:=bW.IT,all:=?_,off:=?_}
 ·intro p hp;refine IS.mono (IS.put hs (bW.uG p hp) DB (WS p hp) ?_) (fun x=>Fz);intro y hy d hd;obtain⟨y',h1,h2,h3,h4,h5,_⟩:=bW.uG p hp;obtain rfl:=alm (h1.symm.trans hy)
  rcases((fS zb h4 h1).2.2 x (ala lD) (by rw [hx.1];exact aW p hp)).2.1 with h | h
  ·rw [hx.1] at h;have:=dd (alB h5) h;rw [hmi] at this;cases this
  ·exact h d hd
 ·intro p hp;obtain⟨g1,g2,g3⟩:=bW.free p hp;obtain⟨k1,k2⟩:=WT p hp;exact⟨fun v=>by rw [k1];exact g1 v,k2 g2,g3⟩
 ·intro p hp;rw [alY,bW.pm p hp,al7];simp [aW p hp]
 ·intro j;rw [alY,alY,al9,al9,bW.sub j];constructor
  ·rintro((h | h) | h)
   ·exact .inl (.inl h)
   ·exact .inr h
   ·exact .inl (.inr h)
  ·rintro((h | h) | h)
   ·exact .inl (.inl h)
   ·exact .inr h
   ·exact .inl (.inr h)
 ·intro j hj;rw [alY,al9,al7,decide_eq_true_eq] at hj
  rcases hj with hj | rfl
  ·obtain⟨g1,g2⟩:=bW.dn j hj;exact⟨g1,by rw [<-ane,g2]⟩
  ·refine⟨(als.1 hx.2.1).1,?_⟩;have:as.getD i 0=x.eZ:=by simp [hx.2.2]
   rw [this,<-ane,hD]
 ·intro y hy;obtain⟨g1,g2,g3,g4⟩:=bW.wt y hy;refine⟨g1,g2,?_,g4⟩;rw [alY,g3,al7];have:i≠y.idx:=by rintro rfl;rw [g2] at Qm;cases Qm
  simp [this]
 ·intro j h1 h2 h3;rw [alY,anj] at h2;exact bW.all j h1 h2.1 h3
 ·exact bW.off.trans (mS (by
   obtain⟨hh,he⟩:=als.1 hx.2.1;rw [<-he];simp))
theorem za.settle {as:List Nat} {rows:List Row} (bg:rows=rowsOf P 0 ops.toList as) {dB:List Nat} (zb:ka ops rows dB=true) {a0:Act} {mask D:Nat} {wait:List Row} {pend:List lJ} {l:Env} {fl:dV} {C:dE} {w:World} {a:Act} (bW:za ds P N ops as rows dB a0 mask D wait pend l fl C w a) {p:lJ} (hp:p∈pend) {ad:Addr} (hy:p.y=some ad):
  za ds P N ops as rows dB a0 (mask ||| 2 ^ p.idx) D wait (pend.filter fun q=> !Nat.beq q.idx p.idx) ((p.dst,some (p.val ad)) :: l) fl C w a:=by
 obtain⟨x,h1,h2,h3,h4,h5,h6,h7⟩:=bW.uG p hp;have dF: ∀q,q∈pend.filter (fun q=> !Nat.beq q.idx p.idx)↔q∈pend /\ q.idx≠p.idx:=by
  intro q;rw [ama];constructor
  ·rintro⟨g1,g2⟩;refine⟨g1,fun e=>?_⟩;rw [e] at g2;simp at g2
  ·rintro⟨g1,g2⟩;refine⟨g1,?_⟩
   cases hb:Nat.beq q.idx p.idx with
   | false=>rfl
   | true=>exact absurd (alB hb) g2
 have uniq: ∀q∈pend,q.idx=p.idx->q=p:=by
  intro q hq he;obtain⟨j,hj⟩:=aly hq;obtain⟨k,hk⟩:=aly hp;by_cases e:j=k
  ·subst e;exact alm (hj.symm.trans hk)
  ·exact absurd he (DC bW.Fy hj hk e)
 refine{ env:=?_,GC:=bW.GC,cells:=bW.cells,uG:=?_,free:=?_,Fy:=?_,pm:=?_,sub:=?_,dn:=bW.dn,wt:=?_,IT:=bW.IT,all:=?_,off:=bW.off}
 ·refine⟨bW.env.size,bW.env.defers,fun t u hu=>?_⟩;simp only [gt] at hu
  cases hb:Nat.beq p.dst t with
  | true=>
   rw [hb] at hu;simp only [cond_true,ald] at hu;subst hu;rw [<-alB hb];exact h7 ad hy
  | false=>rw [hb] at hu;exact bW.env.De t u hu
 ·intro q hq;exact(bW.uG q ((dF q).1 hq).1).mono (fun x=>Fz)
 ·intro q hq;obtain⟨g1,g2⟩:=(dF q).1 hq;obtain⟨k1,k2,k3⟩:=bW.free q g1;refine⟨fun v=>?_,k2,k3⟩;rw [vK]
  ·exact k1 v
  ·-- other blocks have other places
   intro e;obtain⟨y,q1,q2,q3,q4,_⟩:=bW.uG q g1;have hx:=ec bg h1;exact((fS zb q4 q1).2.2 x (ala h1) (by rw [hx.1];exact fun e=>g2 e.symm)).1 _ _ q2 h2 e.symm
 ·exact(List.filter_sublist.map _).nodup bW.Fy
 ·intro q hq;obtain⟨g1,g2⟩:=(dF q).1 hq;rw [alY,bW.pm q g1,al7];have: ¬p.idx=q.idx:=fun e=>g2 e.symm;simp [this]
 ·intro j;rw [bW.sub j,alY,al9,al7,decide_eq_true_eq];constructor
  ·rintro(h | ⟨q,hq,g1,g2⟩)
   ·exact .inl (.inl h)
   ·by_cases e:q.idx=p.idx
    ·exact .inl (.inr (by rw [<-e];exact g1))
    ·exact .inr ⟨q,(dF q).2 ⟨hq,e⟩,g1,g2⟩
  ·rintro((h | h) | ⟨q,hq,g1,g2⟩)
   ·exact .inl h
   ·exact .inr ⟨p,hp,h,by rw [hy];simp⟩
   ·exact .inr ⟨q,((dF q).1 hq).1,g1,g2⟩
 ·intro y hyw;obtain⟨g1,g2,g3,g4⟩:=bW.wt y hyw;refine⟨g1,g2,?_,fun q hq=>g4 q ((dF q).1 hq).1⟩;rw [alY,g3,al7];have: ¬p.idx=y.idx:=g4 p hp;simp [this]
 ·intro i g1 g2 g3;rw [alY,anj,al7,decide_eq_false_iff_not] at g2
  rcases bW.all i g1 g2.1 g3 with ⟨q,hq,he⟩ | h
  ·exact .inl ⟨q,(dF q).2 ⟨hq,fun e=>g2.2 (e ▸ he)⟩,he⟩
  ·exact .inr h
theorem Bu {p:lJ} {ps:List lJ} {w:World} {K:List lJ->World->Prop} (h:vI ((p :: ps).map fun p=>(p.obj,p.y)) w (curry _ fun cs w1=>K (yG (p :: ps) cs) w1)):
  MW ((p :: ps).map (·.obj)) (fun ys w=>ys.length=(p :: ps).length->K (yG (p :: ps) (ys.map Value.pointer)) w) (p :: ps).length ((p :: ps).map (·.y)) w:=by
 unfold vI at h;simp only [amJ,alr] at h;have e1:(((fun x:Obj×Option Addr=>x.fst) ∘ fun p:lJ=>(p.obj,p.y)):lJ->Obj)=(fun p=>p.obj):=rfl;have e2:(((fun x:Obj×Option Addr=>x.snd) ∘ fun p:lJ=>(p.obj,p.y)):lJ->Option Addr)=(fun p=>p.y):=rfl;have mono: ∀(wC:List Obj) (K K':List (Option Addr)->World->Prop),(∀ys w,K ys w->K' ys w)-> ∀(n:Nat) (ys:List (Option Addr)) (w:World),MW wC K n ys w->MW wC K' n ys w:=by
  intro wC K K' VR n
  induction n with
  | zero=>exact fun ys w h=>VR _ _ h
  | succ n ih=>exact fun ys w h=>⟨VR _ _ h.1,fun i o ho hy=>ih _ _ (h.2 i o ho hy)⟩
 refine mono _ _ _ ?_ _ _ _ h;intro ys w hv hl;have:=uI (f:=fun r:World->Prop=>r w) ((p :: ps).map fun p=>(p.obj,p.y)) ys (fun cs w1=>K (yG (p :: ps) cs) w1) (by simpa using hl);rw [this] at hv;exact hv
theorem wH: ∀(ps:List lJ),yG ps ((ps.map (·.y)).map Value.pointer)=ps
 | []=>rfl
 | p :: ps=>by
  simp only [alR,yG];rw [wH ps]
theorem uJ (as:List Nat) (kc:as=hZ ops.toList []) {rows:List Row} (bg:rows=rowsOf P 0 ops.toList as) {D i:Nat} (hi:i∈Region.ready .any ops (cI ops.size D)) (Ij: ∀j,D.testBit j=true->j < ops.size /\ as.getD j 0 ||| D=D):
  ∃y,rows[i]? =some y /\ y.idx=i /\ D.testBit i=false /\ y.eZ ||| D=D:=by
 obtain⟨h1,oi,h2,h3⟩:=mem_ready.1 hi;have av:=(als.1 h2).1;rw [aQ,if_pos av] at h1;have Mp:i < rows.length:=by
  rw [bg,gI P _ _ _ (by rw [kc,rG])];simpa using av
 obtain⟨y,hy⟩: ∃y,rows[i]? =some y:=⟨_,alf Mp⟩;have Qn:=ec bg hy;refine⟨y,hy,Qn.1,h1,?_⟩;have ho:oi=y.o:=alm (h2.symm.trans Qn.2.1);have jh:as[i]? =some (fc (as.take i) oi.after.toList):=by
  have:=jg ops.toList [] i oi (by simpa using h2);rw [kc]
  simpa using this
 have he:y.eZ=fc (as.take i) oi.after.toList:=alm (Qn.2.2.symm.trans jh);apply amM;intro k;rw [alY]
 cases hk:y.eZ.testBit k with
 | false=>simp
 | true=>
  rw [he] at hk
  rcases iM _ _ hk with h5 | ⟨e,hem,lT,h5⟩
  ·simp at h5
  ·have h6:=h3 e (by simpa using hem) lT;rw [aQ] at h6;have WU:D.testBit e.on=true:=by
    split at h6
    ·exact h6
    ·cases h6
   rcases h5 with h5 | h5
   ·rw [<-h5,WU];rfl
   ·have h7:(as.take i).getD e.on 0=as.getD e.on 0 \/ (as.take i).getD e.on 0=0:=by
     simp only [alk,alU]
     split
     ·exact .inl rfl
     ·exact .inr rfl
    rcases h7 with h7 | h7
    ·rw [h7] at h5;rw [dd (Ij e.on WU).2 h5];rfl
    ·rw [h7] at h5;simp at h5
theorem mT (as:List Nat) (kc:as=hZ ops.toList []) {rows:List Row} (bg:rows=rowsOf P 0 ops.toList as) {D i:Nat} {y:Row} (hy:rows[i]? =some y) (hD:y.eZ ||| D=D) (h0:D.testBit i=false) (Ij: ∀j,D.testBit j=true->j < ops.size /\ as.getD j 0 ||| D=D):
  i∈Region.ready .any ops (cI ops.size D):=by
 have Qn:=ec bg hy;have av:=(als.1 Qn.2.1).1;refine mem_ready.2 ⟨by rw [aQ,if_pos av];exact h0,y.o,Qn.2.1,fun e he lT=>?_⟩;have jh:as[i]? =some (fc (as.take i) y.o.after.toList):=by
  have:=jg ops.toList [] i y.o (by simpa using Qn.2.1);rw [kc]
  simpa using this
 have iD:y.eZ=fc (as.take i) y.o.after.toList:=alm (Qn.2.2.symm.trans jh);have h2:y.eZ.testBit e.on=true:=by
  rw [iD];exact iN lT _ _ (.inl (by simpa using he))
 have h3:=dd hD h2;rw [aQ,if_pos (Ij _ h3).1];exact h3
theorem FA {is:List Nat} {j:Nat} (h:has is j=true):j∈is:=by
 obtain⟨k,hk,he⟩:=anm.1 h;rw [<-alB he];exact hk
theorem M3 {is:List Nat} {j:Nat} (h:j∈is):has is j=true:=anm.2 ⟨j,h,by simp⟩
theorem wI {is:List Nat} {j:Nat} (h:j∈is):(bitsOf is).testBit j=true:=by
 have key: ∀(is:List Nat) (s:Nat),(s.testBit j=true \/ j∈is)->(is.foldl (fun s i=>s ||| 2 ^ i) s).testBit j=true:=by
  intro is
  induction is with
  | nil=>intro s h;simpa using h
  | cons i is ih=>
   intro s h;refine ih _ ?_
   rcases h with h | h
   ·exact .inl (by rw [alY,h];rfl)
   ·rcases alF.1 h with rfl | h
    ·exact .inl (by rw [alY,Nat.testBit_two_pow_self];simp)
    ·exact .inr h
 exact key is 0 (.inr h)
theorem te {x:Row} {mask D:Nat} (h:ia mask x=true) (hs: ∀j,mask.testBit j=true->D.testBit j=true):x.eZ ||| D=D:=by
 have h1:=alB h;apply amM;intro k;rw [alY]
 cases hk:x.eZ.testBit k with
 | false=>simp
 | true=>rw [hs k (dd h1 hk)];rfl
theorem Qo {x:Row} {on D:Nat} (h:x.eZ ||| D=D) (hs: ∀j,D.testBit j=true->on.testBit j=true):ia on x=true:=by
 unfold ia;have:x.eZ ||| on=on:=by
  apply amM;intro k;rw [alY]
  cases hk:x.eZ.testBit k with
  | false=>simp
  | true=>rw [hs k (dd h hk)];rfl
 rw [this];simp
theorem wJ {rows:List Row} {dB:List Nat} {mask j:Nat} (h:has (iQ rows dB mask) j=true):has dB j=true /\ mask.testBit j=false /\ ∃y,rows[j]? =some y /\ ia mask y=true:=by
 have h1:=FA h;unfold iQ at h1;rw [ama] at h1;obtain⟨h2,h3⟩:=h1;simp only [alD,alS] at h3;refine⟨M3 h2,h3.1,?_⟩
 cases hy:rows[j]? with
 | none=>rw [hy] at h3;exact absurd h3.2 (by simp)
 | some y=>rw [hy] at h3;exact⟨y,rfl,h3.2⟩
theorem wK {rows:List Row} {dB:List Nat} {mask j:Nat} {y:Row} (h1:has dB j=true) (h2:mask.testBit j=false) (h3:rows[j]? =some y) (h4:ia mask y=true):j∈iQ rows dB mask:=by
 unfold iQ;rw [ama];refine⟨FA h1,?_⟩;simp [h2,h3,h4]
theorem ou {α:Type} (p:α->Bool): ∀l:List α,l.Perm (l.filter p++l.filter fun y=> !p y)
 | []=>List.Perm.refl _
 | x :: l=>by
  have ih:=ou p l
  cases h:p x with
  | true=>simp only [ann,h,if_true,anK,amk,if_false,alI];exact ih.cons x
  | false=>simp only [ann,h,if_true,amY,amk,if_false];exact(ih.cons x).trans List.perm_middle.symm
theorem FB {n D i:Nat} {m:Nat} (hi:i < n) (h:D.testBit i=false) (hm:ot n D<=m): ∃m',m=m'+1 /\ ot n (D ||| 2 ^ i)<=m':=by
 have:=vJ hi h;exact⟨m - 1,by omega,by omega⟩
theorem Af {split:Bool} (hP:A6 P) (hs:Region.noSelect ops=true) {Q:Exit->Act->World->Prop} (hQ: ∀c a w,¬Q (.panic c) a w) (as:List Nat) (kc:as=hZ ops.toList []) (rows:List Row) (bg:rows=rowsOf P 0 ops.toList as) (dB:List Nat) (zb:ka ops rows dB=true) {a0:Act} {K:Env->World->Prop}
  (hK: ∀a' l' w',lQ (dstsOf ops.toList) a0 a'->bX ds N a' l'->K l' w'->Q .normal a' w'):
  ∀(ae:List WN) (mask:Nat) (wait:List Row) (pend:List lJ) (l:Env) (fl:dV) (C:dE) (w:World) (D:Nat) (a:Act) (m:Nat),jJ P ops rows dB ae mask=true->za ds P N ops as rows dB a0 mask D wait pend l fl C w a->
   GB P N ops split rows ae mask wait pend l fl C w K->ot ops.size D<=m->cL P .any ops as Q C m (cI ops.size D) a w
 | [],mask,wait,pend,l,fl,C,w,D,a,m,hc,bW,h,hm=>by
  simp only [jJ] at hc;simp only [GB] at h
  split at h
  ·have hr:Region.ready .any ops (cI ops.size D)= []:=by
    refine amR.2 fun j hj=>?_;obtain⟨h1,oj,h2,_⟩:=mem_ready.1 hj;have av:=(als.1 h2).1;rw [aQ,if_pos av] at h1;have:=ame.1 hc j (al5.2 av);rw [(bW.sub j).2 (.inl this)] at h1;cases h1
   cases m with
   | zero=>exact⟨hr,hK a l w bW.off bW.env h⟩
   | succ n=>exact⟨fun _=>hK a l w bW.off bW.env h,fun i hi=>by rw [hr] at hi;cases hi⟩
  ·exact h.elim
 | .ro i :: r,mask,wait,pend,l,fl,C,w,D,a,m,hc,bW,h,hm=>by
  have ih:=Af hP hs hQ as kc rows bg dB zb hK r (split:=split);simp only [jJ] at hc;simp only [GB] at h
  cases lD:rows[i]? with
  | none=>rw [lD] at h;exact h.elim
  | some x=>
   rw [lD] at h hc;simp only [alD,alS] at h hc;obtain⟨⟨⟨⟨c1,c2⟩,c3⟩,c4⟩,c5⟩:=hc;have hx:=ec bg lD;have av:i < ops.size:=(als.1 hx.2.1).1;have Qm:has dB i=false:=by
    cases hf:has dB i with
    | false=>rfl
    | true=>have:=(fS zb hf lD).2.1;rw [c1] at this;cases this
   have DE:D.testBit i=false:=by
    cases hd:D.testBit i with
    | false=>rfl
    | true=>
     rcases(bW.sub i).1 hd with h1 | ⟨p,hp,h1,_⟩
     ·rw [c3] at h1;cases h1
     ·obtain⟨y,_,_,_,h4,_⟩:=bW.uG p hp;rw [h1,Qm] at h4;cases h4
   have jh:=te c2 (fun j hj=>(bW.sub j).2 (.inl hj));obtain⟨m',rfl,gG⟩:=FB av DE hm;have rJ:=rC hP bW.env bW.GC (wG h);refine(Bt (m:=m') hP hs hQ as kc rows bg lD bW.dn jh (by rw [hx.1];exact DE) (rest rows mask i) ?_ bW.cells rJ ?_).1 c1 c4
   ·intro y hy qj aW;simp only [rest,ama,alD,alS];refine⟨hy,?_,?_⟩
    ·cases hb:mask.testBit y.idx with
     | false=>rfl
     | true=>rw [(bW.sub _).2 (.inl hb)] at qj;cases qj
    ·cases hb:Nat.beq y.idx i with
     | false=>rfl
     | true=>exact absurd ((alB hb).trans hx.1.symm) aW
   ·intro v l' lO C' w' hC' he hf ⟨hG,hk⟩;rw [hx.1];refine ih _ _ _ _ _ _ _ _ _ _ c5 (bW.next hs kc bg zb lD Qm jh c3 hC' he hf hk) hG gG
 | .MR i :: r,mask,wait,pend,l,fl,C,w,D,a,m,hc,bW,h,hm=>by
  have ih:=Af hP hs hQ as kc rows bg dB zb hK r (split:=split);simp only [jJ] at hc;simp only [GB] at h
  cases lD:rows[i]? with
  | none=>rw [lD] at h;exact h.elim
  | some x=>
   rw [lD] at h hc;simp only [alD,alS] at h hc;obtain⟨⟨⟨⟨⟨⟨c1,c2⟩,c3⟩,c4⟩,c5⟩,c6⟩,c7⟩:=hc;have hx:=ec bg lD;have av:i < ops.size:=(als.1 hx.2.1).1;unfold ZT at h;obtain⟨l1,more,h1,qF,tc⟩:=Dz (wait.filter (ia mask)) (wait.filter fun y=> !ia mask y) pend l (fun y hy=>(ama.1 hy).2) (bW.perm (ou _ _)) h;generalize pend++more=iI at h1 qF tc;generalize fm:(wait.filter fun y=> !ia mask y)=off at h1 qF
   -- who is pending
   have VT: ∀j,has (iQ rows dB mask) j=true-> ∃p∈iI,p.idx=j:=by
    intro j hj;obtain⟨g1,g2,y,g3,g4⟩:=wJ hj
    rcases qF.all j g1 g2 (ak6.1 g3).1 with h | ⟨y',wB,he⟩
    ·exact h
    ·have q:=(qF.wt y' wB).1;rw [he,g3] at q;obtain rfl:=alm q;rw [<-fm,ama,g4] at wB;exact absurd wB.2 (by simp)
   have MR: ∀(jl:List lJ) (D:Nat) (w:World) (a:Act) (m':Nat),za ds P N ops as rows dB a0 mask D off jl l1 fl C w a->
     oh P N ops split (eB x) l1 fl C w (fun l' lO C' w'=>GB P N ops split rows r (mask ||| 2 ^ i) off jl l' lO C' w' K)->ot ops.size D<=m'+1->
     D.testBit i=false /\ x.eZ ||| D=D /\ wpOp P ops Q x.idx (fun a' w'=>Gd P ops as C x.idx w w' /\ cL P .any ops as Q C m' ((cI ops.size D).setIfInBounds x.idx true) a' w') a w:=by
    intro jl D w a m' eQ hd gG;have DE:D.testBit i=false:=by
     cases hd:D.testBit i with
     | false=>rfl
     | true=>
      rcases(eQ.sub i).1 hd with h1 | ⟨p,hp,h1,_⟩
      ·rw [c4] at h1;cases h1
      ·obtain⟨y,_,_,_,h4,_⟩:=eQ.uG p hp;rw [h1,c2] at h4;cases h4
    have jh:=te c3 (fun j hj=>(eQ.sub j).2 (.inl hj));have RM:=vJ av DE;have rJ:=rC hP eQ.env eQ.GC (wG hd);refine⟨DE,jh,(Bt (m:=m') hP hs hQ as kc rows bg lD eQ.dn jh (by rw [hx.1];exact DE) (rest rows mask i) ?_ eQ.cells rJ ?_).2 c1 c5⟩
    ·intro y hy qj aW;simp only [rest,ama,alD,alS];refine⟨hy,?_,?_⟩
     ·cases hb:mask.testBit y.idx with
      | false=>rfl
      | true=>rw [(eQ.sub _).2 (.inl hb)] at qj;cases qj
     ·cases hb:Nat.beq y.idx i with
      | false=>rfl
      | true=>exact absurd ((alB hb).trans hx.1.symm) aW
    ·intro v l' lO C' w' hC' he hf ⟨hG,hk⟩;rw [hx.1];exact ih _ _ _ _ _ _ _ _ _ _ c7 (eQ.next hs kc bg zb lD c2 jh c4 hC' he hf hk) hG (by omega)
   have cls: ∀(jl:List lJ) (D:Nat) (w:World) (a:Act),za ds P N ops as rows dB a0 mask D off jl l1 fl C w a->jl.map (·.idx)=iI.map (·.idx)-> ∀j∈Region.ready .any ops (cI ops.size D),(∃p∈jl,p.idx=j /\ p.y=none) \/ j=i:=by
    intro jl D w a eQ lE j hj;obtain⟨y,g1,g2,g3,g4⟩:=uJ as kc bg hj eQ.dn;have VQ:ia (mask ||| bitsOf (iQ rows dB mask)) y=true:=Qo g4 (fun k hk=>by
     rw [alY,al9]
     rcases(eQ.sub k).1 hk with h | ⟨p,hp,h,_⟩
     ·exact .inl h
     ·obtain⟨z,q1,_,_,q4,q5,_⟩:=eQ.uG p hp;exact .inr (wI (by rw [<-h];exact wK q4 (eQ.pm p hp) q1 q5)))
    have:=ame.1 c6 y (ala g1);simp only [al9,alS,g2] at this
    rcases this with ((h | h) | h) | h
    ·rw [(eQ.sub j).2 (.inl h)] at g3;cases g3
    ·obtain⟨p,hp,he⟩:=VT j h;have RN:j∈jl.map (·.idx):=by rw [lE];exact alu.2 ⟨p,hp,he⟩
     obtain⟨p',uv,iD⟩:=alu.1 RN;refine .inl ⟨p',uv,iD,?_⟩
     cases hy:p'.y with
     | none=>rfl
     | some ad=>rw [(eQ.sub j).2 (.inr ⟨p',uv,iD,by rw [hy];simp⟩)] at g3;cases g3
    ·exact .inr (alB h).symm
    ·rw [VQ] at h;cases h
   cases iI with
   | nil=>
    simp only at h1;have RN: ∃m',m=m'+1:=by
     have DE:D.testBit i=false:=by
      cases hd:D.testBit i with
      | false=>rfl
      | true=>
       rcases(qF.sub i).1 hd with h1 | ⟨p,hp,h1,_⟩
       ·rw [c4] at h1;cases h1
       ·cases hp
     obtain⟨m',h1,_⟩:=FB av DE hm;exact⟨m',h1⟩
    obtain⟨m',rfl⟩:=RN;obtain⟨DE,jh,hw⟩:=MR [] D w a m' qF h1 hm;refine⟨fun hr=>?_,fun j hj=>?_⟩
    ·have:=mT as kc bg lD jh DE qF.dn;rw [hr] at this;cases this
    ·rcases cls [] D w a qF rfl j hj with ⟨p,hp,_⟩ | rfl
     ·cases hp
     ·rw [hx.1] at hw;exact hw
   | cons p ps=>
    simp only at h1;have hF:=Bu (K:=fun iI w1=>oh P N ops split (eB x) l1 fl C w1 fun l' lO C' w'=>GB P N ops split rows r (mask ||| 2 ^ i) off iI l' lO C' w' K) h1;refine IU hs kc bg zb (base:=p :: ps) (fun x hx D hD=>te hx hD) ?_ (p :: ps).length (p :: ps) D w a m hF rfl (wH _) rfl (anC _ _) qF hm;intro jl D w a m hu lE VR eQ gG;have hlen:(jl.map (·.y)).length=(p :: ps).length:=by
     have:=congrArg List.length lE
     simpa using this
    have hd:=VR hlen;rw [hu] at hd;have DE:D.testBit i=false:=by
     cases hd:D.testBit i with
     | false=>rfl
     | true=>
      rcases(eQ.sub i).1 hd with h1 | ⟨p,hp,h1,_⟩
      ·rw [c4] at h1;cases h1
      ·obtain⟨y,_,_,_,h4,_⟩:=eQ.uG p hp;rw [h1,c2] at h4;cases h4
    have jh:=te c3 (fun j hj=>(eQ.sub j).2 (.inl hj));refine .inr ⟨⟨i,mT as kc bg lD jh DE eQ.dn⟩,fun j hj=>?_⟩
    rcases cls jl D w a eQ lE j hj with h | rfl
    ·exact .inl h
    ·refine .inr fun m' WV=>?_;obtain⟨_,_,hw⟩:=MR jl D w a m' eQ hd (by omega);rw [hx.1] at hw;exact hw
 | .settle i :: r,mask,wait,pend,l,fl,C,w,D,a,m,hc,bW,h,hm=>by
  have ih:=Af hP hs hQ as kc rows bg dB zb hK r (split:=split);simp only [jJ,alD] at hc;simp only [GB] at h;obtain⟨⟨c1,c6⟩,c7⟩:=hc;unfold ZT at h;obtain⟨l1,more,h1,qF,tc⟩:=Dz (wait.filter (ia mask)) (wait.filter fun y=> !ia mask y) pend l (fun y hy=>(ama.1 hy).2) (bW.perm (ou _ _)) h;generalize pend++more=iI at h1 qF tc;generalize fm:(wait.filter fun y=> !ia mask y)=off at h1 qF;have VT: ∀j,has (iQ rows dB mask) j=true-> ∃p∈iI,p.idx=j:=by
   intro j hj;obtain⟨g1,g2,y,g3,g4⟩:=wJ hj
   rcases qF.all j g1 g2 (ak6.1 g3).1 with h | ⟨y',wB,he⟩
   ·exact h
   ·have q:=(qF.wt y' wB).1;rw [he,g3] at q;obtain rfl:=alm q;rw [<-fm,ama,g4] at wB;exact absurd wB.2 (by simp)
  cases iI with
  | nil=>simp only [List.find?_nil] at h1
  | cons p ps=>
   simp only at h1;have hF:=Bu (K:=fun iI w1=>match iI.find? fun p=>Nat.beq p.idx i with
    | some p=>td p.y fun ad=>GB P N ops split rows r (mask ||| 2 ^ i) off (iI.filter fun p=> !Nat.beq p.idx i) ((p.dst,some (p.val ad)) :: l1) fl C w1 K
    | none=>False) h1
   refine IU hs kc bg zb (base:=p :: ps) (fun x hx D hD=>te hx hD) ?_ (p :: ps).length (p :: ps) D w a m hF rfl (wH _) rfl (anC _ _) qF hm;intro jl D w a m hu lE VR eQ gG;have hlen:(jl.map (·.y)).length=(p :: ps).length:=by
    have:=congrArg List.length lE
    simpa using this
   have hd:=VR hlen;rw [hu] at hd
   split at hd
   ·rename_i q hq
    have ZW:q∈jl:=amT hq;have ZX:q.idx=i:=alB (by have:=ans hq;exact this)
    cases hy:q.y with
    | some ad=>
     left;rw [hy] at hd;have:=eQ.settle bg zb ZW hy;rw [ZX] at this;exact ih _ _ _ _ _ _ _ _ _ _ c7 this hd gG
    | none=>
     right;have DE:D.testBit i=false:=by
      cases hdd:D.testBit i with
      | false=>rfl
      | true=>
       rcases(eQ.sub i).1 hdd with h1 | ⟨p,hp,h1,h2⟩
       ·have:=eQ.pm q ZW;rw [ZX,h1] at this;cases this
       ·have:p=q:=by
         obtain⟨j,hj⟩:=aly hp;obtain⟨k,hk⟩:=aly ZW;by_cases e:j=k
         ·subst e;exact alm (hj.symm.trans hk)
         ·exact absurd (h1.trans ZX.symm) (DC eQ.Fy hj hk e)
        rw [this,hy] at h2;exact absurd rfl h2
     obtain⟨z,q1,_,_,q4,q5,_⟩:=eQ.uG q ZW;rw [ZX] at q1;have jh:=te q5 (fun j hj=>(eQ.sub j).2 (.inl hj));refine⟨⟨i,mT as kc bg q1 jh DE eQ.dn⟩,fun j hj=>?_⟩;obtain⟨y,g1,g2,g3,g4⟩:=uJ as kc bg hj eQ.dn;have VQ:ia (mask ||| bitsOf ((iQ rows dB mask).filter fun j=> !Nat.beq j i)) y=true:=Qo g4 (fun k hk=>by
      rw [alY,al9]
      rcases(eQ.sub k).1 hk with h | ⟨p,hp,h,_⟩
      ·exact .inl h
      ·obtain⟨z,q1,_,_,q4,q5,_⟩:=eQ.uG p hp;refine .inr (wI (ama.2 ⟨by rw [<-h];exact wK q4 (eQ.pm p hp) q1 q5,?_⟩))
       cases hb:Nat.beq k i with
       | false=>rfl
       | true=>
        have:=alB hb;rw [this,DE] at hk;cases hk)
     have:=ame.1 c6 y (ala g1);simp only [al9,alS,g2,Bool.or_false] at this
     rcases this with (h | h) | h
     ·rw [(eQ.sub j).2 (.inl h)] at g3;cases g3
     ·obtain⟨p,hp,he⟩:=VT j h;have RN:j∈jl.map (·.idx):=by rw [lE];exact alu.2 ⟨p,hp,he⟩
      obtain⟨p',uv,iD⟩:=alu.1 RN;refine .inl ⟨p',uv,iD,?_⟩
      cases hy:p'.y with
      | none=>rfl
      | some ad=>rw [(eQ.sub j).2 (.inr ⟨p',uv,iD,by rw [hy];simp⟩)] at g3;cases g3
     ·rw [VQ] at h;cases h
   ·exact hd.elim
def zc (rows:List Row):List Nat:=(rows.filter (MX rows)).map (·.idx)
def wL (rows:List Row) (dB:List Nat):List Row:=rows.filter fun y=>has dB y.idx
def allRows (P:Program) (ops:Array Oper):List Row:=rowsOf P 0 ops.toList (hZ ops.toList [])
def vL (P:Program) (ops:Array Oper):List WN:=rI (allRows P ops) (zc (allRows P ops)) ops.size 0
def M4 (P:Program) (ops:Array Oper):Bool:=
 Region.noSelect ops && ka ops (allRows P ops) (zc (allRows P ops)) && jJ P ops (allRows P ops) (zc (allRows P ops)) (vL P ops) 0
theorem RO (n:Nat):ot n 0<=n:=by
 unfold ot;exact amO (anC _ _) (by simp)
theorem DF {split:Bool} (hP:A6 P) (hc:M4 P ops=true) {Q:Exit->Act->World->Prop} (hQ: ∀c a w,¬Q (.panic c) a w) {a:Act} {l:Env} {w:World} {K:Env->World->Prop} (hl:bX ds N a l)
  (hK: ∀a' l' w',lQ (dstsOf ops.toList) a a'->bX ds N a' l'->K l' w'->Q .normal a' w')
  (h:GB P N ops split (allRows P ops) (vL P ops) 0 (wL (allRows P ops) (zc (allRows P ops))) [] l [] [] w K):
  cL P .any ops (hZ ops.toList []) Q [] ops.size (cI ops.size 0) a w:=by
 unfold M4 at hc;simp only [alD] at hc;obtain⟨⟨h1,h2⟩,h3⟩:=hc;refine Af hP h1 hQ _ rfl (allRows P ops) rfl (zc (allRows P ops)) h2 (a0:=a) hK (vL P ops) 0 _ [] l [] [] w 0 a ops.size h3 ?_ h (RO _);have wM: ∀(i:Nat) (y:Row),(allRows P ops)[i]? =some y->y.idx=i:=fun i y hy=>(ec (P:=P) (ops:=ops) (rows:=allRows P ops) rfl hy).1;have RP: ∀y∈allRows P ops,(allRows P ops)[y.idx]? =some y:=by
  intro y hy;obtain⟨i,hi⟩:=aly hy;rw [wM i y hi];exact hi
 refine{ env:=hl,GC:=(fun _ h=>by cases h),cells:=by simp,uG:=by simp,free:=by simp,Fy:=by simp,pm:=by simp,sub:=by simp,dn:=by simp,wt:=?_,IT:=?_,all:=?_,off:=lQ.refl _ _}
 ·intro y hy;unfold wL at hy;rw [ama] at hy;exact⟨RP y hy.1,hy.2,by simp,by simp⟩
 ·unfold wL;refine(List.filter_sublist.map _).nodup ?_;refine anw.2 (amG.2 ?_);intro i j hi hj iZ he;rw [wM i _ (alf hi),wM j _ (alf hj)] at he;omega
 ·intro i h1 _ h3;refine .inr ⟨(allRows P ops)[i],?_,wM i _ (alf h3)⟩;unfold wL;rw [ama];refine⟨alz _,?_⟩;rw [wM i _ (alf h3)];exact h1
end
end Go.Den
end

section
namespace Go.Den
variable {ds:List Deferred}
def RQ (P:Program) (op:Op):Bool:=
 match op with
 | .move _ | .pick _ _ _ | .unOp _ _ _ | .extract _ _=>true
 | .binOp o t _ y _=>
  match o with
  | .quo | .rem | .shl | .shr=>false
  | _=>match P.underlying t with
   | some (.int _) | some .bool=>true
   | some .string=>match o with
    | .add=>false
    | _=>true
   | some (.pointer _) | some (.slice _) | some (.map _ _)=>isConst y
   | _=>false
 | .call c=>match c.callee,c.argTypes.toList with
  | .builtin .len,[t]=>match P.underlying t with
   | some (.slice _) | some .string=>true
   | _=>false
  | _,_=>false
 | .convert src dst _=>match P.underlying src,P.underlying dst with
  | some (.int _),some (.int _)=>true
  | _,_=>false
 | _=>false
def splits (P:Program) (ops:Array Oper):Bool:=ops.toList.any fun o=>o.guard.isSome && !RQ P o.op
def pA (P:Program) (N:Nat) (ops:Array Oper) (draw:Bool) (l:Env) (w:World) (K:Env->World->Prop):Prop:=
 match draw with
 | false=>IE P N ops (splits P ops) (pt 0 ops.toList) l [] [] w K
 | true=>cond (II P ops) (IE P N ops (splits P ops) (MT P ops) l [] [] w.drew K)
   (cond (M4 P ops) (GB P N ops (splits P ops) (allRows P ops) (vL P ops) 0 (wL (allRows P ops) (zc (allRows P ops))) [] l [] [] w.drew K)
   (cond (Dy P ops) (VP P N ops (splits P ops) (Ad P ops) (MU P ops) l [] [] w.drew K) False))
structure Hint where
 kW:List (Nat×Kd)
 cn:List Nat
structure Hints where
 loops:List (Nat×Hint)
 WW:List (Nat×Hint)
def Qp:List (Nat×Hint)->Nat->Option Hint
 | [],_=>none
 | (k,h) :: r,n=>cond (Nat.beq k n) (some h) (Qp r n)
def jm:Code->Option Nat
 | .region id _ _=>some id
 | .seq a b=>match jm a with
  | some r=>some r
  | none=>jm b
 | .cond _ a b=>match jm a with
  | some r=>some r
  | none=>jm b
 | .block _ c=>jm c
 | .loop c=>jm c
 | .scope c=>jm c
 | _=>none
def IV (hs:List (Nat×Hint)) (c:Code):Option Hint:=
 match hs with
 | []=>none
 | h :: t=>match jm c with
  | some r=>Qp (h :: t) r
  | none=>none
def writes:Code->List Nat
 | .region _ ops _=>dstsOf ops.toList
 | .seq a b=>writes a++writes b
 | .cond _ a b=>writes a++writes b
 | .block _ c=>writes c
 | .loop c=>writes c
 | _=> []
def mU (l:Env):List Nat->Option Env
 | []=>some []
 | t :: r=>match gt l t,mU l r with
  | some (some v),some e=>some ((t,some v) :: e)
  | _,_=>none
def il (l:Env):List Nat->Option (List Value)
 | []=>some []
 | t :: r=>match gt l t,il l r with
  | some (some v),some e=>some (v :: e)
  | _,_=>none
def mV:List (Nat×Kd)->List Value->Env
 | (t,_) :: r,v :: vs=>(t,some v) :: mV r vs
 | _,_=> []
def kept (c:Code) (ts:List Nat):Bool:=ts.all fun t=> !((writes c).any (Nat.beq t))
def jH (P:Program) (N:Nat) (H:Hints):Code->Env->(Exit->Env->World->Prop)->World->Prop
 | .skip,l,Q,w=>Q .normal l w
 | .label _,l,Q,w=>Q .normal l w
 | .region _ ops draw,l,Q,w=>pA P N ops draw l w fun l' w'=>Q .normal l' w'
 | .seq a b,l,Q,w=>
  match IV H.WW b with
  | none=>jH P N H a l (fun e l' w'=>match e with
   | .normal=>jH P N H b l' Q w'
   | e=>Q e l' w') w
  | some h=>cond (kept a h.cn) (match mU l h.cn with
   | none=>False
   | some kl=> ∃J:Fn (h.kW.map (·.2)) (World->Prop),
     jH P N H a l (fun e l' w'=>match e with
      | .normal=>match il l' (h.kW.map (·.1)) with
       | some vs=>lM (h.kW.map (·.2)) vs (fun r=>r w') J
       | none=>False
      | e=>Q e l' w') w /\
     MM (h.kW.map (·.2)) J fun vs r=> ∀w',r w'->jH P N H b (mV h.kW vs++kl) Q w') False
 | .cond c x y,l,Q,w=>
  match look l [] [] c with
  | some (.bool b)=>if b=true then jH P N H x l Q w else jH P N H y l Q w
  | _=>False
 | .block id c,l,Q,w=>jH P N H c l (fun e l' w'=>match e with
   | .exit RR=>cond (Nat.beq RR id) (Q .normal l' w') (Q (.exit RR) l' w')
   | e=>Q e l' w') w
 | .loop c,l,Q,w=>
  match IV H.loops c with
  | none=>False
  | some h=>cond (kept c h.cn) (match mU l h.cn,il l (h.kW.map (·.1)) with
   | some kl,some ZY=> ∃Inv:Fn (h.kW.map (·.2)) (Nat->World->Prop),
     lM (h.kW.map (·.2)) ZY (fun r=> ∃n,r n w) Inv /\
     MM (h.kW.map (·.2)) Inv fun vs r=> ∀n w',r n w'->
      jH P N H c (mV h.kW vs++kl) (fun e l' Mr=>match e with
       | .normal=>match il l' (h.kW.map (·.1)) with
        | some RS=>lM (h.kW.map (·.2)) RS (fun r'=> ∃n',n' < n /\ r' n' Mr) Inv
        | none=>False
       | e=>Q e l' Mr) w'
   | _,_=>False) False
 | .exit id,l,Q,w=>Q (.exit id) l w
 | .ret,l,Q,w=>Q .ret l w
 | _,_,_,_=>False
def jn (P:Program) (l:Env) (w:World):List ResultVar->(List Value->Prop)->Prop
 | [],K=>K []
 | .tmp t :: r,K=>match gt l t with
  | some (some v)=>jn P l w r fun vs=>K (v :: vs)
  | _=>False
 | .cell t ty :: r,K=>match gt l t with
  | some (some (.pointer p))=>NN p fun a=>Bj P ty w a fun v=>jn P l w r fun vs=>K (v :: vs)
  | _=>False
def pB:Nat->List Value->Env
 | _,[]=> []
 | i,v :: vs=>(i,some v) :: pB (i+1) vs
def IW (P:Program) (H:Hints) (fn:Func) (args:List Value) (K:Value->World->Prop) (w:World):Prop:=
 match fn.body with
 | none=>False
 | some c=>cond (Nat.ble args.length fn.ntmps) (jH P fn.ntmps H c (pB 0 args) (fun e l w'=>match e with
   | .normal=>jn P l w' fn.results.toList fun vs=>K (jG vs) w'
   | .ret=>jn P l w' fn.results.toList fun vs=>K (jG vs) w'
   | _=>False) w) False
section
variable {P:Program} {N:Nat} {H:Hints}
theorem jy.nil {a:Act}:jy a []:=fun _ h=>by cases h
theorem tf: ∀(i:Nat) (os:List Oper),(pt i os).map (·.o)=os
 | _,[]=>rfl
 | i,o :: r=>by simp [pt,tf (i+1) r]
theorem Ag (hP:A6 P) {ops:Array Oper} {l:Env} {w:World} {a:Act} {K:Env->World->Prop} (hl:bX ds N a l)
  (h:pA P N ops false l w K):wpList P ops (fun e a' w'=>e=.normal /\ lQ (dstsOf ops.toList) a a' /\ ∃l',bX ds N a' l' /\ K l' w') ops.toList a w:=by
 unfold pA at h;simp only at h;have:=yY (Q:=fun e a' w'=>e=.normal /\ lQ (dstsOf ops.toList) a a' /\ ∃l',bX ds N a' l' /\ K l' w') hP (pt 0 ops.toList) hl jy.nil h (by
  intro a' l' w' ho dQ hK;refine⟨rfl,ho.mono ?_,l',dQ,hK⟩;intro t ht;have e:lA (pt 0 ops.toList)=dstsOf ops.toList:=by
   conv=>rhs;rw [<-tf 0 ops.toList]
   simp [lA,dstsOf,List.filterMap_map,Function.comp_def]
  rw [<-e];exact ht)
 rw [tf] at this;exact this
theorem Bv (hP:A6 P) {ops:Array Oper} {l:Env} {w:World} {a:Act} {K:Env->World->Prop} (hl:bX ds N a l)
  (h:pA P N ops true l w K):wpAny P .any ops (fun e a' w'=>e=.normal /\ lQ (dstsOf ops.toList) a a' /\ ∃l',bX ds N a' l' /\ K l' w') ops.size (Array.replicate ops.size false) a { w with drawn:=w.drawn+1}:=by
 unfold pA at h;simp only at h
 cases hb:II P ops with
 | false=>
  rw [hb] at h;simp only [cond_false] at h
  cases hf:M4 P ops with
  | true=>
   rw [hf] at h;simp only [cond_true] at h;refine mO (as:=hZ ops.toList []) (C:= []) _ _ _ _ ?_;have:=DF hP hf (Q:=fun e a' w'=>e=.normal /\ lQ (dstsOf ops.toList) a a' /\ ∃l',bX ds N a' l' /\ K l' w') (fun c a w hq=>by cases hq.1) hl (fun a' l' w' ho dQ hK=>⟨rfl,ho,l',dQ,hK⟩) h;rw [qD] at this;exact this
  | false=>
  rw [hf] at h;simp only [cond_false] at h
  cases ht:Dy P ops with
  | false=>rw [ht] at h;exact h.elim
  | true=>
   rw [ht] at h;simp only [cond_true] at h;unfold Dy at ht;simp only [alD] at ht;obtain⟨⟨WX,Ik⟩,ht3⟩:=ht;refine mO (as:=hZ ops.toList []) (C:= []) _ _ _ _ ?_;have:=(vH hP WX (Q:=fun e a' w'=>e=.normal /\ lQ (dstsOf ops.toList) a a' /\ ∃l',bX ds N a' l' /\ K l' w') (fun c a w hq=>by cases hq.1) _ rfl
    (Ad P ops) rfl (a0:=a) (K:=K) (fun a' l' w' ho dQ hK=>⟨rfl,ho,l',dQ,hK⟩) (MU P ops) true 0 ops.size (ang Ik)
    (fun j hj=>by simp at hj) (fun _ hx=>(by cases hx)) ht3 hl jy.nil (lQ.refl _ _) h).1 rfl
   rw [qD] at this;exact this
 | true=>
  rw [hb] at h;simp only [cond_true] at h;unfold II at hb;simp only [alD] at hb;obtain⟨⟨n9,gO⟩,rA⟩:=hb;refine mO (as:=hZ ops.toList []) (C:= []) _ _ _ _ ?_;have:=Bo hP n9 (Q:=fun e a' w'=>e=.normal /\ lQ (dstsOf ops.toList) a a' /\ ∃l',bX ds N a' l' /\ K l' w') (fun c a w hq=>by cases hq.1) _ rfl
   (rD (rowsOf P 0 ops.toList (hZ ops.toList []))) 0 (fun x hx=>uz hx) (fun j hj=>by simp at hj) (fun _ hx=>(by cases hx)) rA hl jy.nil h (by
    intro a' l' w' ho dQ hK;refine⟨rfl,ho.mono ?_,l',dQ,hK⟩;intro t ht;simp only [lA,anR,alu] at ht;obtain⟨it,⟨x,hx,rfl⟩,hd⟩:=ht;obtain⟨jj,h1,_⟩:=iP (uz hx);simp only [dstsOf,anR];exact⟨x.o,ala h1,hd⟩)
  rw [qD,alB gO] at this;exact this
theorem DG (hP:A6 P) {id:Nat} {ops:Array Oper} {draw:Bool} {l:Env} {w:World} {a:Act} {K:Env->World->Prop} (hl:bX ds N a l)
  (h:pA P N ops draw l w K):(Code.region id ops draw).wp P (fun e a' w'=>e=.normal /\ lQ (dstsOf ops.toList) a a' /\ ∃l',bX ds N a' l' /\ K l' w') a w:=by
 cases draw with
 | false=>exact wp_region_list (Ag hP hl h)
 | true=>exact wp_region_any hP.mixed (Bv hP hl h)
theorem RT {l:Env} {a:Act} (h: ∀t v,(t,some v)∈l->a.tmps[t]? =some v): ∀t v,gt l t=some (some v)->a.tmps[t]? =some v:=by
 induction l with
 | nil=>intro t v hg;simp [gt] at hg
 | cons x r ih=>
  intro t v hg;obtain⟨j,u⟩:=x;simp only [gt] at hg
  cases hb:Nat.beq j t with
  | true=>
   rw [hb] at hg;simp only [cond_true,ald] at hg;subst hg;rw [<-alB hb];exact h j v (by simp)
  | false=>rw [hb] at hg;exact ih (fun t v ht=>h t v (by simp [ht])) t v hg
theorem uK {l:Env}: ∀{ts:List Nat} {kl:Env},mU l ts=some kl-> ∀t v,(t,some v)∈kl->t∈ts /\ gt l t=some (some v)
 | [],kl,h,t,v,hm=>by simp only [mU,ald] at h;subst h;cases hm
 | x :: r,kl,h,t,v,hm=>by
  simp only [mU] at h
  split at h
  ·rename_i u e hg hk
   simp only [ald] at h;subst h
   rcases alF.1 hm with hm | hm
   ·simp only [amA,ald] at hm;obtain⟨rfl,rfl⟩:=hm;exact⟨by simp,hg⟩
   ·obtain⟨h1,h2⟩:=uK hk t v hm;exact⟨by simp [h1],h2⟩
  ·cases h
theorem wN {a:Act} {l:Env} (hl: ∀t v,gt l t=some (some v)->a.tmps[t]? =some v): ∀{ms:List (Nat×Kd)} {vs:List Value},il l (ms.map (·.1))=some vs->
  ∀t v,(t,some v)∈mV ms vs->a.tmps[t]? =some v
 | [],vs,h,t,v,hm=>by simp [mV] at hm
 | (x,k) :: r,vs,h,t,v,hm=>by
  simp only [alR,il] at h
  split at h
  ·rename_i u e hg hk
   simp only [ald] at h;subst h;simp only [mV] at hm
   rcases alF.1 hm with hm | hm
   ·simp only [amA,ald] at hm;obtain⟨rfl,rfl⟩:=hm;exact hl _ _ hg
   ·exact wN hl hk t v hm
  ·cases h
theorem M5 {c:Code} {ts:List Nat} (h:kept c ts=true): ∀t∈ts,t ∉ writes c:=by
 intro t ht hw;have:=ame.1 h t ht;simp only [alS] at this;have h2:(writes c).any (Nat.beq t)=true:=anm.2 ⟨t,hw,by simp⟩;rw [h2] at this
 cases this
theorem zd {a a':Act} {l l' kl:Env} {h:Hint} {vs:List Value} {c:Code} (hl:bX ds N a l) (dQ:bX ds N a' l') (ho:lQ (writes c) a a') (hk:kept c h.cn=true)
  (cO:mU l h.cn=some kl) (hv:il l' (h.kW.map (·.1))=some vs):bX ds N a' (mV h.kW vs++kl):=by
 refine⟨dQ.size,dQ.defers,RT ?_⟩;intro t v hm
 rcases alg.1 hm with hm | hm
 ·exact wN dQ.De hv t v hm
 ·obtain⟨h1,h2⟩:=uK cO t v hm;rw [ho t (M5 hk t h1)];exact hl.De t v h2
def abx (ds:List Deferred) (N:Nat) (ws:List Nat) (a:Act) (Q:Exit->Env->World->Prop):Exit->Act->World->Prop:=
 fun e a' w'=>lQ ws a a' /\ ∃l',bX ds N a' l' /\ Q e l' w'
theorem fT (hP:A6 P): ∀(c:Code) {l:Env} {Q:Exit->Env->World->Prop} {w:World} {a:Act},bX ds N a l->jH P N H c l Q w->
  c.wp P (abx ds N (writes c) a Q) a w
 | .skip,l,Q,w,a,hl,h=>wp_skip ⟨lQ.refl _ _,l,hl,h⟩
 | .label _,l,Q,w,a,hl,h=>wp_label ⟨lQ.refl _ _,l,hl,h⟩
 | .region id ops draw,l,Q,w,a,hl,h=>by
  refine wp_mono (DG hP hl h) ?_;rintro e a' w' ⟨rfl,ho,l',dQ,hK⟩;exact⟨ho,l',dQ,hK⟩
 | .seq x y,l,Q,w,a,hl,h=>by
  have ZZ:=fun{l Q w a}=>fT hP x (l:=l) (Q:=Q) (w:=w) (a:=a);have Z0:=fun{l Q w a}=>fT hP y (l:=l) (Q:=Q) (w:=w) (a:=a);unfold jH at h;refine wp_seq ?_
  split at h
  ·refine wp_mono (ZZ hl h) ?_;rintro e a' w' ⟨ho,l',dQ,hq⟩;have WY:lQ (writes (.seq x y)) a a':=ho.mono fun t ht=>by simp [writes,ht]
   cases e with
   | normal=>
    refine wp_mono (Z0 dQ hq) ?_;rintro e a'' Mr ⟨mI,l'',RU,IX⟩;exact⟨WY.trans (mI.mono fun t ht=>by simp [writes,ht]),l'',RU,IX⟩
   | _=>exact⟨WY,l',dQ,hq⟩
  ·rename_i hh _
   cases hb:kept x hh.cn with
   | false=>rw [hb] at h;exact h.elim
   | true=>
    rw [hb] at h;simp only [cond_true] at h
    split at h
    ·exact h.elim
    ·rename_i kl cO
     obtain⟨J,h1,h2⟩:=h;refine wp_mono (ZZ hl h1) ?_;rintro e a' w' ⟨ho,l',dQ,hq⟩;have WY:lQ (writes (.seq x y)) a a':=ho.mono fun t ht=>by simp [writes,ht]
     cases e with
     | normal=>
      simp only at hq
      split at hq
      ·rename_i vs Ms
       obtain⟨r,hr,gO⟩:=rj hq h2;refine wp_mono (Z0 (zd hl dQ ho hb cO Ms) (gO w' hr)) ?_;rintro e a'' Mr ⟨mI,l'',RU,IX⟩;exact⟨WY.trans (mI.mono fun t ht=>by simp [writes,ht]),l'',RU,IX⟩
      ·exact hq.elim
     | _=>exact⟨WY,l',dQ,hq⟩
 | .cond c x y,l,Q,w,a,hl,h=>by
  have ZZ:=fun{l Q w a}=>fT hP x (l:=l) (Q:=Q) (w:=w) (a:=a);have Z0:=fun{l Q w a}=>fT hP y (l:=l) (Q:=Q) (w:=w) (a:=a);unfold jH at h
  split at h
  ·rename_i b hb
   have he:=pq hl jy.nil lS c _ hb;refine wp_cond he ?_
   cases b with
   | true=>
    simp only [if_true] at h ⊢;refine wp_mono (ZZ hl h) ?_;rintro e a' w' ⟨ho,r⟩;exact⟨ho.mono fun t ht=>by simp [writes,ht],r⟩
   | false=>
    simp only [amk,if_false] at h ⊢;refine wp_mono (Z0 hl h) ?_;rintro e a' w' ⟨ho,r⟩;exact⟨ho.mono fun t ht=>by simp [writes,ht],r⟩
  ·exact h.elim
 | .block id c,l,Q,w,a,hl,h=>by
  have ih:=fun{l Q w a}=>fT hP c (l:=l) (Q:=Q) (w:=w) (a:=a);unfold jH at h;refine wp_block (wp_mono (ih hl h) ?_);rintro e a' w' ⟨ho,l',dQ,hq⟩
  cases e with
  | exit RR=>
   simp only [Exit.inBlock];simp only at hq;by_cases Z1:RR=id
   ·rw [if_pos Z1];have:Nat.beq RR id=true:=by rw [Z1];simp
    rw [this] at hq;exact⟨ho,l',dQ,hq⟩
   ·rw [if_neg Z1];have:Nat.beq RR id=false:=by
     cases hb:Nat.beq RR id with
     | false=>rfl
     | true=>exact absurd (alB hb) Z1
    rw [this] at hq;exact⟨ho,l',dQ,hq⟩
  | _=>exact⟨ho,l',dQ,hq⟩
 | .loop c,l,Q,w,a,hl,h=>by
  have ih:=fun{l Q w a}=>fT hP c (l:=l) (Q:=Q) (w:=w) (a:=a);unfold jH at h
  split at h
  ·exact h.elim
  ·rename_i hh _
   cases hb:kept c hh.cn with
   | false=>rw [hb] at h;exact h.elim
   | true=>
    rw [hb] at h;simp only [cond_true] at h
    split at h
    ·rename_i kl ZY cO abz
     obtain⟨Inv,h1,h2⟩:=h;have start: ∃(n:Nat) (vs:List Value) (r:Nat->World->Prop),il l (hh.kW.map (·.1))=some vs /\ r n w /\ (∀n w',r n w'->jH P N H c (mV hh.kW vs++kl) (fun e l' Mr=>match e with
       | .normal=>match il l' (hh.kW.map (·.1)) with
        | some RS=>lM (hh.kW.map (·.2)) RS (fun r'=> ∃n',n' < n /\ r' n' Mr) Inv
        | none=>False
       | e=>Q e l' Mr) w'):=by
      obtain⟨r,⟨n,hr⟩,hB⟩:=rj h1 h2;exact⟨n,ZY,r,abz,hr,hB⟩
     obtain⟨n0,vs,r0,Ms,hr0,WL⟩:=start;refine wp_loop_ghost (fun n a' w'=>lQ (writes c) a a' /\ ∃(l':Env) (vs:List Value) (r:Nat->World->Prop),bX ds N a' l' /\ il l' (hh.kW.map (·.1))=some vs /\ r n w' /\
       (∀n w',r n w'->jH P N H c (mV hh.kW vs++kl) (fun e l' Mr=>match e with
       | .normal=>match il l' (hh.kW.map (·.1)) with
        | some RS=>lM (hh.kW.map (·.2)) RS (fun r'=> ∃n',n' < n /\ r' n' Mr) Inv
        | none=>False
       | e=>Q e l' Mr) w')) n0 ⟨lQ.refl _ _,l,vs,r0,hl,Ms,hr0,WL⟩ ?_
     rintro n a1 w1 ⟨ho,l1,vs1,r1,Bw,abA,ze,ZS⟩;refine wp_mono (ih (zd hl Bw ho hb cO abA) (ZS n w1 ze)) ?_;rintro e a' w' ⟨mI,l',dQ,hq⟩
     cases e with
     | normal=>
      simp only at hq
      split at hq
      ·rename_i RS abB
       obtain⟨r',⟨n',av,WZ⟩,yE⟩:=rj hq h2;exact⟨n',av,ho.trans mI,l',RS,r',dQ,abB,WZ,yE⟩
      ·exact hq.elim
     | _=>exact⟨ho.trans mI,l',dQ,hq⟩
    ·exact h.elim
 | .exit id,l,Q,w,a,hl,h=>wp_exit ⟨lQ.refl _ _,l,hl,h⟩
 | .ret,l,Q,w,a,hl,h=>wp_ret ⟨lQ.refl _ _,l,hl,h⟩
 | .rangeFunc _ _ _ _,_,_,_,_,_,h=>h.elim
 | .scope _,_,_,_,_,_,h=>h.elim
 | .goto _,_,_,_,_,_,h=>h.elim
 | .refuse _,_,_,_,_,_,h=>h.elim
theorem wO: ∀{vs:List Value} {i t:Nat} {v:Value},gt (pB i vs) t=some (some v)->i<=t /\ vs[t - i]? =some v
 | [],i,t,v,h=>by simp [pB,gt] at h
 | u :: vs,i,t,v,h=>by
  simp only [pB,gt] at h
  cases hb:Nat.beq i t with
  | true=>
   rw [hb] at h;simp only [cond_true,ald] at h;have:=alB hb;subst this;simp [h]
  | false=>
   rw [hb] at h;obtain⟨h1,h2⟩:=wO h;refine⟨by omega,?_⟩;rw [show t - i=(t - (i+1))+1 by omega]
   simpa using h2
def GD (tmps:Array Value):ResultVar->Sem Value
 | .tmp t=>pure (tmps.getD t undef)
 | .cell x t=>do loadVar t (<-asAddr (tmps.getD x undef))
theorem DH (fn:Func) (tmps:Array Value):
  results fn tmps=(do let vs <-fn.results.mapM (GD tmps);pure (if h:vs.size=1 then vs[0] else .tuple vs)):=by
 unfold results;congr 1
theorem ow {a:Act} {l:Env} {w:World} (hl:bX ds N a l): ∀{rs:List ResultVar} {K:List Value->Prop},jn P l w rs K->
  ∃vs,(rs.mapM (GD a.tmps)).run P w=.ok vs w /\ K vs
 | [],K,h=>⟨[],by simp,h⟩
 | .tmp t :: r,K,h=>by
  simp only [jn] at h
  split at h
  ·rename_i v hv
   obtain⟨vs,hr,hK⟩:=ow hl h;have:=hl.De _ _ hv;have h1:(GD a.tmps (.tmp t)).run P w=.ok v w:=by simp [GD,this]
   exact⟨v :: vs,by simp only [List.mapM_cons,Sem.run_bind,h1,Result.andThen_ok,hr,Sem.run_pure],hK⟩
  ·exact h.elim
 | .cell t ty :: r,K,h=>by
  simp only [jn] at h
  split at h
  ·rename_i p hv
   obtain⟨ad,rfl,h1⟩:=ru h;obtain⟨v,abC,hv1,h2⟩:=Bk h1;obtain⟨vs,hr,hK⟩:=ow hl h2;have:=hl.De _ _ hv;have h1:(GD a.tmps (.cell t ty)).run P w=.ok v w:=by simp [GD,this,asAddr,hv1 w abC]
   exact⟨v :: vs,by simp only [List.mapM_cons,Sem.run_bind,h1,Result.andThen_ok,hr,Sem.run_pure],hK⟩
  ·exact h.elim
theorem Bx (hP:A6 P) {f:FuncId} {fn:Func} {args:List Value} {K:Value->World->Prop} {w:World} (hf:P.funcs[f]? =some fn)
  (h:IW P H fn args K w):Calls P f args.toArray w fun e w'=> ∃v,e=.returned v /\ K v w':=by
 unfold IW at h
 split at h
 ·exact h.elim
 ·rename_i c hc
  cases hb:Nat.ble args.length fn.ntmps with
  | false=>rw [hb] at h;exact h.elim
  | true=>
   rw [hb] at h;simp only [cond_true] at h;have hle:args.length<=fn.ntmps:=ang hb;refine calls_of_wp hf hc ?_;have hl:bX [] fn.ntmps ⟨args.toArray++Array.replicate (fn.ntmps - args.toArray.size) undef,[]⟩ (pB 0 args):=by
    refine⟨by simp;omega,rfl,fun t v ht=>?_⟩;obtain⟨_,h2⟩:=wO ht;simp only [Nat.sub_zero] at h2;have av:=(ak6.1 h2).1;rw [Array.getElem?_append_left (by simpa using av)]
    simpa using h2
   refine wp_mono (fT hP c hl h) ?_;rintro e a' w' ⟨_,l',dQ,hq⟩;have fin:jn P l' w' fn.results.toList (fun vs=>K (jG vs) w')->a'.defers= [] /\ ∃v,(results fn a'.tmps).run P w'=.ok v w' /\ ∃v',Ending.returned v=.returned v' /\ K v' w':=by
    intro hr;obtain⟨vs,hv,hK⟩:=ow dQ hr;refine⟨dQ.defers,jG vs,?_,jG vs,rfl,hK⟩;rw [DH,Array.mapM_eq_mapM_toList];simp only [Sem.run_bind,Sem.run_map,hv,Result.andThen_ok,Sem.run_pure];congr 1;unfold jG
    split
    ·rename_i h1
     have hlen:vs.length=1:=by simpa using h1
     match vs,hlen with
     | [v],_=>rfl
    ·rename_i h1
     have hlen:vs.length≠1:=by simpa using h1
     match vs,hlen with
     | [],_=>rfl
     | _ :: _ :: _,_=>rfl
   cases e with
   | normal=>exact fin hq
   | ret=>exact fin hq
   | _=>exact hq.elim
theorem ah (hP:A6 P) {f:FuncId} {fn:Func} {args:List Value} {nS:List Sh} {R:Fn (nD nS) (World->Prop)} {w:World} (hf:P.funcs[f]? =some fn)
  (h:IW P H fn args (fun v w'=>dx nS v R w') w):ax P f args nS w R:=Bx hP hf h
end
end Go.Den
end

section
namespace Go.Den
def Dr (w:World) (K:World->Prop):Prop:=K w.drew
end Go.Den
end

section
namespace Go.Den
open Go.RowKit
structure Fr (S:List Nat) (w w':World):Prop where
 os:w'.os=w.os
 tape:w'.tape=w.tape
 output:w'.output=w.output
 size:w.heap.size<=w'.heap.size
 block: ∀k,k < w.heap.size->k ∉ S->w'.heap[k]? =w.heap[k]?
theorem Fr.refl (S:List Nat) (w:World):Fr S w w:=⟨rfl,rfl,rfl,alA _,fun _ _ _=>rfl⟩
theorem Fr.trans {S S':List Nat} {a b c:World} (h:Fr S a b) (h':Fr S' b c) (hs: ∀k∈S',k∈S \/ a.heap.size<=k):Fr S a c:=
 ⟨h'.os.trans h.os,h'.tape.trans h.tape,h'.output.trans h.output,amO h.size h'.size,fun k hk hn=>
  (h'.block k (amV hk h.size) (fun hm=>(hs k hm).elim hn (fun hl=>by omega))).trans (h.block k hk hn)⟩
theorem Fr.mono {S S':List Nat} {a b:World} (h:Fr S a b) (hs: ∀k∈S,k∈S' \/ a.heap.size<=k):Fr S' a b:=
 ⟨h.os,h.tape,h.output,h.size,fun k hk hn=>h.block k hk fun hm=>(hs k hm).elim hn (fun hl=>by omega)⟩
theorem Fr.below {w w':World} (h:Fr [] w w'):Below w.heap.size w w':=⟨h.os,h.tape,h.output,h.size,fun k hk=>h.block k hk (by simp)⟩
theorem Fr.drew {S:List Nat} {a w:World} (h:Fr S a w):Fr S a w.drew:=⟨h.os,h.tape,h.output,h.size,h.block⟩
def fF (w:World) (b:Nat) (e:TypeId) (c:List Value):Prop:=w.heap[b]? =some (.cells c.toArray e (0,0))
theorem fF.lt {w:World} {b:Nat} {e:TypeId} {c:List Value} (h:fF w b e c):b < w.heap.size:=(als.1 h).1
theorem fF.fr {S:List Nat} {w w':World} {b:Nat} {e:TypeId} {c:List Value} (h:fF w b e c) (hf:Fr S w w') (hn:b ∉ S):fF w' b e c:=
 (hf.block b h.lt hn).trans h
theorem fF.cell {w:World} {b:Nat} {e:TypeId} {c:List Value} (h:fF w b e c) (o:Nat):w.cell? ⟨b,o,none⟩=c[o]? :=by
 unfold fF at h;simp [World.cell?,h]
theorem fF.frozen {w:World} {b:Nat} {e:TypeId} {c:List Value} (h:fF w b e c) (o:Nat):w.frozen? ⟨b,o,none⟩=false:=by
 unfold fF at h;simp [World.frozen?,h]
theorem fF.set {w:World} {b:Nat} {e:TypeId} {c:List Value} (h:fF w b e c) (o:Nat) (v:Value):fF (w.setCell ⟨b,o,none⟩ v) b e (c.set o v):=by
 unfold fF at h ⊢;simp only [World.setCell,an3,↓reduceIte,h,al8,Option.isSome_none,amk,if_false];congr 2;simp
theorem Fr.set {w:World} {b:Nat} (o:Nat) (v:Value):Fr [b] w (w.setCell ⟨b,o,none⟩ v):=
 ⟨rfl,rfl,rfl,by simp,fun k hk hn=>Below.heap_setCell w ⟨b,o,none⟩ v k (by simpa using hn)⟩
theorem Fr.alloc (w:World) (o:Obj):Fr [] w (w.alloc o):=⟨rfl,rfl,rfl,by simp,fun k hk _=>Below.heap_alloc w o k hk⟩
theorem fF.alloc (w:World) (c:List Value) (e:TypeId):fF (w.alloc (.cells c.toArray e)) w.heap.size e c:=by
 show (w.heap.push _)[w.heap.size]? =_;simp
theorem Addr.aU (b o n:Nat):(⟨b,o,none⟩:Addr).add n=⟨b,o+n,none⟩:=by
 unfold Addr.add;split <;> simp_all
@[simp] theorem gp (a:Addr) (K:Addr->Prop):NN (some a) K=K a:=rfl
theorem ld {k:Kd} {w:World} {b o:Nat} {e:TypeId} {c:List Value} {x:k.T} {K:k.T->Prop} (h:fF w b e c) (hx:c[o]? =some (k.inj x)) (hK:K x):Ld k w ⟨b,o,none⟩ K:=
 ⟨x,by rw [h.cell,hx],hK⟩
theorem nE {k:Kd} {w:World} {b n:Nat} {e:TypeId} {c:List Value} {x:k.T} {K:k.T->Prop} (h:fF w b e c) (hx:c[n]? =some (k.inj x)) (hK:K x):Ld k w ((⟨b,0,none⟩:Addr).add n) K:=by
 rw [Addr.aU,aml];exact ld h hx hK
theorem st {w:World} {b o:Nat} {e:TypeId} {c:List Value} {v:Value} {K:World->Prop} (h:fF w b e c) (ho:o < c.length) (hv:v.oneCell'=true)
  (hK: ∀w',fF w' b e (c.set o v)->Fr [b] w w'->w'.heap.size=w.heap.size->K w'):St ⟨b,o,none⟩ v w K:=
 ⟨hv,by rw [h.cell];simp [ho],h.frozen o,hK _ (h.set o v) (Fr.set o v) (by simp)⟩
theorem DI {w:World} {b n:Nat} {e:TypeId} {c:List Value} {v:Value} {K:World->Prop} (h:fF w b e c) (ho:n < c.length) (hv:v.oneCell'=true)
  (hK: ∀w',fF w' b e (c.set n v)->Fr [b] w w'->w'.heap.size=w.heap.size->K w'):St ((⟨b,0,none⟩:Addr).add n) v w K:=by
 rw [Addr.aU,aml];exact st h ho hv hK
theorem nw {w:World} {e:TypeId} {c:List Value} {K:Addr->World->Prop}
  (hK: ∀b w',b=w.heap.size->fF w' b e c->Fr [] w w'->w'.heap.size=w.heap.size+1->K ⟨b,0,none⟩ w'):Nw (.cells c.toArray e) w K:=
 hK _ _ rfl (fF.alloc w c e) (Fr.alloc w _) (by simp)
theorem dr {w:World} {K:World->Prop} (hK: ∀w',Fr [] w w'->w'.heap.size=w.heap.size->(∀b e c,fF w b e c->fF w' b e c)->K w'):Dr w K:=
 hK _ (Fr.refl [] w).drew rfl (fun _ _ _ h=>h)
def fK (w:World) (s:Sl) (e:TypeId) (vs:List Value) (o:List Nat):Prop:=
  vs.length=s.len /\
  ((s.a=none /\ s.len=0 /\ s.cap=0 /\ o= []) \/
   ∃b off c,s.a=some ⟨b,off,none⟩ /\ o= [b] /\ fF w b e c /\ s.len<=s.cap /\ off+s.cap<=c.length /\ (c.drop off).take s.len=vs)
theorem fK.nil {w:World} {e:TypeId}:fK w ⟨none,0,0⟩ e [] []:=⟨rfl,.inl ⟨rfl,rfl,rfl,rfl⟩⟩
theorem fK.len {w:World} {s:Sl} {e:TypeId} {vs:List Value} {o:List Nat} (h:fK w s e vs o):vs.length=s.len:=h.1
theorem fK.lt {w:World} {s:Sl} {e:TypeId} {vs:List Value} {o:List Nat} (h:fK w s e vs o): ∀k∈o,k < w.heap.size:=by
 rcases h.2 with ⟨_,_,_,rfl⟩ | ⟨b,off,c,_,rfl,hb,_⟩
 ·simp
 ·intro k hk;simp only [ali] at hk;subst hk;exact hb.lt
theorem fK.fr {S:List Nat} {w w':World} {s:Sl} {e:TypeId} {vs:List Value} {o:List Nat} (h:fK w s e vs o) (hf:Fr S w w') (hn: ∀k∈o,k ∉ S):fK w' s e vs o:=by
 refine⟨h.1,?_⟩
 rcases h.2 with h1 | ⟨b,off,c,h1,rfl,hb,h2⟩
 ·exact .inl h1
 ·exact .inr ⟨b,off,c,h1,rfl,hb.fr hf (hn b (by simp)),h2⟩
theorem fK.at {w:World} {s:Sl} {e:TypeId} {vs:List Value} {o:List Nat} (h:fK w s e vs o) {i:Nat} (hi:i < vs.length):
  ∃b off c,s.a=some ⟨b,off,none⟩ /\ o= [b] /\ fF w b e c /\ off+i < c.length /\ c[off+i]? =vs[i]? /\ s.len<=s.cap /\ off+s.cap<=c.length /\ (c.drop off).take s.len=vs:=by
 have hl:=h.1
 rcases h.2 with ⟨_,h1,_⟩ | ⟨b,off,c,h1,ho,hb,h2,h3,h4⟩
 ·omega
 ·refine⟨b,off,c,h1,ho,hb,by omega,?_,h2,h3,h4⟩;rw [<-h4,alU,if_pos (by omega),alZ]
theorem fz {k:Kd} {w:World} {s:Sl} {e:TypeId} {vs:List Value} {o:List Nat} {i:Int} {x:k.T} {K:k.T->Prop} (h:fK w s e vs o) (hi:0<=i) (hx:vs[i.toNat]? =some (k.inj x)) (hK:K x):
  Ix s.a s.len i 1 fun a=>Ld k w a K:=by
 have av:=(ak6.1 hx).1;obtain⟨b,off,c,h1,ho,hb,h2,h3,_⟩:=h.at av;refine⟨hi,by have:=h.1;omega,?_⟩;rw [h1];simp only [gp,amf,Addr.aU];exact ld hb (h3.trans hx) hK
theorem mW {w:World} {s:Sl} {e:TypeId} {vs:List Value} {o:List Nat} {i:Int} {v:Value} {K:World->Prop} (h:fK w s e vs o) (hi:0<=i) (av:i.toNat < vs.length) (hv:v.oneCell'=true)
  (hK: ∀w',fK w' s e (vs.set i.toNat v) o->Fr o w w'->w'.heap.size=w.heap.size->K w'):
  Ix s.a s.len i 1 fun a=>St a v w K:=by
 obtain⟨b,off,c,h1,ho,hb,h2,h3,h4,h5,h6⟩:=h.at av;refine⟨hi,by have:=h.1;omega,?_⟩;rw [h1];simp only [gp,amf,Addr.aU];refine st hb h2 hv fun w' j7 hf hs=>hK w' ⟨by simpa using h.1,.inr ⟨b,off,_,h1,ho,j7,h4,by simpa using h5,?_⟩⟩ (by rw [ho];exact hf) hs;rw [<-h6];apply alM;intro j;simp only [alU,alZ,alN];by_cases hj:j < s.len
 ·simp only [hj,if_true];by_cases Fw:i.toNat=j
  ·subst Fw;have e1:(List.take s.len (List.drop off c)).length=s.len:=by rw [h6];exact h.1
   simp [h2,e1,hj]
  ·have:off+i.toNat≠off+j:=by omega
   simp [this,Fw,hj]
 ·have e1:(List.take s.len (List.drop off c)).length=s.len:=by rw [h6];exact h.1
  have: ¬(i.toNat=j):=by have:=h.1;omega
  simp [hj,this]
theorem fK.cut {w:World} {s:Sl} {e:TypeId} {vs:List Value} {o:List Nat} (h:fK w s e vs o) {n:Nat} (hn:n<=vs.length) {K:Sl->Prop}
  (hK: ∀s',fK w s' e (vs.drop n) o->s'.len=s.len - n->K s'):
  Cut s (n:Int) (s.len:Int) (s.cap:Int) 1 K:=by
 have hl:=h.1
 rcases h.2 with ⟨h1,h2,h3,rfl⟩ | ⟨b,off,c,h1,rfl,hb,h2,h3,h4⟩
 ·refine⟨by omega,by omega,by omega,by omega,hK _ ⟨by simp;omega,.inl ⟨?_,by simp;omega,by simp;omega,rfl⟩⟩ (by simp)⟩;simp [h1]
 ·refine⟨by omega,by omega,by omega,by omega,hK _ ⟨by simp;omega,.inr ⟨b,if s.cap=n then off else off+n,c,?_,rfl,hb,by simp;omega,by simp;split <;> omega,?_⟩⟩ (by simp)⟩
  ·simp only [ak7,h1,al8,amf,Addr.aU]
   split <;> rfl
  ·simp only [ak7];rw [<-h4]
   split
   ·have e1:s.len - n=0:=by omega
    rw [e1,anD];rw [List.drop_eq_nil_of_le (by simp;omega)]
   ·rw [List.drop_take,al3]
section append
variable {P:Program} {w:World}
theorem app {s:Sl} {t ty e:TypeId} {i:TypeInfo} {z:Value} {vs news:List Value} {o:List Nat} {x:Addr} {m c':Nat} {K:Sl->World->Prop}
  (ht:P.underlying t=some (.slice e)) (hi:P.info? e=some i) (dL:i.size=1) (hz:i.zero=some z) (A8:z.cells.size=1)
  (h:fK w s e vs o) (hl:news.length=m) (lW: ∀j u,news[j]? =some u->w.cell? (x.add j)=some u) (h1: ∀u∈news,u.oneCell'=true)
  (hb:(s.len+m)*i.bytes<=140737488355328) (hn:s.len+m<=140737488355328)
  (hK: ∀s' w' o',fK w' s' e (vs++news) o'->s'.len=s.len+m->(o'=o \/ ∃n,w.heap.size<=n /\ n < w'.heap.size /\ o'= [n])->Fr o w w'->(s.a≠none \/ m≠0->s'.a≠none)->K s' w'):
  cA .sl P (Builtin.append_ #[t,t] ty #[.slice s.a s.len s.cap,.slice (some x) m c']) w K:=by
 have gJ:=h.1;have aZ: ∀cap,cap < s.len+m->Builtin.nextslicecap (s.len+m) cap*i.bytes<=281474976710656:=fun cap hc=>growslice_fits hc hb;have grown: ∀(cap:Nat) (w1:World),w1=w.drew.alloc (.cells (vs.toArray++news.toArray++Builtin.zeroCells z.cells (grownCap w (s.len+m) cap e - (s.len+m))) e)->
   fK w1 ⟨some ⟨w.heap.size,0,none⟩,s.len+m,grownCap w (s.len+m) cap e⟩ e (vs++news) [w.heap.size] /\ Fr o w w1 /\ w.heap.size < w1.heap.size:=by
  intro cap w1 IY;subst IY;have lK:=grownCap_ge w (s.len+m) cap e;refine⟨⟨by simp [gJ,hl],.inr ⟨w.heap.size,0,(vs++news++(Builtin.zeroCells z.cells (grownCap w (s.len+m) cap e - (s.len+m))).toList),rfl,rfl,?_,lK,?_,?_⟩⟩,?_,by simp⟩
  ·have:=fF.alloc w.drew (vs++news++(Builtin.zeroCells z.cells (grownCap w (s.len+m) cap e - (s.len+m))).toList) e;have e1:(vs++news++(Builtin.zeroCells z.cells (grownCap w (s.len+m) cap e - (s.len+m))).toList).toArray=vs.toArray++news.toArray++Builtin.zeroCells z.cells (grownCap w (s.len+m) cap e - (s.len+m)):=by
    apply amw;simp
   rw [e1] at this;simp only [fF] at this ⊢;exact this.trans (by rw [e1])
  ·simp [size_zeroCells,A8,gJ,hl];omega
  ·simp only [amP];rw [amE (by simp [gJ,hl])]
  ·exact⟨rfl,rfl,rfl,by simp,fun k hk _=>Below.heap_alloc w.drew _ k hk⟩
 rcases h.2 with ⟨ha,sK,Du,ho⟩ | ⟨b,off,c,ha,ho,ke,eN,fm,dU⟩
 ·have Ms:vs= []:=alL (by omega);by_cases hm:m=0
  ·subst hm;have Mt:news= []:=alL hl;subst Mt;refine⟨s,w,?_,hK s w o (by simpa using h) (by simp) (.inl rfl) (Fr.refl _ _) (by simp [ha])⟩;rw [ha,sK,Du];simp [Kd.inj,ha,sK,Du,Builtin.append_,run_underlying ht,sizeOf,typeInfo,hi,Builtin.lenOf,Builtin.firstCells,loadCells,loadCellsFrom]
  ·have hr:=run_append_nil (P:=P) w t ty e i z ht hi hz x m c' news (by rw [dL,amf];exact hl) lW (by omega) (by omega) (by
    have:=hb;rw [sK,aml] at this;omega)
   obtain⟨g1,g2,g3⟩:=grown 0 _ rfl;rw [sK,aml] at g1 g2 g3;refine⟨⟨some ⟨w.heap.size,0,none⟩,m,grownCap w m 0 e⟩,_,?_,hK _ _ [w.heap.size] g1 (by simp [sK]) (.inr ⟨_,alA _,g3,rfl⟩) g2 (by simp)⟩;rw [ha,sK,Du,hr];simp [Kd.inj,Ms]
 ·subst ho;by_cases ll:s.len+m<=s.cap
  ·have hf:=run_firstCells_some (P:=P) w 1 m x m c' news (by rw [amf];exact hl) lW;have bW:=run_storeCells_at P b (off+s.len) e news 0 c.toArray w ke (by simp;omega) h1;refine⟨⟨some ⟨b,off,none⟩,s.len+m,s.cap⟩,_,?_,hK _ (w.setRow b (c.take (off+s.len)++news++c.drop (off+s.len+news.length)).toArray) [b] ?_ rfl (.inl rfl) ?_ (by simp)⟩
   ·rw [ha];simp only [amW] at bW;simp [Builtin.append_,run_underlying ht,sizeOf,typeInfo,hi,Builtin.lenOf,ll,dL,hf,Addr.aU,bW,Kd.inj]
   ·refine⟨by simp [gJ,hl],.inr ⟨b,off,_,rfl,rfl,setRow_heap w b c.toArray _ e _ ke,ll,by simp;omega,?_⟩⟩;apply alM;intro j;rw [<-dU];simp only [alU,alZ,amy,alb,alv,alT];have e1:min (off+s.len) c.length=off+s.len:=by omega
    have e2:min s.len (c.length - off)=s.len:=by omega
    rw [e1,e2];by_cases hj:j < s.len+m
    ·rw [if_pos hj,if_pos (by omega)];by_cases Ah:j < s.len
     ·rw [if_pos (by omega),if_pos (by omega),if_pos (by omega),if_pos (by omega)]
     ·rw [if_neg (by omega),if_neg (by omega)];congr 1;omega
    ·rw [if_neg hj,if_neg (by omega)]
     symm
     apply alE;omega
   ·exact⟨rfl,rfl,rfl,by simp,fun k _ hk=>setRow_other w b k _ (fun e=>hk (by simp [e]))⟩
  ·have holds: ∀j v,vs[j]? =some v->w.cell? ((⟨b,off,none⟩:Addr).add j)=some v:=by
    intro j v hj;rw [Addr.aU,ke.cell];rw [<-dU,alU] at hj
    split at hj
    ·rw [alZ] at hj;exact hj
    ·cases hj
   have hr:=run_append_grow (P:=P) w t ty e i z ht hi hz ⟨b,off,none⟩ s.len s.cap vs (by rw [dL,amf];exact gJ) holds x m c' news (by rw [dL,amf];exact hl) lW (by omega) (by omega) (aZ _ (by omega));obtain⟨g1,g2,g3⟩:=grown s.cap _ rfl;refine⟨⟨some ⟨w.heap.size,0,none⟩,s.len+m,grownCap w (s.len+m) s.cap e⟩,_,?_,hK _ _ [w.heap.size] g1 rfl (.inr ⟨_,alA _,g3,rfl⟩) g2 (by simp)⟩;rw [ha,hr];rfl
end append
theorem fU {P:Program} {t:TypeId} {z:Option Value} {n b:Nat} (h:(P.info? t).map (fun i=>(i.zero,i.size,i.bytes))=some (z,n,b)):
  ∃i,P.info? t=some i /\ i.zero=z /\ i.size=n /\ i.bytes=b:=by
 cases hi:P.info? t with
 | none=>simp [hi] at h
 | some i=>simp only [hi,al8,ald,amA] at h;exact⟨i,rfl,h⟩
theorem aI {n:Int} (h1: -9223372036854775808<=n) (h2:n<=9223372036854775807):i64.wrap n=n:=by
 simp only [IntKind.wrap,IntKind.bits,IntKind.signed,amI,decide_eq_true_eq,ge_iff_le];split <;> omega
theorem wP (n:Int): -9223372036854775808<=i64.wrap n:=by
 simp only [IntKind.wrap,IntKind.bits,IntKind.signed,amI,decide_eq_true_eq,ge_iff_le];split <;> omega
theorem wQ (n:Int):i64.wrap n<=9223372036854775807:=by
 simp only [IntKind.wrap,IntKind.bits,IntKind.signed,amI,decide_eq_true_eq,ge_iff_le];split <;> omega
def eqV (d:TypeDesc) (a b:Value):Option Bool:=
 match d,a,b with
 | .int _,.int k a,.int k' b=>cond (decide (k=k')) (some (a ==b)) none
 | .bool,.bool a,.bool b=>some (a ==b)
 | .string,.string a,.string b=>some (a ==b)
 | _,_,_=>none
def GF (P:Program) (xs ys:Array Value):List Field->Option Bool
 | []=>some true
 | f :: r => cond (f.name == "_") none (match P.underlying f.type with
  | some d=>cond (mM d) none (match xs.toList[f.offset]?,ys.toList[f.offset]? with
   | some a,some b=>match eqV d a b,GF P xs ys r with
    | some r1,some r2=>some (r1 && r2)
    | _,_=>none
   | _,_=>none)
  | none=>none)
theorem RW {P:Program} {w:World} {n:Nat} {t:TypeId} {d:TypeDesc} {a b:Value} {r:Bool} (hd:P.underlying t=some d) (h:eqV d a b=some r):(Op.equalIn (n+1) t a b).run P w=.ok r w:=by
 unfold eqV at h
 split at h
 ·rename_i k a k' b
  cases hk:decide (k=k') with
  | false=>rw [hk] at h;cases h
  | true=>
   rw [hk] at h;obtain rfl:=of_decide_eq_true hk;simp only [cond_true,ald] at h;subst h;simp [Op.equalIn,run_underlying hd]
 ·simp only [ald] at h;subst h;simp [Op.equalIn,run_underlying hd]
 ·simp only [ald] at h;subst h;simp [Op.equalIn,run_underlying hd]
 ·cases h
theorem vM {P:Program} {w:World} {n:Nat} {xs ys:Array Value}: ∀{fs:List Field} {r:Bool},GF P xs ys fs=some r->(Op.eqFields (n+1) xs ys fs).run P w=.ok r w
 | [],r,h=>by simp only [GF,ald] at h;subst h;simp [Op.eqFields]
 | f :: fs,r,h=>by
  simp only [GF] at h
  cases hn : f.name == "_" with
  | true=>rw [hn] at h;cases h
  | false=>
   rw [hn] at h;simp only [cond_false] at h
   split at h
   ·rename_i d hd
    cases ha:mM d with
    | true=>rw [ha] at h;cases h
    | false=>
     rw [ha] at h;simp only [cond_false] at h
     split at h
     ·rename_i a b hx hy
      split at h
      ·rename_i r1 r2 h1 h2
       simp only [ald] at h;subst h;have e1:=RW (P:=P) (w:=w) (n:=n) hd h1;have e2:=vM (w:=w) (n:=n) h2;have p1:(part f.type xs f.offset).run P w=.ok a w:=by
        have:xs[f.offset]? =some a:=by simpa using hx
        simp [part,iK hd,ha,this]
       have p2:(part f.type ys f.offset).run P w=.ok b w:=by
        have:ys[f.offset]? =some b:=by simpa using hy
        simp [part,iK hd,ha,this]
       have aW : f.name ≠ "_" := by simpa using hn
       simp only [Op.eqFields,if_pos aW,hn,Sem.run_bind,p1,p2,Result.andThen_ok,e1]
       cases r1 <;> simp [e2]
      ·cases h
     ·cases h
   ·cases h
theorem Qq {P:Program} {t:TypeId} {x y:Operand} {xs ys:Array Value} {r:Bool} {w:World} {K:Bool->Prop} (hg:P.eqGuardType P.depth t=false)
  (ht:P.underlying t=some (.struct (P.fieldsOf t))) (hp:P.stoodInHeld t=false) (h:GF P xs ys (P.fieldsOf t).toList=some r) (hK:K r):
  iH .b P (cH .eql t x y (.agg xs) (.agg ys)) w K:=by
 refine⟨r,fun w' _=>?_,hK⟩;have e:(Op.equal t (.agg xs) (.agg ys)).run P w'=.ok r w':=by
  show (Op.equalIn (9998+1+1) t (.agg xs) (.agg ys)).run P w'=_;rw [run_equalIn_struct (P:=P) w' (9998+1) t xs ys ht hp];exact vM h
 unfold cH;simp [eqGuard,hg,binOp,e,Kd.inj]
theorem W0 {P:Program} {t:TypeId} {x y:Operand} {xs ys:Array Value} {r:Bool} {w:World} {K:Bool->Prop} (hg:P.eqGuardType P.depth t=false)
  (ht:P.underlying t=some (.struct (P.fieldsOf t))) (hp:P.stoodInHeld t=false) (h:GF P xs ys (P.fieldsOf t).toList=some r) (hK:K (!r)):
  iH .b P (cH .neq t x y (.agg xs) (.agg ys)) w K:=by
 refine⟨!r,fun w' _=>?_,hK⟩;have e:(Op.equal t (.agg xs) (.agg ys)).run P w'=.ok r w':=by
  show (Op.equalIn (9998+1+1) t (.agg xs) (.agg ys)).run P w'=_;rw [run_equalIn_struct (P:=P) w' (9998+1) t xs ys ht hp];exact vM h
 unfold cH;simp [eqGuard,hg,binOp,e,Kd.inj]
theorem aL {c:Prop} [Decidable c] {t e:Prop} (h:c) (ht:t):if c then t else e:=by rw [if_pos h];exact ht
theorem aJ {c:Prop} [Decidable c] {t e:Prop} (h: ¬c) (he:e):if c then t else e:=by rw [if_neg h];exact he
section rows
variable {α:Type} {f:α->List Value} {n:Nat}
theorem jA (hf: ∀x,(f x).length=n) (l:List α):(l.flatMap f).length=l.length*n:=by
 induction l with
 | nil=>simp
 | cons x l ih=>simp [alX,hf,ih,anb,an6]
theorem pC (hf: ∀x,(f x).length=n) (l:List α) (k:Nat):(l.flatMap f).take (k*n)=(l.take k).flatMap f:=by
 induction l generalizing k with
 | nil=>simp
 | cons x l ih=>
  cases k with
  | zero=>simp
  | succ k=>
   have e1:(k+1)*n=n+k*n:=by rw [anb,anS,an6]
   rw [anO,alX,alX,e1,<-ih,List.take_append,hf,amn];rw [aln (by rw [hf];omega)]
theorem pD (hf: ∀x,(f x).length=n) (l:List α) (k:Nat):(l.flatMap f).drop (k*n)=(l.drop k).flatMap f:=by
 induction l generalizing k with
 | nil=>simp
 | cons x l ih=>
  cases k with
  | zero=>simp
  | succ k=>
   have e1:(k+1)*n=n+k*n:=by rw [anb,anS,an6]
   rw [anP,alX,e1,<-ih,List.drop_append,hf,amn];rw [amb (by rw [hf];omega),alO]
theorem DJ (hf: ∀x,(f x).length=n) {l:List α} {i j:Nat} {x:α} (hx:l[i]? =some x) (hj:j < n):(l.flatMap f)[i*n+j]? =(f x)[j]? :=by
 have e1:l.drop i=x :: l.drop (i+1):=by
  obtain⟨hi,rfl⟩:=ak6.1 hx;exact al0 hi
 rw [<-alZ,pD hf,e1,alX,ak9 (by rw [hf];exact hj)]
theorem RY (hf: ∀x,(f x).length=n) (l:List α) (i:Nat) (x:α) (hi:i < l.length):(l.set i x).flatMap f=(l.flatMap f).take (i*n)++f x++(l.flatMap f).drop ((i+1)*n):=by
 rw [pC hf,pD hf,anl,if_pos hi];simp [alJ]
end rows
def cq {α:Type} (w:World) (s:Sl) (e:TypeId) (n:Nat) (f:α->List Value) (l:List α) (o:List Nat):Prop:=
  l.length=s.len /\
  ((s.a=none /\ s.len=0 /\ s.cap=0 /\ o= []) \/
   ∃b off c,s.a=some ⟨b,off,none⟩ /\ o= [b] /\ fF w b e c /\ s.len<=s.cap /\ off+s.cap*n<=c.length /\ (c.drop off).take (s.len*n)=l.flatMap f)
section
variable {α:Type} {f:α->List Value} {n:Nat} {e:TypeId}
theorem cq.nil {w:World}:cq w ⟨none,0,0⟩ e n f [] []:=⟨rfl,.inl ⟨rfl,rfl,rfl,rfl⟩⟩
theorem cq.len {w:World} {s:Sl} {l:List α} {o:List Nat} (h:cq w s e n f l o):l.length=s.len:=h.1
theorem cq.lt {w:World} {s:Sl} {l:List α} {o:List Nat} (h:cq w s e n f l o): ∀k∈o,k < w.heap.size:=by
 rcases h.2 with ⟨_,_,_,rfl⟩ | ⟨b,off,c,_,rfl,hb,_⟩
 ·simp
 ·intro k hk;simp only [ali] at hk;subst hk;exact hb.lt
theorem cq.fr {S:List Nat} {w w':World} {s:Sl} {l:List α} {o:List Nat} (h:cq w s e n f l o) (hf:Fr S w w') (hn: ∀k∈o,k ∉ S):cq w' s e n f l o:=by
 refine⟨h.1,?_⟩
 rcases h.2 with h1 | ⟨b,off,c,h1,rfl,hb,h2⟩
 ·exact .inl h1
 ·exact .inr ⟨b,off,c,h1,rfl,hb.fr hf (hn b (by simp)),h2⟩
theorem cq.isNil {w:World} {s:Sl} {l:List α} {o:List Nat} (h:cq w s e n f l o) (hs:s.a=none):l= []:=by
 rcases h.2 with ⟨_,h1,_⟩ | ⟨b,off,c,h1,_⟩
 ·exact alL (by rw [h.1,h1])
 ·rw [hs] at h1;cases h1
theorem cq.ra {w:World} {b:Nat} {l:List α} {m:Nat} (hb:fF w b e (l.flatMap f)) (hm:l.length=m) (hf: ∀x,(f x).length=n):cq w ⟨some ⟨b,0,none⟩,m,m⟩ e n f l [b]:=by
 refine⟨hm,.inr ⟨b,0,_,rfl,rfl,hb,alA _,?_,?_⟩⟩
 ·rw [jA hf,hm];simp
 ·rw [amP,aln];rw [jA hf,hm];exact alA _
theorem cq.ix (hf: ∀x,(f x).length=n) {w:World} {s:Sl} {l:List α} {o:List Nat} (h:cq w s e n f l o) {i:Int} {x:α} (hi:0<=i) (hx:l[i.toNat]? =some x) {K:Addr->Prop}
  (hK: ∀b off c,o= [b]->fF w b e c->off+n<=c.length->(∀j,j < n->c[off+j]? =(f x)[j]?)->
   (∀w' y,fF w' b e (c.take off++f y++c.drop (off+n))->cq w' s e n f (l.set i.toNat y) o)->K ⟨b,off,none⟩):
  Ix s.a s.len i n K:=by
 have av:=(ak6.1 hx).1;have hl:=h.1;refine⟨hi,by omega,?_⟩
 rcases h.2 with ⟨h1,h2,_⟩ | ⟨b,off,c,h1,ho,hb,h2,h3,h4⟩
 ·omega
 rw [h1];simp only [gp,Addr.aU];have e1:(i.toNat+1)*n<=s.len*n:=ami _ (by omega);have e2:s.len*n<=s.cap*n:=ami _ h2;rw [anb,anS] at e1;refine hK b (off+i.toNat*n) c ho hb (by omega) ?_ ?_
 ·intro j hj;rw [<-DJ hf hx hj,<-h4,alU,if_pos (by omega),alZ,ani]
 ·intro w' y j7;refine⟨by simpa using hl,.inr ⟨b,off,_,h1,ho,j7,h2,?_,?_⟩⟩
  ·simp only [alb,alv,alT,hf];omega
  ·rw [RY hf _ _ _ av,<-h4];apply alM;intro j;have l1:(List.take (off+i.toNat*n) c).length=off+i.toNat*n:=by rw [alv];omega
   have l2:(List.take (i.toNat*n) (List.take (s.len*n) (List.drop off c))).length=i.toNat*n:=by simp only [alv,alT];omega
   simp only [alU,alZ,amy,alb,l1,l2,hf];have e4:(i.toNat+1)*n=i.toNat*n+n:=by rw [anb,anS]
   rw [e4];by_cases hj:j < s.len*n
   ·rw [if_pos hj];by_cases c1:j < i.toNat*n
    ·rw [if_pos (by omega),if_pos (by omega),if_pos (by omega),if_pos (by omega),if_pos (by omega),if_pos (by omega),if_pos (by omega)]
    ·by_cases c2:j < i.toNat*n+n
     ·rw [if_pos (by omega),if_neg (by omega),if_pos (by omega),if_neg (by omega)];congr 1;omega
     ·rw [if_neg (by omega),if_neg (by omega),if_pos (by omega)];congr 1;omega
   ·rw [if_neg hj];rw [if_neg (by omega),if_neg (by omega)]
theorem cq.cut (hf: ∀x,(f x).length=n) {w:World} {s:Sl} {l:List α} {o:List Nat} (h:cq w s e n f l o) {a b m:Int} (h0:0<=a) (h1:a<=b) (h2:b<=m) (h3:m<=s.cap) (h4:b<=s.len) {K:Sl->Prop}
  (hK: ∀s',cq w s' e n f ((l.take b.toNat).drop a.toNat) o->s'.len=b.toNat - a.toNat->s'.cap=m.toNat - a.toNat->(s'.a=none↔s.a=none)->K s'):
  Cut s a b m n K:=by
 refine⟨h0,h1,h2,h3,hK _ ?_ rfl rfl ?_⟩
 ·have hl:=h.1;refine⟨by simp;omega,?_⟩
  rcases h.2 with ⟨g1,g2,g3,rfl⟩ | ⟨k,off,c,g1,rfl,hb,g2,g3,g4⟩
  ·refine .inl ⟨?_,by simp;omega,by simp;omega,rfl⟩;simp [g1]
  ·refine .inr ⟨k,if m.toNat=a.toNat then off else off+a.toNat*n,c,?_,rfl,hb,by simp;omega,?_,?_⟩
   ·simp only [g1,al8,Addr.aU]
    split <;> rfl
   ·have e1:m.toNat*n<=s.cap*n:=ami _ (by omega);have e2:a.toNat*n<=m.toNat*n:=ami _ (by omega);have e3:(m.toNat - a.toNat)*n=m.toNat*n - a.toNat*n:=Nat.sub_mul _ _ _
    split
    ·rename_i RZ;simp only [RZ,alK,Nat.zero_mul];omega
    ·show off+a.toNat*n+(m.toNat - a.toNat)*n<=_;omega
   ·show List.take ((b.toNat - a.toNat)*n) _=_;rw [<-pD hf,<-pC hf,<-g4,anE];have e0:b.toNat*n<=s.len*n:=ami _ (by omega);rw [am1 e0]
    split
    ·rename_i RZ
     have e1:b.toNat=a.toNat:=by omega
     rw [e1,alK,Nat.zero_mul,anD,amb];rw [alv];omega
    ·rw [List.drop_take,al3,Nat.sub_mul]
 ·by_cases RZ:m.toNat=a.toNat
  ·simp [RZ]
  ·simp [RZ]
section append
variable {P:Program} {w:World}
theorem cq.app (hf: ∀x,(f x).length=n) {s:Sl} {t ty:TypeId} {i:TypeInfo} {z:Value} {l news:List α} {o:List Nat} {x:Addr} {m c':Nat} {K:Sl->World->Prop}
  (ht:P.underlying t=some (.slice e)) (hi:P.info? e=some i) (dL:i.size=n) (hz:i.zero=some z) (A8:z.cells.size=n)
  (h:cq w s e n f l o) (hl:news.length=m) (lW: ∀j u,(news.flatMap f)[j]? =some u->w.cell? (x.add j)=some u) (h1: ∀u∈news.flatMap f,u.oneCell'=true)
  (hb:(s.len+m)*i.bytes<=140737488355328) (hn:s.len+m<=140737488355328)
  (hK: ∀s' w' o',cq w' s' e n f (l++news) o'->s'.len=s.len+m->(o'=o \/ ∃k,w.heap.size<=k /\ k < w'.heap.size /\ o'= [k])->(s.cap < s.len+m->o'≠ [] /\ ∀k∈o',w.heap.size<=k)->Fr o w w'->(s.cap < s.len+m->Fr [] w w')->(s.a≠none \/ m≠0->s'.a≠none)->K s' w'):
  cA .sl P (Builtin.append_ #[t,t] ty #[.slice s.a s.len s.cap,.slice (some x) m c']) w K:=by
 have gJ:=h.1;have lL:(news.flatMap f).length=m*n:=by rw [jA hf,hl]
 have p5:(l.flatMap f).length=s.len*n:=by rw [jA hf,gJ]
 have DK: ∀a b:Nat,(a+b)*n=a*n+b*n:=fun a b=>anb a b n;have aZ: ∀cap,cap < s.len+m->Builtin.nextslicecap (s.len+m) cap*i.bytes<=281474976710656:=fun cap hc=>growslice_fits hc hb;have grown: ∀(cap:Nat) (w1:World),w1=w.drew.alloc (.cells ((l.flatMap f).toArray++(news.flatMap f).toArray++Builtin.zeroCells z.cells (grownCap w (s.len+m) cap e - (s.len+m))) e)->
   cq w1 ⟨some ⟨w.heap.size,0,none⟩,s.len+m,grownCap w (s.len+m) cap e⟩ e n f (l++news) [w.heap.size] /\ Fr [] w w1 /\ w.heap.size < w1.heap.size:=by
  intro cap w1 IY;subst IY;have lK:=grownCap_ge w (s.len+m) cap e;have R0:(s.len+m)*n<=grownCap w (s.len+m) cap e*n:=ami _ lK;refine⟨⟨by simp [gJ,hl],.inr ⟨w.heap.size,0,(l.flatMap f++news.flatMap f++(Builtin.zeroCells z.cells (grownCap w (s.len+m) cap e - (s.len+m))).toList),rfl,rfl,?_,lK,?_,?_⟩⟩,?_,by simp⟩
  ·have:=fF.alloc w.drew (l.flatMap f++news.flatMap f++(Builtin.zeroCells z.cells (grownCap w (s.len+m) cap e - (s.len+m))).toList) e;have e1:(l.flatMap f++news.flatMap f++(Builtin.zeroCells z.cells (grownCap w (s.len+m) cap e - (s.len+m))).toList).toArray=(l.flatMap f).toArray++(news.flatMap f).toArray++Builtin.zeroCells z.cells (grownCap w (s.len+m) cap e - (s.len+m)):=by
    apply amw;simp
   rw [e1] at this;simp only [fF] at this ⊢;exact this.trans (by rw [e1])
  ·have e2:(grownCap w (s.len+m) cap e - (s.len+m))*n=grownCap w (s.len+m) cap e*n - (s.len+m)*n:=Nat.sub_mul _ _ _;simp only [alb,anp,size_zeroCells,A8,lL,p5];rw [e2,DK] at*;show 0+_*n<=_;omega
  ·simp only [amP,alJ];rw [amE (by simp only [alb,lL,p5,DK])]
  ·exact⟨rfl,rfl,rfl,by simp,fun k hk _=>Below.heap_alloc w.drew _ k hk⟩
 rcases h.2 with ⟨ha,sK,Du,ho⟩ | ⟨b,off,c,ha,ho,ke,eN,fm,dU⟩
 ·have Ms:l= []:=alL (by omega);by_cases hm:m=0
  ·subst hm;have Mt:news= []:=alL hl;subst Mt;refine⟨s,w,?_,hK s w o (by simpa using h) (by simp) (.inl rfl) (by omega) (Fr.refl _ _) (by omega) (by simp [ha])⟩;rw [ha,sK,Du];simp [Kd.inj,ha,sK,Du,Builtin.append_,run_underlying ht,sizeOf,typeInfo,hi,Builtin.lenOf,Builtin.firstCells,loadCells,loadCellsFrom]
  ·have hr:=run_append_nil (P:=P) w t ty e i z ht hi hz x m c' (news.flatMap f) (by rw [dL];exact lL) lW (by omega) (by omega) (by
    have:=hb;rw [sK,aml] at this;omega)
   obtain⟨g1,g2,g3⟩:=grown 0 _ rfl;rw [sK,aml] at g1 g2 g3;refine⟨⟨some ⟨w.heap.size,0,none⟩,m,grownCap w m 0 e⟩,_,?_,hK _ _ [w.heap.size] g1 (by simp [sK]) (.inr ⟨_,alA _,g3,rfl⟩) (fun _=>⟨by simp,by simp⟩) (g2.mono (by simp)) (fun _=>g2) (by simp)⟩;rw [ha,sK,Du,hr];simp [Kd.inj,Ms]
 ·subst ho;have zf:s.len*n<=s.cap*n:=ami _ eN;by_cases ll:s.len+m<=s.cap
  ·have R1:s.len*n+m*n<=s.cap*n:=by rw [<-DK];exact ami _ ll
   have yH:=run_firstCells_some (P:=P) w n m x m c' (news.flatMap f) lL lW;have bW:=run_storeCells_at P b (off+s.len*n) e (news.flatMap f) 0 c.toArray w ke (by simp only [anx,lL];omega) h1;refine⟨⟨some ⟨b,off,none⟩,s.len+m,s.cap⟩,_,?_,hK _ (w.setRow b (c.take (off+s.len*n)++news.flatMap f++c.drop (off+s.len*n+(news.flatMap f).length)).toArray) [b] ?_ rfl (.inl rfl) (by omega) ?_ (by omega) (by simp)⟩
   ·rw [ha];simp only [amW] at bW;simp [Builtin.append_,run_underlying ht,sizeOf,typeInfo,hi,Builtin.lenOf,ll,dL,yH,Addr.aU,bW,Kd.inj]
   ·refine⟨by simp [gJ,hl],.inr ⟨b,off,_,rfl,rfl,setRow_heap w b c.toArray _ e _ ke,ll,?_,?_⟩⟩
    ·simp only [alb,alv,alT,lL];omega
    apply alM;intro j;rw [alJ,<-dU];simp only [alU,alZ,amy,alb,alv,alT,lL,DK];have e1:min (off+s.len*n) c.length=off+s.len*n:=by omega
    have e2:min (s.len*n) (c.length - off)=s.len*n:=by omega
    rw [e1,e2];by_cases hj:j < s.len*n+m*n
    ·rw [if_pos hj,if_pos (by omega)];by_cases Ah:j < s.len*n
     ·rw [if_pos (by omega),if_pos (by omega),if_pos (by omega),if_pos (by omega)]
     ·rw [if_neg (by omega),if_neg (by omega)];congr 1;omega
    ·rw [if_neg hj,if_neg (by omega)]
     symm
     apply alE;rw [lL];omega
   ·exact⟨rfl,rfl,rfl,by simp,fun k _ hk=>setRow_other w b k _ (fun e=>hk (by simp [e]))⟩
  ·have holds: ∀j v,(l.flatMap f)[j]? =some v->w.cell? ((⟨b,off,none⟩:Addr).add j)=some v:=by
    intro j v hj;rw [Addr.aU,ke.cell];rw [<-dU,alU] at hj
    split at hj
    ·rw [alZ] at hj;exact hj
    ·cases hj
   have hr:=run_append_grow (P:=P) w t ty e i z ht hi hz ⟨b,off,none⟩ s.len s.cap (l.flatMap f) (by rw [dL];exact p5) holds x m c' (news.flatMap f) (by rw [dL];exact lL) lW (by omega) (by omega) (aZ _ (by omega));obtain⟨g1,g2,g3⟩:=grown s.cap _ rfl;refine⟨⟨some ⟨w.heap.size,0,none⟩,s.len+m,grownCap w (s.len+m) s.cap e⟩,_,?_,hK _ _ [w.heap.size] g1 rfl (.inr ⟨_,alA _,g3,rfl⟩) (fun _=>⟨by simp,by simp⟩) (g2.mono (by simp)) (fun _=>g2) (by simp)⟩;rw [ha,hr];rfl
end append
end
def bO {α:Type} (w:World) (s:Sl) (n:Nat) (f:α->List Value) (l:List α) (o:List Nat):Prop:=
  l.length=s.len /\
  ((s.len=0 /\ o= []) \/
   ∃x,s.a=some x /\ o= [x.block] /\ x.block < w.heap.size /\ ∀j u,(l.flatMap f)[j]? =some u->w.cell? (x.add j)=some u)
section
variable {α:Type} {f:α->List Value} {n:Nat} {e:TypeId}
theorem bO.nil {w:World} {s:Sl} (h:s.len=0):bO w s n f [] []:=⟨h.symm,.inl ⟨h,rfl⟩⟩
theorem bO.len {w:World} {s:Sl} {l:List α} {o:List Nat} (h:bO w s n f l o):l.length=s.len:=h.1
theorem bO.lt {w:World} {s:Sl} {l:List α} {o:List Nat} (h:bO w s n f l o): ∀k∈o,k < w.heap.size:=by
 rcases h.2 with ⟨_,rfl⟩ | ⟨x,_,rfl,hx,_⟩
 ·simp
 ·intro k hk;simp only [ali] at hk;subst hk;exact hx
theorem Addr.jU (x:Addr) (j:Nat):(x.add j).block=x.block:=by
 unfold Addr.add;split <;> rfl
theorem Fr.cell {S:List Nat} {w w':World} (hf:Fr S w w') {a:Addr} (h1:a.block < w.heap.size) (h2:a.block ∉ S):w'.cell? a=w.cell? a:=by
 unfold World.cell?;rw [hf.block _ h1 h2]
theorem bO.fr {S:List Nat} {w w':World} {s:Sl} {l:List α} {o:List Nat} (h:bO w s n f l o) (hf:Fr S w w') (hn: ∀k∈o,k ∉ S):bO w' s n f l o:=by
 refine⟨h.1,?_⟩
 rcases h.2 with h1 | ⟨x,h1,rfl,hx,h2⟩
 ·exact .inl h1
 ·exact .inr ⟨x,h1,rfl,amV hx hf.size,fun j u hj=>by
   rw [hf.cell (by rw [Addr.jU];exact hx) (by rw [Addr.jU];exact hn _ (by simp))];exact h2 j u hj⟩
theorem bO.isNil {w:World} {s:Sl} {l:List α} {o:List Nat} (h:bO w s n f l o) (hs:s.a=none):l= []:=by
 rcases h.2 with ⟨h1,_⟩ | ⟨x,h1,_⟩
 ·exact alL (by rw [h.1,h1])
 ·rw [hs] at h1;cases h1
theorem cq.toR {w:World} {s:Sl} {l:List α} {o:List Nat} (h:cq w s e n f l o):bO w s n f l o:=by
 refine⟨h.1,?_⟩
 rcases h.2 with ⟨_,h1,_,h2⟩ | ⟨b,off,c,h1,ho,hb,h2,h3,h4⟩
 ·exact .inl ⟨h1,h2⟩
 ·refine .inr ⟨_,h1,ho,hb.lt,fun j u hj=>?_⟩;rw [Addr.aU,hb.cell];rw [<-h4,alU] at hj
  split at hj
  ·rw [alZ] at hj;exact hj
  ·cases hj
theorem Addr.jq (x:Addr) (i j:Nat):(x.add i).add j=x.add (i+j):=by
 unfold Addr.add;by_cases h1:i=0
 ·simp [h1]
 ·by_cases h2:j=0
  ·simp [h2]
  ·simp [h1,h2,ani]
theorem bO.ix (hf: ∀x,(f x).length=n) {w:World} {s:Sl} {l:List α} {o:List Nat} (h:bO w s n f l o) {i:Int} {x:α} (hi:0<=i) (hx:l[i.toNat]? =some x) {K:Addr->Prop}
  (hK: ∀a,(∀j,j < n->w.cell? (a.add j)=(f x)[j]?)->K a):Ix s.a s.len i n K:=by
 have av:=(ak6.1 hx).1;have hl:=h.1;refine⟨hi,by omega,?_⟩
 rcases h.2 with ⟨h1,_⟩ | ⟨y,h1,ho,hy,h2⟩
 ·omega
 rw [h1];simp only [gp];refine hK _ fun j hj=>?_;have e1:=DJ hf hx hj;have e2:(f x)[j]? =some ((f x)[j]'(by rw [hf];exact hj)):=by simp
 rw [Addr.jq,e2];exact h2 _ _ (e1.trans e2)
section append
variable {P:Program} {w:World}
theorem cq.gq (hf: ∀x,(f x).length=n) {s s2:Sl} {t ty:TypeId} {i:TypeInfo} {z:Value} {l news:List α} {o o2:List Nat} {K:Sl->World->Prop}
  (ht:P.underlying t=some (.slice e)) (hi:P.info? e=some i) (dL:i.size=n) (hz:i.zero=some z) (A8:z.cells.size=n)
  (h:cq w s e n f l o) (h2:bO w s2 n f news o2) (h1: ∀x,∀u∈f x,u.oneCell'=true)
  (hb:(s.len+s2.len)*i.bytes<=140737488355328) (hn:s.len+s2.len<=140737488355328)
  (hK: ∀s' w' o',cq w' s' e n f (l++news) o'->s'.len=s.len+s2.len->(o'=o \/ ∃k,w.heap.size<=k /\ k < w'.heap.size /\ o'= [k])->(s.cap < s.len+s2.len->o'≠ [] /\ ∀k∈o',w.heap.size<=k)->Fr o w w'->(s.cap < s.len+s2.len->Fr [] w w')->(s.a≠none \/ s2.len≠0->s'.a≠none)->K s' w'):
  cA .sl P (Builtin.append_ #[t,t] ty #[.slice s.a s.len s.cap,.slice s2.a s2.len s2.cap]) w K:=by
 rcases h2.2 with ⟨sK,ho⟩ | ⟨x,ha,ho,_,fb⟩
 ·have Mt:news= []:=alL (by rw [h2.1,sK]);subst Mt;refine⟨s,w,?_,hK s w o (by simpa using h) (by omega) (.inl rfl) (fun hc=>?_) (Fr.refl _ _) (fun _=>Fr.refl _ _) (by simp [sK])⟩
  ·rcases h.2 with ⟨ga,gl0,gc0,go⟩ | ⟨b,off,c,ga,go,gbk,W1,abG,gtk⟩
   ·rw [sK,ga,gl0,gc0]
    cases s2.a <;> simp [Kd.inj,ga,gl0,gc0,Builtin.append_,run_underlying ht,sizeOf,typeInfo,hi,Builtin.lenOf,Builtin.firstCells,loadCells,loadCellsFrom]
   ·rw [sK,ga]
    cases s2.a <;> simp [Kd.inj,ga,W1,Builtin.append_,run_underlying ht,sizeOf,typeInfo,hi,Builtin.lenOf,Builtin.firstCells,storeCells,loadCells,loadCellsFrom]
  ·rcases h.2 with ⟨ga,gl0,gc0,go⟩ | ⟨b,off,c,ga,go,gbk,W1,abG,gtk⟩ <;> omega
 ·rw [ha];exact cq.app hf ht hi dL hz A8 h h2.1 fb (fun u hu=>by
   obtain⟨x,_,hu⟩:=amt.1 hu;exact h1 x u hu) hb hn hK
end append
end
theorem Addr.qk {w:World} {a:Addr} {v:Value} (h:w.cell? (a.add 0)=some v):w.cell? a=some v:=by
 obtain⟨b,o,sp⟩:=a
 cases sp with
 | none=>simpa [Addr.add] using h
 | some m=>simpa [Addr.add] using h
theorem jB {k:Kd} {w:World} {a:Addr} {x:k.T} {K:k.T->Prop} {j:Nat} {c:List Value} (h:w.cell? (a.add j)=c[j]?) (hx:c[j]? =some (k.inj x)) (hK:K x):Ld k w (a.add j) K:=
 ⟨x,h.trans hx,hK⟩
theorem dG {k:Kd} {w:World} {a:Addr} {x:k.T} {K:k.T->Prop} {c:List Value} (h:w.cell? (a.add 0)=c[0]?) (hx:c[0]? =some (k.inj x)) (hK:K x):Ld k w a K:=
 ⟨x,Addr.qk (h.trans hx),hK⟩
theorem R2 {k:Kd} {w:World} {b o n:Nat} {e:TypeId} {c:List Value} {x:k.T} {K:k.T->Prop} (h:fF w b e c) (hx:c[o+n]? =some (k.inj x)) (hK:K x):Ld k w ((⟨b,o,none⟩:Addr).add n) K:=by
 rw [Addr.aU];exact ld h hx hK
theorem sto {w:World} {b o n:Nat} {e:TypeId} {c:List Value} {v:Value} {K:World->Prop} (h:fF w b e c) (ho:o+n < c.length) (hv:v.oneCell'=true)
  (hK: ∀w',fF w' b e (c.set (o+n) v)->Fr [b] w w'->w'.heap.size=w.heap.size->K w'):St ((⟨b,o,none⟩:Addr).add n) v w K:=by
 rw [Addr.aU];exact st h ho hv hK
theorem DL {P:Program} {f:FuncId} {args:List Value} {w:World} (h:ax P f args [.one .b] w (fun b w'=>b=true /\ Fr [] w w')):
  Calls P f args.toArray w fun e w'=>e=.returned (.bool true) /\ Below w.heap.size w w':=by
 refine Calls.mono h fun e w' h=>?_;obtain⟨v,rfl,hv⟩:=h;obtain⟨x,rfl,rfl,hf⟩: ∃x,v=Value.bool x /\ x=true /\ Fr [] w w':=by
  have W2:Kd.view .b v (fun x=>x=true /\ Fr [] w w'):=hv
  cases v with
  | bool x=>exact⟨x,rfl,W2.1,W2.2⟩
  | _=>exact W2.elim
 exact⟨rfl,hf.below⟩
end Go.Den
end

section
namespace Go.Den
open Go.RowKit
mutual
def eF {H:Type}:DataW H->Nat
 | .lit (.string bytes)=>bytes.length+1
 | .lit _=>1
 | .nil=>1
 | .ptr d=>eF d+1
 | .slice elems spare=>eG elems+eG spare+1
 | .agg parts=>eG parts+1
 | .iface _ d=>eF d+1
 | .map entries=>im entries+1
 | .held _=>1
def eG {H:Type}:List (DataW H)->Nat
 | []=>0
 | d :: r=>eF d+eG r
def im {H:Type}:List (Lit×DataW H)->Nat
 | []=>0
 | x :: r=>qG x+im r
def qG {H:Type}:Lit×DataW H->Nat
  | (.string bytes,d)=>bytes.length+eF d+1
  | (_,d)=>eF d+1
 end
theorem pE {H:Type} {d:DataW H}: ∀{l:List (DataW H)},d∈l->eF d<=eG l
 | x :: l,h=>by
  rcases alF.1 h with rfl | h
  ·simp only [eG];omega
  ·have:=pE h;simp only [eG];omega
theorem GG {H:Type} (d:DataW H):1<=eF d:=by
 cases d with
 | lit l=>cases l <;> simp [eF]
 | _=>simp [eF]
theorem zg {H:Type}: ∀l:List (DataW H),l.length<=eG l
 | []=>by simp [eG]
 | d :: l=>by
  have:=zg l;have:=GG d;simp only [eG,alQ];omega
def rK (P:Program) (w:World) (B:Nat):Nat->TypeId->List Value->Prop
 | 0,_,_=>False
 | n+1,t,cs=>match P.underlying t with
  | some .bool=> ∃b,cs= [.bool b]
  | some (.int k)=> ∃m,cs= [.int k m] /\ (Lit.int k m).wf=true
  | some .string=> ∃s:ByteArray,cs= [.string s] /\ s.size<=reachBytes /\ s.size<=B
  | some (.slice e)=>cs= [.slice none 0 0] \/ ∃a len cap,cs= [.slice (some a) len cap] /\ len<=cap /\ len*P.bytesOf e<=reachBytes /\ len<=B /\
    ∀i,i < len-> ∃ci:List Value,ci.length=P.cellsOf e /\ (∀j,j < P.cellsOf e->w.cell? ((a.add (i*P.cellsOf e)).add j)=ci[j]?) /\ rK P w B n e ci
  | some (.struct fs)=>cs.length=P.cellsOf t /\ ∀(i:Nat) (f:Field),fs[i]? =some f->rK P w B n f.type ((cs.drop f.offset).take (P.cellsOf f.type))
  | some (.array m e)=>cs.length=P.cellsOf t /\ ∀i,i < m->rK P w B n e ((cs.drop (i*P.cellsOf e)).take (P.cellsOf e))
  | _=>True
section
variable {H:Type} {enc:TypeId×Value->H} {P:Program} {w:World} {base:Nat} {spare:Nat->Bool} {held:Bool}
theorem ox {e:TypeId} {d:DataW H} {k:Nat}: ∀{l:List (DataW H)},d∈l->k∈d.weights P e->k∈DataW.weightsAll P e l
 | x :: l,h,hk=>by
  simp only [DataW.weightsAll,alg]
  rcases alF.1 h with rfl | h
  ·exact .inl hk
  ·exact .inr (ox h hk)
theorem wR (B:Nat): ∀(n:Nat) (t:TypeId) (cs:List Value) (d:DataW H) (ps:List MemPlace),DataW.trod enc P w base spare held n t cs=some (d,ps)->(∀k∈d.weights P t,k<=reachBytes)->(maxLen<=B \/ eF d<=B)->rK P w B n t cs
 | 0,t,cs,d,ps,h,_,_=>by simp [DataW.trod] at h
 | n+1,t,cs,d,ps,h,hw,hb=>by
  have ih:=wR B n;unfold rK
  split
  ·rename_i hu
   obtain⟨b,h1,_⟩:=DataW.trod_bool hu h;exact⟨b,h1⟩
  ·rename_i k hu
   obtain⟨m,h1,_,h2⟩:=DataW.trod_int hu h;exact⟨m,h1,h2⟩
  ·rename_i hu
   obtain⟨s,h1,h2,h3⟩:=DataW.trod_string hu h;simp only [amA] at h2;obtain⟨rfl,_⟩:=h2;have hl:s.data.toList.length=s.size:=by rw [anp];rfl
   refine⟨s,h1,?_,?_⟩
   ·have:=hw s.data.toList.length (by unfold DataW.weights;exact ali.2 rfl);rw [hl] at this;exact this
   ·rcases hb with hb | hb
    ·exact amO h3 hb
    ·simp only [eF] at hb;rw [hl] at hb;omega
  ·rename_i e hu
   rcases DataW.trod_slice hu h with ⟨h1,_⟩ | ⟨a,len,cap,elems,rest,m,hm,h1,h2,By,hl,hc,hlen,Il,_⟩
   ·exact .inl h1
   ·obtain rfl:m=n:=by omega
    simp only [amA] at h2;obtain⟨rfl,_⟩:=h2;refine .inr ⟨a,len,cap,h1,hl,?_,?_,?_⟩
    ·have:=hw ((elems.map (·.1)).length+(rest.map (·.1)).length |>(· *P.bytesOf e)) (by simp [DataW.weights,hu]);simp only [alr] at this;have h3:len*P.bytesOf e<=(elems.length+rest.length)*P.bytesOf e:=ami _ (by omega);exact amO h3 this
    ·rcases hb with hb | hb
     ·omega
     ·simp only [eF] at hb;have:=zg (elems.map (·.1));simp only [alr] at this;omega
    ·intro i hi;have h3:=Il i hi;have h4:elems[i]? =some elems[i]:=alf (by omega);rw [h4,Option.bind_eq_some_iff] at h3;obtain⟨ci,hci,hd⟩:=h3;obtain⟨_,k1,k2⟩:=World.cells?_some hci;have dF:(elems[i]).1∈elems.map (·.1):=alu.2 ⟨_,alz _,rfl⟩;refine⟨ci,k1,k2,ih e ci (elems[i]).1 (elems[i]).2 hd (fun k hk=>hw k ?_) ?_⟩
     ·simp only [DataW.weights,hu,alF,alg];exact .inr (.inl (ox dF hk))
     ·refine hb.imp id fun hb=>?_;have:=pE dF;simp only [eF] at hb;omega
  ·rename_i fs hu
   obtain⟨xs,m,hm,hx,hl,ja,hf⟩:=DataW.trod_struct hu h;obtain rfl:m=n:=by omega
   simp only [amA] at hx;obtain⟨rfl,_⟩:=hx;refine⟨hl,fun i f hi=>?_⟩;have av:=(als.1 hi).1;have h3:=hf i f hi;have h4:xs[i]? =some xs[i]:=alf (by omega);rw [h4] at h3;have dF:(xs[i]).1∈xs.map (·.1):=alu.2 ⟨_,alz _,rfl⟩;refine ih f.type _ (xs[i]).1 (xs[i]).2 h3 (fun k hk=>hw k ?_) (hb.imp id fun hb=>?_)
   ·simp only [DataW.weights,hu];exact DataW.weights_mem_each (j:=i) (t:=f.type) (d:=(xs[i]).1) (by simp [hi]) (by simp [show i < xs.length by omega]) k hk
   ·have:=pE dF;simp only [eF] at hb;omega
  ·rename_i m' e hu
   obtain⟨xs,m,hm,hx,hl,ja,hf⟩:=DataW.trod_array hu h;obtain rfl:m=n:=by omega
   simp only [amA] at hx;obtain⟨rfl,_⟩:=hx;refine⟨hl,fun i hi=>?_⟩;have h3:=hf i hi;have h4:xs[i]? =some xs[i]:=alf (by omega);rw [h4] at h3;have dF:(xs[i]).1∈xs.map (·.1):=alu.2 ⟨_,alz _,rfl⟩;refine ih e _ (xs[i]).1 (xs[i]).2 h3 (fun k hk=>hw k ?_) (hb.imp id fun hb=>?_)
   ·simp only [DataW.weights,hu];exact ox dF hk
   ·have:=pE dF;simp only [eF] at hb;omega
  ·trivial
variable {B n:Nat} {t:TypeId} {cs:List Value}
theorem mX {k:IntKind} (hu:P.underlying t=some (.int k)) (h:rK P w B n t cs): ∃m,cs= [.int k m] /\ (Lit.int k m).wf=true:=by
 cases n with
 | zero=>exact h.elim
 | succ n=>unfold rK at h;rw [hu] at h;exact h
theorem zh (hu:P.underlying t=some .string) (h:rK P w B n t cs): ∃s:ByteArray,cs= [.string s] /\ s.size<=reachBytes /\ s.size<=B:=by
 cases n with
 | zero=>exact h.elim
 | succ n=>unfold rK at h;rw [hu] at h;exact h
theorem lX {fs:Array Field} (hu:P.underlying t=some (.struct fs)) (h:rK P w B n t cs):cs.length=P.cellsOf t /\ ∃m,∀(i:Nat) (f:Field),fs[i]? =some f->rK P w B m f.type ((cs.drop f.offset).take (P.cellsOf f.type)):=by
 cases n with
 | zero=>exact h.elim
 | succ n=>unfold rK at h;rw [hu] at h;exact⟨h.1,n,h.2⟩
theorem ee {fs:Array Field} {m:Nat} (h: ∀(i:Nat) (f:Field),fs[i]? =some f->rK P w B m f.type ((cs.drop f.offset).take (P.cellsOf f.type))) (i:Nat) {ft off sz:Nat} (hi:(fs[i]?).map (fun f=>(f.type,f.offset))=some (ft,off)) (hs:P.cellsOf ft=sz):
  rK P w B m ft ((cs.drop off).take sz):=by
 rw [alH] at hi;obtain⟨f,h1,h2⟩:=hi;simp only [amA] at h2;obtain⟨rfl,rfl⟩:=h2;subst hs;exact h i f h1
theorem oy {α:Type} {f:α->List Value} {nn e:Nat} {G:α->Prop} (hu:P.underlying t=some (.slice e)) (hc:P.cellsOf e=nn) (Mt:0 < nn) (Il: ∀m ci,ci.length=nn->rK P w B m e ci-> ∃x,ci=f x /\ G x) (h:rK P w B n t cs):
  ∃(s:Sl) (l:List α) (o:List Nat),cs= [.slice s.a s.len s.cap] /\ bO w s nn f l o /\ (∀x∈l,G x) /\ l.length*P.bytesOf e<=reachBytes /\ l.length<=B /\ s.len<=s.cap:=by
 cases n with
 | zero=>exact h.elim
 | succ n=>
  unfold rK at h;rw [hu] at h
  rcases h with rfl | ⟨a,len,cap,rfl,h1,h2,h3,h4⟩
  ·exact⟨⟨none,0,0⟩,[],[],rfl,bO.nil rfl,by simp,by simp,by simp,alA _⟩
  ·rw [hc] at h4;have hx: ∀i,i < len-> ∃x:α,(∀j,j < nn->w.cell? ((a.add (i*nn)).add j)=(f x)[j]?) /\ (f x).length=nn /\ G x:=by
    intro i hi;obtain⟨ci,k1,k2,k3⟩:=h4 i hi;obtain⟨x,rfl,hg⟩:=Il n ci k1 k3;exact⟨x,k2,k1,hg⟩
   -- the list of them
   have build: ∀k,k<=len-> ∃l:List α,l.length=k /\ ∀i,i < k-> ∃x,l[i]? =some x /\ (∀j,j < nn->w.cell? ((a.add (i*nn)).add j)=(f x)[j]?) /\ (f x).length=nn /\ G x:=by
    intro k
    induction k with
    | zero=>intro _;exact⟨[],rfl,by intro i hi;omega⟩
    | succ k ih=>
     intro hk;obtain⟨l,q1,q2⟩:=ih (by omega);obtain⟨x,q3⟩:=hx k (by omega);refine⟨l++ [x],by simp [q1],fun i hi=>?_⟩;by_cases Ig:i < k
     ·obtain⟨y,r1,r2⟩:=q2 i Ig;exact⟨y,by rw [ak9 (by omega)];exact r1,r2⟩
     ·obtain rfl:i=k:=by omega
      exact⟨x,by rw [ak8 (by omega),q1,alK];rfl,q3⟩
   obtain⟨l,q1,q2⟩:=build len (alA _);have hG: ∀x∈l,(f x).length=nn /\ G x:=by
    intro x hx;obtain⟨i,hi⟩:=aly hx;obtain⟨y,r1,_,r3,r4⟩:=q2 i (by have:=(ak6.1 hi).1;omega);obtain rfl:=alm (hi.symm.trans r1);exact⟨r3,r4⟩
   refine⟨⟨some a,len,cap⟩,l,if len=0 then [] else [a.block],rfl,⟨q1,?_⟩,fun x hx=>(hG x hx).2,by rw [q1];exact h2,by rw [q1];exact h3,h1⟩;by_cases h0:len=0
   ·exact .inl ⟨h0,by rw [if_pos h0]⟩
   ·refine .inr ⟨a,rfl,by rw [if_neg h0],?_,?_⟩
    ·obtain⟨y,r1,r2,r3,_⟩:=q2 0 (by omega);have:=r2 0 Mt;rw [alf (by omega)] at this;have:=World.block_lt_of_cell? w _ this
     rwa [Addr.jU,Addr.jU] at this
    ·-- cells of all elements
     have key: ∀(l':List α) (k:Nat),(∀x∈l',(f x).length=nn)->(∀i x,l'[i]? =some x-> ∀j,j < nn->w.cell? ((a.add ((k+i)*nn)).add j)=(f x)[j]?)-> ∀j u,(l'.flatMap f)[j]? =some u->w.cell? (a.add (k*nn+j))=some u:=by
      intro l'
      induction l' with
      | nil=>intro k _ _ j u hj;simp at hj
      | cons x l' ih=>
       intro k hlen fb j u hj;rw [alX] at hj;by_cases Qr:j < nn
       ·rw [ak9 (by rw [hlen x (by simp)];exact Qr)] at hj;have:=fb 0 x rfl j Qr;rw [amW,Addr.jq] at this;rw [this];exact hj
       ·rw [ak8 (by rw [hlen x (by simp)];omega),hlen x (by simp)] at hj;have:=ih (k+1) (fun y hy=>hlen y (by simp [hy])) (fun i y hy j hj=>by
         have:=fb (i+1) y (by simpa using hy) j hj
         rwa [show k+(i+1)=k+1+i by omega] at this) (j - nn) u hj
        rw [show (k+1)*nn+(j - nn)=k*nn+j by rw [anb,anS];omega] at this;exact this
     intro j u hj;have:=key l 0 (fun x hx=>(hG x hx).1) (fun i x hi j hj=>by
      obtain⟨y,r1,r2,_⟩:=q2 i (by have:=(ak6.1 hi).1;omega);obtain rfl:=alm (hi.symm.trans r1);rw [aml];exact r2 j hj) j u hj
     simpa using this
end
end Go.Den
end
