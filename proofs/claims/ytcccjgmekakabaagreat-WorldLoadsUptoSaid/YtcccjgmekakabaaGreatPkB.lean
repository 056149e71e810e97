/-
  Part 2 of the proof:WorldLoads of layer 6 is true of the given program for every input that its guards let in (of bulk at most 1048576).
-/
import Derived.Test.YtcccjgmekakabaaGreatPkA
import Derived.Below
import Derived.OpenShut
import Derived.SizedLaws
import Derived.ChangeOld
set_option linter.unusedSimpArgs false
set_option linter.unusedVariables false
set_option maxRecDepth 100000
section
namespace Go.Den
variable {ds:List Deferred}
def LR (zk:List Obj) (K:List (Option Addr)->World->Prop):Nat->List (Option Addr)->World->Prop
 | 0,ys,w=>K ys w
 | n+1,ys,w=>K ys w /\ ∀i o,zk[i]? =some o->ys[i]? =some none->LR zk K n (ys.set i (some ⟨w.heap.size,0,none⟩)) (w.alloc o)
def Rc (fs:List (Obj×Option Addr)) (w:World) (K:Fn (fs.map fun _=>Kd.p) (World->Prop)):Prop:=
 LR (fs.map (·.1)) (fun ys w=>kI (fs.map fun _=>Kd.p) (ys.map Value.pointer) (fun r=>r w) K) fs.length (fs.map (·.2)) w
def Jh (y:Option Addr) (K:Addr->Prop):Prop:=
 match y with
 | some a=>K a
 | none=>True
structure kE where
 idx:Nat
 obj:Obj
 val:Addr->Value
 dst:Nat
 y:Option Addr
def FK (P:Program) (op:Op) (ρ:Operand->Option Value) (K:Obj->(Addr->Value)->Prop):Prop:=
 match op with
 | .alloc el=>
  match P.info? el with
  | some i=>match i.zero with
   | some z=>K (.cells z.cells el) fun a=>.pointer (some a)
   | none=>False
  | none=>False
 | .box el x=>
  match ρ x with
  | some v=>qE P el v fun cs=>K (.cells cs.toArray el) fun a=>.pointer (some a)
  | none=>False
 | .buildSlice t len parts=>
  match P.underlying t,qF ρ (parts.toList.map (·.2)) with
  | some (.slice el),some vs=>match P.info? el with
   | some inf=>match inf.zero with
    | some z=>cond (Nat.beq len 0) (match parts.toList with
      | []=>K (.cells #[] el) fun a=>.slice (some a) 0 0
      | _=>False) <| cond (Nat.ble (len*inf.size) 1000000 && Nat.beq z.cells.size inf.size && !Nat.beq (len*inf.size) 0)
      (rQ P ((List.range len).map fun i=>(i*inf.size,inf.size,el)) (mA z.cells.toList len) ((parts.toList.map (·.1)).zip vs) fun cs=>
       K (.cells cs.toArray el) fun a=>.slice (some a) len len) False
    | none=>False
   | none=>False
  | _,_=>False
 | .makeMap t r=>
  match r with
  | none=>K (.map #[] 0) fun a=>.map (some a.block)
  | some x=>match P.underlying t,ρ x with
   | some (.map _ _),some (.int _ _)=>K (.map #[] 0) fun a=>.map (some a.block)
   | _,_=>False
 | .makeSlice t x y=>
  match P.underlying t,ρ x,ρ y with
  | some (.slice el),some (.int _ l),some (.int _ c)=>match P.info? el with
   | some inf=>match inf.zero with
    | some z=>cond (Nat.beq z.cells.size inf.size && !Nat.beq inf.size 0)
      (0<=l /\ l<=c /\ c<=281474976710656 /\ inf.bytes*c<=281474976710656 /\ K (.cells (mA z.cells.toList c.toNat).toArray el) fun a=>.slice (some a) l.toNat c.toNat) False
    | none=>False
   | none=>False
  | _,_,_=>False
 | _=>False
inductive R6 where
 | ro (i:Nat)
 | Jc (i:Nat)
 | settle (i:Nat)
def tX (P:Program) (N:Nat) (fl:dv):List Row->Env->List kE->(Env->List kE->Prop)->Prop
 | [],l,pend,K=>K l pend
 | x :: r,l,pend,K=>match x.o.guard,x.o.dst with
  | none,some d=>cond (Nat.blt d N && eV fl d)
    (FK P x.o.op (look l fl []) fun obj val=>tX P N fl r ((d,none) :: l) (pend++ [⟨x.idx,obj,val,d,none⟩]) K) False
  | _,_=>False
def wO:List kE->List Value->List kE
 | p :: ps,.pointer y :: vs=>{ p with y:=y} :: wO ps vs
 | ps,_=>ps
def gg (mask:Nat) (x:Row):Bool:=Nat.beq (x.eB ||| mask) mask
def UR (P:Program) (N:Nat) (fl:dv) (mask:Nat) (wait:List Row) (pend:List kE) (l:Env) (w:World) (K:List kE->Env->World->Prop):Prop:=
 tX P N fl (wait.filter (gg mask)) l pend fun l1 gM=>match gM with
  | []=>K [] l1 w
  | p :: ps=>Rc ((p :: ps).map fun p=>(p.obj,p.y)) w (curry _ fun cs w1=>K (wO (p :: ps) cs) l1 w1)
def DO (P:Program) (N:Nat) (ops:Array Oper) (split:Bool) (rows:List Row):List R6->Nat->List Row->List kE->Env->dv->de->World->(Env->World->Prop)->Prop
 | [],_,wait,pend,l,_,_,w,K=>match wait,pend with
  | [],[]=>K l w
  | _,_=>False
 | .ro i :: r,mask,wait,pend,l,fl,C,w,K=>match rows[i]? with
  | some x=>mD P N ops split (dJ x) l fl C w fun l' kK C' w'=>DO P N ops split rows r (mask ||| 2 ^ i) wait pend l' kK C' w' K
  | none=>False
 | .Jc i :: r,mask,wait,pend,l,fl,C,w,K=>match rows[i]? with
  | some x=>UR P N fl mask wait pend l w fun gM l1 w1=>
    mD P N ops split (dJ x) l1 fl C w1 fun l' kK C' w'=>DO P N ops split rows r (mask ||| 2 ^ i) (wait.filter fun y=> !gg mask y) gM l' kK C' w' K
  | none=>False
 | .settle i :: r,mask,wait,pend,l,fl,C,w,K=>
  UR P N fl mask wait pend l w fun gM l1 w1=>match gM.find? fun p=>Nat.beq p.idx i with
   | some p=>Jh p.y fun ad=>DO P N ops split rows r (mask ||| 2 ^ i) (wait.filter fun y=> !gg mask y) (gM.filter fun p=> !Nat.beq p.idx i) ((p.dst,some (p.val ad)) :: l1) fl C w1 K
   | none=>False
def Ji (rows:List Row) (x:Row):Bool:=
 !x.ro && dM x.o.op && x.o.guard.isNone && rows.any fun y=> !y.ro && !Nat.beq y.idx x.idx && !Nat.testBit x.eB y.idx && !Nat.testBit y.eB x.idx
def Jj (dH:List Nat) (done:Nat) (x:Row):List Nat:=dH.filter fun i=>Nat.testBit x.eB i && !Nat.testBit done i
def pK (rows:List Row) (dH:List Nat):Nat->Nat->List R6
 | 0,_=> []
 | f+1,done=>
  match rows.find? (fun x=>x.ro && !Nat.testBit done x.idx && gg done x) with
  | some x=>.ro x.idx :: pK rows dH f (done ||| 2 ^ x.idx)
  | none=>match rows.find? (fun x=> !x.ro && !(dH.any fun i=>Nat.beq i x.idx) && !Nat.testBit done x.idx && Nat.beq (x.eB ||| done ||| (dH.foldl (fun s i=>s ||| 2 ^ i) 0)) (done ||| (dH.foldl (fun s i=>s ||| 2 ^ i) 0))) with
   | some x=>match Jj dH done x with
    | i :: _=>.settle i :: pK rows dH f (done ||| 2 ^ i)
    | []=>.Jc x.idx :: pK rows dH f (done ||| 2 ^ x.idx)
   | none=>match dH.find? (fun i=> !Nat.testBit done i) with
    | some i=>.settle i :: pK rows dH f (done ||| 2 ^ i)
    | none=> []
section
variable {P:Program} {e:Operand->Value} {ρ:Operand->Option Value}
theorem FL (hρ: ∀x v,ρ x=some v->e x=v) {op:Op} {ty:TypeId} {K:Obj->(Addr->Value)->Prop} (h:FK P op ρ K)
  (dst:Option Tmp) (pos:String) (after:Array Edge) (g:Option (Nat×Bool)):
  ∃obj val,(∀w,(execOp e ⟨dst,op,ty,pos,after,g⟩).run P w=.ok (.value (val ⟨w.heap.size,0,none⟩)) (w.alloc obj)) /\ K obj val:=by
 unfold FK at h
 split at h
 ·rename_i el
  split at h
  ·rename_i i hi
   split at h
   ·rename_i z hz
    refine⟨_,_,fun w=>?_,h⟩
    simp [execOp,Instr.alloc,zeroValue,typeInfo,hi,hz,newVar,newRow]
   ·exact h.elim
  ·exact h.elim
 ·rename_i el x
  split at h
  ·rename_i v hv
   have h1:=nA h
   refine⟨_,_,fun w=>?_,h1⟩
   simp [execOp,Instr.box,newVar,newRow,hρ _ _ hv]
  ·exact h.elim
 ·rename_i t len parts
  split at h
  ·rename_i el vs hu hm
   split at h
   ·rename_i inf hi
    split at h
    ·rename_i z hz
     cases qI:Nat.beq len 0 with
     | true=>
      rw [qI] at h
      simp only [cond_true] at h
      obtain rfl:=afS qI
      split at h
      ·rename_i hp
       have tM:parts=#[]:=agM (by simpa using hp)
       subst tM
       refine⟨_,_,fun w=>?_,h⟩
       have e0:Array.range 0=#[]:=rfl
       simp [execOp,Instr.buildSlice,run_underlying hu,sizeOf,typeInfo,hi,Instr.fill,newRow,e0]
      ·exact h.elim
     | false=>
     rw [qI] at h
     simp only [cond_false] at h
     cases hb:(Nat.ble (len*inf.size) 1000000 && Nat.beq z.cells.size inf.size && !Nat.beq (len*inf.size) 0) with
     | false=>rw [hb] at h;exact h.elim
     | true=>
      rw [hb] at h
      simp only [cond_true] at h
      simp only [afW,agb] at hb
      obtain⟨⟨lr,eU⟩,pC⟩:=hb
      have hle:len*inf.size<=1000000:=ahB lr
      have dw:z.cells.size=inf.size:=afS eU
      have Wa:len*inf.size≠0:=by intro h0;rw [h0] at pC;cases pC
      obtain⟨cs,hc,hK⟩:=pw h
      have MY:=nD (F':=fun i=>some (i*inf.size,inf.size)) (by
       intro i x hx
       simp only [af2] at hx
       obtain⟨y,hy,rfl⟩:=hx
       simp only [afC,af2] at hy
       obtain⟨j,hj,rfl⟩:=hy
       obtain⟨ar,dI⟩:=aft.1 hj
       simp only [List.getElem_range] at dI
       subst dI
       rfl) hc
      have e1:=jW hρ hm
      have mB:(parts.map fun(i,x)=>(i,e x)).toList=(parts.toList.map (·.1)).zip vs:=by
       rw [<-e1]
       simp only [aif,ahy]
       generalize parts.toList=ps
       induction ps with
       | nil=>rfl
       | cons p ps ih=>simp [ih]
      have ei:=xZ (z:=z.cells) len
      rw [dw] at ei
      refine⟨_,_,fun w=>?_,hK⟩
      have Wb: ¬(len*inf.size > 2 ^ 24):=by
       have:(2:Nat) ^ 24=16777216:=by decide
       omega
      simp only [execOp,Instr.buildSlice,Sem.run_bind,run_underlying hu,Result.andThen_ok,sizeOf,typeInfo,run_program,hi,Sem.run_pure,if_neg Wb,if_neg Wa,zeroValue,hz,dw,ei,mB,MY,newRow,
       run_newObj,World.alloc_eq,Array.toArray_toList]
    ·exact h.elim
   ·exact h.elim
  ·exact h.elim
 ·rename_i t r
  split at h
  ·refine⟨_,_,fun w=>?_,h⟩
   simp [execOp,Instr.makeMap]
  ·rename_i x
   split at h
   ·rename_i k el kk n hu h1
    refine⟨_,_,fun w=>?_,h⟩
    simp [execOp,Instr.makeMap,run_underlying hu,hρ _ _ h1,asInt,asIntOf]
   ·exact h.elim
 ·rename_i t x y
  split at h
  ·rename_i el k l k' c hu h1 h2
   split at h
   ·rename_i inf hi
    split at h
    ·rename_i z hz
     cases hb:(Nat.beq z.cells.size inf.size && !Nat.beq inf.size 0) with
     | false=>rw [hb] at h;exact h.elim
     | true=>
      rw [hb] at h
      simp only [cond_true] at h
      simp only [afW,agb] at hb
      obtain⟨c1,c2,c3,c4,hK⟩:=h
      refine⟨_,_,fun w=>?_,hK⟩
      have:=run_makeSlice (P:=P) (w:=w) (k:=k) (k':=k') hu hi hz (afS hb.1) (by intro h0;rw [h0] at hb;exact absurd hb.2 (by decide)) c1 c2 c3 c4
      simp [execOp,hρ _ _ h1,hρ _ _ h2,this]
    ·exact h.elim
   ·exact h.elim
  ·exact h.elim
 ·exact h.elim
theorem FM {zk:List Obj} {K:List (Option Addr)->World->Prop}: ∀{n:Nat} {ys:List (Option Addr)} {w:World},LR zk K n ys w->K ys w
 | 0,_,_,h=>h
 | _+1,_,_,h=>h.1
end
section
variable {P:Program} {N:Nat} {ops:Array Oper}
theorem zl (hP:yT P) (hs:Region.noSelect ops=true) {Q:Exit->Act->World->Prop} (hQ: ∀c a w,¬Q (.panic c) a w)
  (as:List Nat) (has:as=gf ops.toList []) (rows:List Row) (bc:rows=rowsOf P 0 ops.toList as) {x:Row} {i done m:Nat} {C:de} {a:Act} {w:World} {G:Env->dv->de->World->Prop}
  (kr:rows[i]? =some x) (eX: ∀j,done.testBit j=true->j < ops.size /\ as.getD j 0 ||| done=done) (sR:x.eB ||| done=done) (qI:done.testBit x.idx=false) (ys:List Row)
  (wP: ∀y∈rows,done.testBit y.idx=false->y.idx≠x.idx->y∈ys) (hC: ∀x∈C,dA w x.2 /\ (iW P rows).testBit x.1=true) (bO:Step ds P N ops (dJ x) a C w G)
  (ih: ∀{v:Value} {l:Env} {fl:dv} {C':de} {w':World},(∀x∈C',dA w' x.2 /\ (iW P rows).testBit x.1=true)->bP ds N (a.put x.o.dst v) l->iJ (a.put x.o.dst v) fl->G l fl C' w'->
   cm P .any ops as Q C' m (ck ops.size (done ||| 2 ^ x.idx)) (a.put x.o.dst v) w'):
  (x.ro=true->lF P ops x ys=true->cm P .any ops as Q C (m+1) (ck ops.size done) a w) /\
  (x.ro=false->FG (iW P rows) x ys=true->wpOp P ops Q x.idx (fun a' w'=>Gd P ops as C x.idx w w' /\ cm P .any ops as Q C m ((ck ops.size done).setIfInBounds x.idx true) a' w') a w):=by
  have j5: ∀y∈rowsOf P 0 ops.toList as,ops[y.idx]? =some y.o /\ as[y.idx]? =some y.eB /\ y.dir=rT y.o.after.toList /\ y.ro=gq P y.o.op /\ y.hd=fP P y.o:=by
   intro y hy
   obtain⟨j,h1,h2,h3,h4⟩:=gW hy
   rw [agH] at h3
   rw [h3]
   exact⟨by simpa using h1,h2,h4⟩
  obtain⟨h0,RW,RY,zg,RZ⟩:=j5 x (by rw [<-bc];exact afz kr)
  have qL:as.getD x.idx 0=x.eB:=by simp [RW]
  have yb:x.idx < ops.size:=(afL.1 h0).1
  have ik: ∀j oj,ops[j]? =some oj->as[j]? =some (eF (as.take j) oj.after.toList):=by
   intro j oj hj
   have:=ij ops.toList [] j oj (by simpa using hj)
   rw [has]
   simpa using this
  have rW: ∀j oj,ops[j]? =some oj->as.getD j 0=eF (as.take j) oj.after.toList:=fun j oj hj=>by simp [ik j oj hj]
  have mG:x.idx∈Region.ready .any ops (ck ops.size done):=by
   refine mem_ready.2 ⟨by rw [aI,if_pos yb];exact qI,x.o,h0,fun e he kO=>?_⟩
   have h2:x.eB.testBit e.on=true:=by
    rw [<-qL,rW _ _ h0]
    exact gU kO _ _ (.inl (by simpa using he))
   have h3:=cJ sR h2
   rw [aI,if_pos (eX _ h3).1]
   exact h3
  have iK: ∀j oj,j≠x.idx->ops[j]? =some oj->done.testBit j=false-> ∃y∈ys,y.idx=j /\ y.o=oj /\ y.eB=as.getD j 0 /\ y.dir=rT oj.after.toList /\ y.hd=fP P oj:=by
   intro j oj aR hj ot
   have dB:=(afL.1 hj).1
   have IU:j < rows.length:=by
    rw [bc,fD P _ _ _ (by rw [has,pI])];simpa using dB
   obtain⟨y,hy⟩: ∃y,rows[j]? =some y:=⟨_,afD IU⟩
   have cP:y∈rows:=afz hy
   have ku:y.idx=j:=by
    rw [bc] at hy
    have:=ju P _ _ _ _ _ hy
    omega
   obtain⟨g1,g2,g3,g4,g5⟩:=j5 y (by rw [<-bc];exact cP)
   rw [ku] at g1 g2
   have e:y.o=oj:=afK (g1.symm.trans hj)
   refine⟨y,?_,ku,e,by simp [g2],by rw [g3,e],by rw [g5,e]⟩
   exact wP y cP (by rw [ku];exact ot) (by rw [ku];exact aR)
  -- where a set of bits holds whom an operation waits for
  have through: ∀i oi,ops[i]? =some oi->(as.getD i 0).testBit x.idx=true-> ∃e∈oi.after,Region.binds .any e=true /\ (e.on=x.idx \/ (as.getD e.on 0).testBit x.idx=true):=by
   intro i oi hi hb
   rw [rW i oi hi] at hb
   rcases gT _ _ hb with h5 | ⟨e,he,kO,h5⟩
   ·simp at h5
   ·refine⟨e,by simpa using he,kO,h5.imp id fun h6=>?_⟩
    have h7:(as.take i).getD e.on 0=as.getD e.on 0 \/ (as.take i).getD e.on 0=0:=by
     simp only [afO,agc]
     split
     ·exact .inl rfl
     ·exact .inr rfl
    rcases h7 with h7 | h7
    ·rw [h7] at h6;exact h6
    ·rw [h7] at h6;simp at h6
  refine⟨fun il eU=>?_,fun il Wi=>?_⟩
  ·have yc:gq P x.o.op=true:=zg ▸ il
   have go: ∀(v:Value) (S:World->Prop) (C':de),(∀j,j < ops.size->j≠x.idx->done.testBit j=false->(as.getD j 0).testBit x.idx=false-> ∀w w',Gd P ops as C' j w w'->S w->S w')->
     YieldsIf P ops S x.o v a->S w->cm P .any ops as Q C' m (ck ops.size (done ||| 2 ^ x.idx)) (a.put x.o.dst v) w->
     cm P .any ops as Q C' (m+1) (ck ops.size done) a w:=by
    intro v S C' zh hy hS tR
    refine lE (S:=S) (jZ as ops.size x.idx) h0 (Region.noSelect_spec hs) (fun c a w hq=>absurd hq (hQ c _ w)) ?_ (by simp [jZ]) _ _ _ _ ?_ ?_ ?_ mG hy hS (by rw [gV];exact tR)
    ·intro j hj
     obtain⟨h1,oj,h2,h3⟩:=mem_ready.1 hj
     have dB:=(afL.1 h2).1
     rw [cp,if_pos dB] at h1
     by_cases kN:j=x.idx
     ·exact kN
     ·simp only [kN,decide_false,ahb,agW,Bool.not_eq_false'] at h1
      obtain⟨e,he,kO,h5⟩:=through j oj h2 h1
      have h6:=h3 e he kO
      rw [cp] at h6
      split at h6
      ·simp only [afW,agb,decide_eq_false_iff_not] at h6
       rcases h5 with h5 | h5
       ·exact absurd h5 h6.1
       ·rw [h6.2] at h5;cases h5
      ·cases h6
    ·intro j oj hj kN ot da
     have dB:=(afL.1 hj).1
     rw [aI,if_pos dB] at ot
     obtain⟨y,td,e1,e2,e3,e4,e5⟩:=iK j oj kN hj ot
     have jQ:=dN eU td
     rw [il] at jQ
     simp only [afW,agu] at jQ
     rcases jQ.1 with h1 | h1
     ·rw [e4] at h1
      rcases nG _ _ h1 with h2 | ⟨e,he,kO,h2⟩
      ·simp at h2
      ·exact absurd h2 (da e (by simpa using he) kO)
     ·rw [e2] at h1;exact h1
    ·intro j hj
     rw [aI] at hj
     split at hj
     ·rename_i dB
      rw [cp,if_pos dB]
      have aR:j≠x.idx:=by intro e;rw [e,qI] at hj;cases hj
      have:(as.getD j 0).testBit x.idx=false:=by
       cases kp:(as.getD j 0).testBit x.idx with
       | false=>rfl
       | true=>
        have:=cJ (eX j hj).2 kp
        rw [qI] at this;cases this
      simp only [aR,decide_false,ahb,agW,agb,this]
     ·cases hj
    ·intro j hj A2
     rw [aI] at hj
     split at hj
     ·rename_i dB
      rw [cp,if_pos dB] at A2
      simp only [afW,agb,decide_eq_false_iff_not] at A2
      exact zh j dB A2.1 hj A2.2
     ·cases hj
   rcases bO with ⟨v,l',kK,fp,vT,h1,zi,h2,h3,h4,h5⟩ | ⟨l',kK,h1,h3,h4,h5⟩ | ⟨hn,h1,h2⟩
   ·have R0: ∀y∈C,y∈jt (dJ x) fp C:=fun y hy=>by simp [jt,dJ,hy]
    refine eW R0 _ _ _ _ ?_
    refine go v (FE P x.o.op fp w) _ ?_ (.inl ⟨h1,h2⟩) ?_ (ih ?_ h3 h4 h5)
    ·intro j dB kN ot rX w1 w2 hg bK
     rcases bK with bK | ⟨bK,hx⟩ | ⟨bK,hc⟩
     ·exact .inl bK
     ·have dI:ops[j]? =some ops[j]:=by simp [dB]
      obtain⟨y,td,e1,e2,e3,e4,e5⟩:=iK j ops[j] kN dI ot
      have jQ:=dN eU td
      rw [il] at jQ
      simp only [afW,agu] at jQ
      rcases jQ.2 with ((h7 | h7) | h7) | h7
      ·exact .inl h7
      ·rw [bK] at h7;cases h7
      ·rw [e3,rX] at h7;cases h7
      ·refine .inr (.inl ⟨bK,hx.trans (hg.1 ?_)⟩)
       simp only [ko,dI]
       rw [<-e5];exact h7
     ·refine .inr (.inr ⟨bK,fun z hz=>?_⟩)
      exact hg.2 (x.idx,z) (by simp [jt,dJ,hz]) rX (hc z hz)
    ·unfold FE
     cases hb:cr P x.o.op with
     | true=>exact .inr (.inr ⟨rfl,zi⟩)
     | false=>exact .inr (.inl ⟨rfl,Ext.refl w⟩)
    ·intro y hy
     simp only [jt,dJ,afB,afQ] at hy
     rcases hy with ⟨z,hz,rfl⟩ | hy
     ·exact⟨zi z hz,j6 (afz kr) (by
       cases nH:cr P x.o.op with
       | true=>rfl
       | false=>rw [vT nH] at hz;cases hz)⟩
     ·exact hC y hy
   ·exact go undef (fun _=>True) C (fun _ _ _ _ _ _ _ _ _=>trivial) (.inr ⟨h1,rfl⟩) trivial (ih hC h3 h4 h5)
   ·have kq:gq P x.o.op=false:=hn
    rw [yc] at kq;cases kq
  ·have yc:gq P x.o.op=false:=zg ▸ il
   unfold wpOp
   simp only [h0]
   rw [gV]
   rcases bO with ⟨v,l',kK,fp,vT,h1,zi,h2,h3,h4,h5⟩ | ⟨l',kK,h1,h3,h4,h5⟩ | ⟨hn,h1,h2⟩
   ·have rY:Region.wanted x.o (yielded ops a.tmps)=true:=h1
    rw [if_pos rY]
    refine .inl ?_
    unfold Oper.wp
    have IT:(execOp a.eval x.o).run P w=.ok (.value v) w:=h2 w (by
     unfold FE
     cases hb:cr P (dJ x).o.op with
     | true=>exact .inr (.inr ⟨rfl,zi⟩)
     | false=>exact .inr (.inl ⟨rfl,Ext.refl w⟩))
    rw [IT]
    refine⟨Gd.refl,?_⟩
    refine eW (C':=jt (dJ x) fp C) (fun y hy=>by simp [jt,dJ,hy]) _ _ _ _ (ih ?_ h3 h4 h5)
    intro y hy
    simp only [jt,dJ,afB,afQ] at hy
    rcases hy with ⟨z,hz,rfl⟩ | hy
    ·exact⟨zi z hz,j6 (afz kr) (by
      cases nH:cr P x.o.op with
      | true=>rfl
      | false=>rw [vT nH] at hz;cases hz)⟩
    ·exact hC y hy
   ·have rY:Region.wanted x.o (yielded ops a.tmps)=false:=h1
    rw [if_neg (by rw [rY];simp)]
    exact⟨Gd.refl,ih hC h3 h4 h5⟩
   ·have rY:Region.wanted x.o (yielded ops a.tmps)=true:=h1
    rw [if_pos rY]
    refine .inl (Oper.wp_mono ?_ (h2 Q))
    rintro a' w' ⟨qz,R2,v,l',kK,rfl,h3,h4,h5⟩
    have gr: ∀y∈C,(as.getD x.idx 0).testBit y.1=false->dA w' y.2:=by
     intro y hy hb
     cases gI:dM x.o.op with
     | true=>exact(qz gI).hold (hC y hy).1
     | false=>
      have:=R2 gI
      simp only [tO,dJ] at this
      exact this y hy (by rw [<-qL];exact hb)
    refine⟨⟨fun hh=>qz ?_,fun y hy hb _=>gr y hy hb⟩,?_⟩
    ·have:fP P x.o=true:=by simpa [ko,h0] using hh
     have kq:gq P x.o.op=false:=hn
     simp only [fP,kq,aid] at this
     exact this
    ·refine jY (C2:=mC (dJ x) C) trivial _ _ _ _ ?_ (ih ?_ h3 h4 h5)
     ·intro y hy
      cases hb:x.eB.testBit y.1 with
      | false=>exact .inl (by simp [mC,dJ,hy,hb])
      | true=>
       refine .inr fun i hi=>?_
       rw [aI] at hi
       split at hi
       ·rename_i n8
        simp only [agj,ahF,agt,decide_eq_false_iff_not] at hi
        have fK:ops[i]? =some ops[i]:=by simp [n8]
        obtain⟨z,hz,e1,e2,e3,e4,e5⟩:=iK i ops[i] (fun e=>hi.2 e.symm) fK hi.1
        have jQ:=agw.1 Wi z hz
        simp only [agu] at jQ
        rcases jQ with jQ | jQ
        ·left;simp only [ko,fK];rw [<-e5];exact jQ
        ·right
         rw [<-e3]
         exact cJ (afS jQ) (by rw [Nat.testBit_and,hb,(hC y hy).2];rfl)
       ·cases hi
     ·intro y hy
      simp only [mC,dJ,agv,agb] at hy
      exact⟨gr y hy.1 (by rw [qL];exact hy.2),(hC y hy.1).2⟩
end
def bitsOf (is:List Nat):Nat:=is.foldl (fun s i=>s ||| 2 ^ i) 0
def gX (rows:List Row) (dH:List Nat) (mask:Nat):List Nat:=dH.filter fun i=> !Nat.testBit mask i && match rows[i]? with
 | some y=>gg mask y
 | none=>false
def has (is:List Nat) (j:Nat):Bool:=is.any fun i=>Nat.beq i j
def FN (rows:List Row) (pm:List Nat) (mask on:Nat) (e:Option Nat):Bool:=
 rows.all fun y=>Nat.testBit mask y.idx || has pm y.idx || (match e with
  | some i=>Nat.beq i y.idx
  | none=>false) || !gg on y
def iX (P:Program) (ops:Array Oper) (rows:List Row) (dH:List Nat):List R6->Nat->Bool
 | [],mask=>(List.range ops.size).all fun i=>Nat.testBit mask i
 | .ro i :: r,mask=>match rows[i]? with
  | some x=>x.ro && gg mask x && !Nat.testBit mask i && lF P ops x (rest rows mask i) && iX P ops rows dH r (mask ||| 2 ^ i)
  | none=>false
 | .Jc i :: r,mask=>match rows[i]? with
  | some x=> !x.ro && !has dH i && gg mask x && !Nat.testBit mask i && FG (iW P rows) x (rest rows mask i) &&
    FN rows (gX rows dH mask) mask (mask ||| bitsOf (gX rows dH mask)) (some i) && iX P ops rows dH r (mask ||| 2 ^ i)
  | none=>false
 | .settle i :: r,mask=>has (gX rows dH mask) i &&
   FN rows (gX rows dH mask) mask (mask ||| bitsOf ((gX rows dH mask).filter fun j=> !Nat.beq j i)) none && iX P ops rows dH r (mask ||| 2 ^ i)
def jv (ops:Array Oper) (rows:List Row) (dH:List Nat):Bool:=
 dH.all fun i=>match rows[i]? with
  | some x=>dM x.o.op && !x.ro && rows.all fun y=>Nat.beq y.idx i || ((match x.o.dst,y.o.dst with
    | some d,some d'=> !Nat.beq d d'
    | _,_=>true) && (Nat.testBit x.eB y.idx || match y.o.dst with
    | some d=> !(x.o.looksAt ops).contains d
    | none=>true) && (match y.o.guard,x.o.dst with
    | some (j,_),some d=>(match (ops[j]?).bind (·.dst) with
     | some d'=> !Nat.beq d d'
     | none=>true)
    | _,_=>true))
  | none=>false
def mH (n D:Nat):Nat:=((List.range n).filter fun j=> !Nat.testBit D j).length
theorem filter_lt {l:List Nat} {p q:Nat->Bool} {i:Nat} (hi:i∈l) (hp:p i=true) (hq:q i=false) (h: ∀j,q j=true->p j=true):(l.filter q).length+1<=(l.filter p).length:=by
 induction l with
 | nil=>cases hi
 | cons x l ih=>
  have hle:(l.filter q).length<=(l.filter p).length:=by
   clear ih hi
   induction l with
   | nil=>simp
   | cons y l ih=>
    simp only [ahL]
    cases US:q y with
    | true=>rw [h y US];simpa using ih
    | false=>cases UT:p y <;> simp <;> omega
  rcases af1.1 hi with rfl | hi
  ·simp only [ahL,hp,hq,if_true,agD,if_false,af6];omega
  ·have:=ih hi
   simp only [ahL]
   cases hqx:q x with
   | true=>rw [h x hqx];simp;omega
   | false=>cases vZ:p x <;> simp <;> omega
theorem tf {n D i:Nat} (hi:i < n) (h:D.testBit i=false):mH n (D ||| 2 ^ i)+1<=mH n D:=by
 refine filter_lt (agC.2 hi) (by simp [h]) (by simp [agj]) ?_
 intro j hj
 simp only [agj,Bool.not_or,afW] at hj
 exact hj.1
theorem kP {N:Nat} {fl:dv} {dst:Option Nat} {l:Env} {v:Value} {K R:Env->Prop} (hR: ∀l',(∀t,dst≠some t->gt l' t=gt l t)->R l'):
  tN N fl dst l v K=tN N fl dst l v (fun l'=>K l' /\ R l'):=by
 cases dst with
 | none=>simp [tN,hR l (fun _ _=>rfl)]
 | some d=>
  simp only [tN]
  congr 1
  apply propext
  refine⟨fun h=>⟨h,hR _ fun t ht=>?_⟩,fun h=>h.1⟩
  simp only [gt]
  cases hb:Nat.beq d t with
  | false=>rfl
  | true=>exact absurd (by rw [afS hb]) ht
theorem oK {P:Program} {N:Nat} {it:It} {l:Env} {fl:dv} {C:de} {w:World} {K:Env->de->World->Prop} {R:Env->Prop} (hR: ∀l',(∀t,it.o.dst≠some t->gt l' t=gt l t)->R l'):
  rS P N it l fl C w K=rS P N it l fl C w (fun l' C' w'=>K l' C' w' /\ R l'):=by
 unfold rS
 congr 1
 ·congr 1
  funext v fp
  congr 1
  funext v
  rw [kP hR]
 ·congr 1
  funext v w'
  congr 1
  rw [kP hR]
def Kept (ops:Array Oper) (o:Oper) (l:Env) (fl:dv) (l':Env) (kK:dv):Prop:=
 ∀t,o.dst≠some t->(∀j want,o.guard=some (j,want)->(ops[j]?).bind (·.dst)≠some t)->gt l' t=gt l t /\ (eV fl t=true->eV kK t=true)
theorem tg {l:Env} {g t:Nat} {v:Option Value} (h:g≠t):gt ((g,v) :: l) t=gt l t:=by
 simp only [gt]
 cases hb:Nat.beq g t with
 | false=>rfl
 | true=>exact absurd (afS hb) h
theorem tY {fl:dv} {t g:Nat} {G:List (Nat×Bool)} (h:eV fl t=true) (hg:fU fl g=some G): ∀x∈G,x.1≠t:=by
 induction fl with
 | nil=>simp [fU] at hg
 | cons y fl ih=>
  obtain⟨d,G',v⟩:=y
  simp only [fU] at hg
  have bF:=wL h
  cases hb:Nat.beq d g with
  | true=>
   rw [hb] at hg
   simp only [cond_true,afy] at hg
   subst hg
   exact(bF (d,G',v) (by simp)).2
  | false=>
   rw [hb] at hg
   refine ih ?_ hg
   unfold eV at h ⊢
   simp only [List.all_cons,afW] at h
   exact h.2
theorem tZ {P:Program} {N:Nat} {ops:Array Oper} {split:Bool} {it:It} {l:Env} {fl:dv} {C:de} {w:World} {G:Env->dv->de->World->Prop} (h:mD P N ops split it l fl C w G):
  mD P N ops split it l fl C w (fun l' kK C' w'=>G l' kK C' w' /\ Kept ops it.o l fl l' kK):=by
 have base: ∀l',(∀t,it.o.dst≠some t->gt l' t=gt l t)->Kept ops it.o l fl l' fl:=fun l' h t h1 _=>⟨h t h1,id⟩
 unfold mD at h ⊢
 split at h
 ·rename_i hg
  rw [oK base] at h
  simp only [hg]
  exact h
 ·rename_i j want hg
  simp only [hg]
  split at h
  ·exact h.elim
  ·rename_i g Ra
   have CT: ∀(b:Bool) l',(∀t,it.o.dst≠some t->gt l' t=gt ((g,some (.bool b)) :: l) t)->Kept ops it.o l fl l' fl:=fun b l' h t h1 h2=>
    ⟨(h t h1).trans (tg (by intro e;subst e;exact h2 j want hg Ra)),id⟩
   split at h
   ·split at h
    ·rename_i c hc
     split at h
     ·rename_i M3
      rw [if_pos M3]
      cases want with
      | true=>simp only [cond_true] at h ⊢;rw [oK (CT true)] at h;exact h
      | false=>simp only [cond_false] at h ⊢;rw [kP (CT true)] at h;exact h
     ·rename_i M3
      rw [if_neg M3]
      cases want with
      | true=>simp only [cond_true] at h ⊢;rw [kP (CT false)] at h;exact h
      | false=>simp only [cond_false] at h ⊢;rw [oK (CT false)] at h;exact h
    ·rename_i hc
     rw [kP base] at h
     exact h
    ·exact h.elim
   ·split at h
    ·exact h.elim
    ·rename_i G' hG
     split at h
     ·rename_i v d hv hd
      cases hb:(Nat.blt d N && eV fl d && ((g,want) :: G').all fun x=> !(Nat.beq x.1 d)) with
      | false=>rw [hb] at h;exact h.elim
      | true=>
       rw [hb] at h
       simp only [cond_true] at h ⊢
       refine⟨h,fun t h1 h2=>⟨tg (by intro e;subst e;exact h1 hd),fun hf=>?_⟩⟩
       have Wj:g≠t:=by intro e;subst e;exact h2 j want hg Ra
       have hdt:d≠t:=by intro e;subst e;exact h1 hd
       have hGt: ∀x∈G',x.1≠t:=by
        unfold flagsOf at hG
        split at hG
        ·simp only [afy] at hG;subst hG;simp
        ·exact tY hf hG
        ·cases hG
       unfold eV at hf ⊢
       simp only [List.all_cons,hf,Bool.and_true]
       have nb: ∀{x y:Nat},x≠y->Nat.beq x y=false:=fun{x y} aR=>by
        cases hb:Nat.beq x y with
        | false=>rfl
        | true=>exact absurd (afS hb) aR
       simp only [nb hdt,nb Wj,ahb,agW]
       exact agw.2 fun x hx=>by rw [nb (hGt x hx)];rfl
     ·exact h.elim
section
variable {P:Program} {N:Nat} {ops:Array Oper}
def FO (P:Program) (rows:List Row) (dH:List Nat) (mask:Nat) (a:Act) (p:kE):Prop:=
 ∃x,rows[p.idx]? =some x /\ x.o.dst=some p.dst /\ x.o.guard=none /\ has dH p.idx=true /\ gg mask x=true /\
  (p.y=none-> ∀w,(execOp a.eval x.o).run P w=.ok (.value (p.val ⟨w.heap.size,0,none⟩)) (w.alloc p.obj)) /\ (∀ad,p.y=some ad->a.tmps[p.dst]? =some (p.val ad))
structure wQ (ds:List Deferred) (P:Program) (N:Nat) (ops:Array Oper) (as:List Nat) (rows:List Row) (dH:List Nat) (a0:Act) (mask D:Nat) (wait:List Row) (pend:List kE) (l:Env) (fl:dv) (C:de) (w:World) (a:Act):Prop where
 env:bP ds N a l
 DP:iJ a fl
 cells: ∀x∈C,dA w x.2 /\ (iW P rows).testBit x.1=true
 r8: ∀p∈pend,FO P rows dH mask a p
 free: ∀p∈pend,(∀v,gt l p.dst≠some (some v)) /\ eV fl p.dst=true /\ p.dst < N
 CU:(pend.map (·.idx)).Nodup
 pm: ∀p∈pend,mask.testBit p.idx=false
 sub: ∀j,D.testBit j=true↔mask.testBit j=true \/ ∃p∈pend,p.idx=j /\ p.y≠none
 dn: ∀j,D.testBit j=true->j < ops.size /\ as.getD j 0 ||| D=D
 wt: ∀y∈wait,rows[y.idx]? =some y /\ has dH y.idx=true /\ mask.testBit y.idx=false /\ ∀p∈pend,p.idx≠y.idx
 FQ:(wait.map (·.idx)).Nodup
 all: ∀i,has dH i=true->mask.testBit i=false->i < rows.length->(∃p∈pend,p.idx=i) \/ ∃y∈wait,y.idx=i
 off:kL (dstsOf ops.toList) a0 a
theorem bP.M8 {a:Act} {l:Env} {d:Nat} (h:bP ds N a l):bP ds N a ((d,none) :: l):=by
 refine⟨h.size,h.defers,fun t u hu=>?_⟩
 simp only [gt] at hu
 cases hb:Nat.beq d t with
 | true=>rw [hb] at hu;simp at hu
 | false=>rw [hb] at hu;exact h.A1 t u hu
theorem Bn {as:List Nat} {rows:List Row} {dH:List Nat} {a0:Act} {mask D:Nat} {fl:dv} {C:de} {w:World} {a:Act} {K:Env->List kE->Prop}:
  ∀(on off:List Row) (pend:List kE) (l:Env),(∀y∈on,gg mask y=true)->wQ ds P N ops as rows dH a0 mask D (on++off) pend l fl C w a->tX P N fl on l pend K->
   ∃l1 more,K l1 (pend++more) /\ wQ ds P N ops as rows dH a0 mask D off (pend++more) l1 fl C w a /\ (∀y∈on,∃p∈pend++more,p.idx=y.idx)
 | [],off,pend,l,_,bO,h=>⟨l,[],by simpa [tX] using h,by simpa using bO,by simp⟩
 | x :: on,off,pend,l,Rd,bO,h=>by
  simp only [tX] at h
  split at h
  ·rename_i d hg hd
   cases hb:(Nat.blt d N && eV fl d) with
   | false=>rw [hb] at h;exact h.elim
   | true=>
    rw [hb] at h
    simp only [cond_true] at h
    simp only [afW] at hb
    obtain⟨⟨dst,op,ty,pos,after,guard⟩,idx,eB,dir,ro,Z2⟩:=x
    simp only at hg hd
    subst hd
    subst hg
    obtain⟨obj,val,Bo,h⟩:=FL (ty:=ty) (fun x v hx=>nE bO.env bO.DP kM x v hx) h (some d) pos after none
    have hw:=bO.wt _ (agZ _ List.mem_cons_self)
    have bE:=bO.FQ
    simp only [af3,agl,ags] at bE
    have ej:wQ ds P N ops as rows dH a0 mask D (on++off) (pend++ [⟨idx,obj,val,d,none⟩]) ((d,none) :: l) fl C w a:=by
     refine{ env:=bO.env.M8,DP:=bO.DP,cells:=bO.cells,r8:=?_,free:=?_,CU:=?_,pm:=?_,sub:=?_,dn:=bO.dn,wt:=?_,FQ:=bE.2,all:=?_,off:=bO.off}
     ·intro p hp
      rcases afB.1 hp with hp | hp
      ·exact bO.r8 p hp
      ·simp only [afF] at hp
       subst hp
       exact⟨_,hw.1,rfl,rfl,hw.2.1,Rd _ (by simp),fun _=>Bo,fun ad h=>by cases h⟩
     ·intro p hp
      rcases afB.1 hp with hp | hp
      ·refine⟨fun v=>?_,(bO.free p hp).2⟩
       by_cases e:d=p.dst
       ·subst e;simp [gt]
       ·rw [tg e];exact(bO.free p hp).1 v
      ·simp only [afF] at hp
       subst hp
       exact⟨fun v=>by simp [gt],hb.2,by simpa [Nat.blt_eq] using hb.1⟩
     ·rw [agh,ago]
      refine⟨bO.CU,by simp,?_⟩
      rintro x hx y hy rfl
      simp only [agl,ahq,afF] at hy
      obtain⟨p,hp,he⟩:=afQ.1 hx
      exact hw.2.2.2 p hp (he.trans hy)
     ·intro p hp
      rcases afB.1 hp with hp | hp
      ·exact bO.pm p hp
      ·simp only [afF] at hp
       subst hp
       exact hw.2.2.1
     ·intro j
      rw [bO.sub j]
      refine or_congr Iff.rfl ⟨?_,?_⟩
      ·rintro⟨p,hp,h⟩;exact⟨p,agZ _ hp,h⟩
      ·rintro⟨p,hp,h1,h2⟩
       rcases afB.1 hp with hp | hp
       ·exact⟨p,hp,h1,h2⟩
       ·simp only [afF] at hp
        subst hp
        exact absurd rfl h2
     ·intro y hy
      obtain⟨h1,h2,h3,h4⟩:=bO.wt y (ahc _ hy)
      refine⟨h1,h2,h3,fun p hp=>?_⟩
      rcases afB.1 hp with hp | hp
      ·exact h4 p hp
      ·simp only [afF] at hp
       subst hp
       intro e
       exact bE.1 (afQ.2 ⟨y,hy,e.symm⟩)
     ·intro i h1 h2 h3
      rcases bO.all i h1 h2 h3 with ⟨p,hp,he⟩ | ⟨y,hy,he⟩
      ·exact .inl ⟨p,agZ _ hp,he⟩
      ·rcases af1.1 hy with rfl | hy
       ·exact .inl ⟨_,ahj _ (afF.2 rfl),he⟩
       ·exact .inr ⟨y,hy,he⟩
    obtain⟨l1,more,hK,hs,qM⟩:=Bn on off _ _ (fun y hy=>Rd y (ahc _ hy)) ej h
    refine⟨l1,[⟨idx,obj,val,d,none⟩]++more,by simpa using hK,by simpa using hs,?_⟩
    intro y hy
    rcases af1.1 hy with rfl | hy
    ·exact⟨⟨idx,obj,val,d,none⟩,by simp,rfl⟩
    ·obtain⟨p,hp,he⟩:=qM y hy
     exact⟨p,by simpa using hp,he⟩
  ·exact h.elim
end
section
variable {P:Program} {N:Nat} {ops:Array Oper}
theorem eZ {rows:List Row} {dH:List Nat} (h:jv ops rows dH=true) {i:Nat} {x:Row} (hi:has dH i=true) (hx:rows[i]? =some x):
  dM x.o.op=true /\ x.ro=false /\ ∀y∈rows,y.idx≠i->(∀d d',x.o.dst=some d->y.o.dst=some d'->d≠d') /\ (x.eB.testBit y.idx=true \/ ∀d,y.o.dst=some d->d ∉ x.o.looksAt ops) /\ (∀j want d,y.o.guard=some (j,want)->x.o.dst=some d->(ops[j]?).bind (·.dst)≠some d):=by
 obtain⟨j,hj,he⟩:=ahK.1 hi
 have:=agw.1 h j hj
 rw [afS he,hx] at this
 simp only [afW,agb] at this
 obtain⟨⟨h1,h2⟩,h3⟩:=this
 refine⟨h1,h2,fun y hy aR=>?_⟩
 have h4:=agw.1 h3 y hy
 simp only [agu,afW] at h4
 rcases h4 with h4 | ⟨⟨h4,h5⟩,h6⟩
 ·exact absurd (afS h4) aR
 ·refine⟨fun d d' hd Wk=>?_,?_,fun j want d hg hd he=>?_⟩
  ·rw [hd,Wk] at h4
   intro e
   subst e
   simp at h4
  ·rcases h5 with h5 | h5
   ·exact .inl h5
   ·refine .inr fun d hd=>?_
    rw [hd] at h5
    simpa using h5
  ·rw [hg,hd] at h6
   simp only [he] at h6
   simp at h6
theorem FO.put {rows:List Row} {dH:List Nat} {mask:Nat} {a:Act} {p:kE} {o:Oper} {v:Value} (hs:Region.noSelect ops=true) (h:FO P rows dH mask a p)
  (Bp: ∀(i:Nat) (x:Row),rows[i]? =some x->ops[i]? =some x.o) (hd:o.dst≠some p.dst) (hl: ∀x:Row,rows[p.idx]? =some x-> ∀d,o.dst=some d->d ∉ x.o.looksAt ops):FO P rows dH mask (a.put o.dst v) p:=by
 obtain⟨x,h1,h2,h3,h4,h5,h6,h7⟩:=h
 refine⟨x,h1,h2,h3,h4,h5,fun hy w=>?_,fun ad ye=>?_⟩
 ·rw [execOp_put (ops:=ops) x.o (fun cs b=>Region.noSelect_spec hs p.idx x.o cs b (Bp _ _ h1)) a o.dst v (hl x h1)]
  exact h6 hy w
 ·cases hod:o.dst with
  | none=>exact h7 ad ye
  | some d=>
   rw [fL,if_neg]
   ·exact h7 ad ye
   ·intro e;apply hd;rw [hod,e]
theorem bP.Jk {a:Act} {l:Env} {d:Nat} {v:Value} (h:bP ds N a l) (hf: ∀u,gt l d≠some (some u)):bP ds N (a.put (some d) v) l:=by
 refine⟨by simp [Act.put,h.size],by simp [Act.put,h.defers],fun t u hu=>?_⟩
 rw [fL,if_neg]
 ·exact h.A1 t u hu
 ·intro e;subst e;exact hf u hu
theorem Bq {pend:List kE} (h:(pend.map (·.idx)).Nodup) {j k:Nat} {q p:kE} (hj:pend[j]? =some q) (hk:pend[k]? =some p) (aR:j≠k):q.idx≠p.idx:=by
 have hp:=ahl.1 h
 obtain⟨gN,rfl⟩:=aft.1 hj
 obtain⟨cU,rfl⟩:=aft.1 hk
 rcases Nat.lt_or_gt_of_ne aR with h1 | h1
 ·have:=hp j k (by simpa using gN) (by simpa using cU) h1
  simpa using this
 ·have:=hp k j (by simpa using cU) (by simpa using gN) h1
  intro e
  simp [e] at this
theorem Jl (hs:Region.noSelect ops=true) {as:List Nat} (jw:as=gf ops.toList []) {rows:List Row} (bc:rows=rowsOf P 0 ops.toList as) {dH:List Nat} (wR:jv ops rows dH=true) {a0:Act} {mask D:Nat} {wait:List Row} {pend:List kE}
  {l:Env} {fl:dv} {C:de} {w:World} {a:Act} (bO:wQ ds P N ops as rows dH a0 mask D wait pend l fl C w a) (hmD: ∀x:Row,gg mask x=true->x.eB ||| D=D) {k:Nat} {p:kE} (hk:pend[k]? =some p) (hy:p.y=none)
  {Q:Exit->Act->World->Prop} {R:Act->World->Prop}
  (H: ∀a',wQ ds P N ops as rows dH a0 mask (D ||| 2 ^ p.idx) wait (pend.set k { p with y:=some ⟨w.heap.size,0,none⟩}) l fl C (w.alloc p.obj) a'->R a' (w.alloc p.obj)):
  wpOp P ops Q p.idx (fun a' w'=>Gd P ops as C p.idx w w' /\ R a' w') a w:=by
 have hp:p∈pend:=afz hk
 have cU:k < pend.length:=(aft.1 hk).1
 obtain⟨x,h1,h2,h3,h4,h5,h6,h7⟩:=bO.r8 p hp
 have Bp: ∀(i:Nat) (x:Row),rows[i]? =some x->ops[i]? =some x.o:=fun i x hx=>(dC bc hx).2.1
 have R7:=eZ wR h4 h1
 have tQ:=bO.free p hp
 unfold wpOp
 simp only [Bp _ _ h1]
 rw [if_pos (by simp [Region.wanted,h3])]
 refine .inl ?_
 unfold Oper.wp
 rw [h6 hy w]
 have M9:Ext w (w.alloc p.obj):=Ext.alloc w p.obj
 refine⟨⟨fun _=>M9,fun y hy _ hc=>M9.hold hc⟩,?_⟩
 rw [h2]
 refine H _ { env:=bO.env.Jk tQ.1,DP:=bO.DP.put tQ.2.1,cells:=fun y hy=>⟨M9.hold (bO.cells y hy).1,(bO.cells y hy).2⟩,r8:=?_,free:=?_,CU:=?_,pm:=?_,sub:=?_,dn:=?_,wt:=?_,FQ:=bO.FQ,all:=?_,off:=?_}
 ·intro q hq
  have aR: ∀q∈pend,q.idx≠p.idx->FO P rows dH mask (a.put (some p.dst) (p.val ⟨w.heap.size,0,none⟩)) q:=by
   intro q hq aR
   obtain⟨xq,g1,g2,g3,g4,g5,g6,g7⟩:=bO.r8 q hq
   have hx:=dC bc h1
   have hxq:=dC bc g1
   have:=FO.put (o:=x.o) (v:=p.val ⟨w.heap.size,0,none⟩) hs (bO.r8 q hq) Bp (by
    rw [h2]
    intro e
    simp only [afy] at e
    exact(R7.2.2 xq (afz g1) (by rw [hxq.1];exact aR)).1 _ _ h2 g2 e) (by
    intro x' Br d hd
    obtain rfl:=afK (g1.symm.trans Br)
    rcases((eZ wR g4 g1).2.2 x (afz h1) (by rw [hx.1];exact fun e=>aR e.symm)).2.1 with h | h
    ·exfalso
     rw [hx.1] at h
     have:=cJ (afS g5) h
     rw [bO.pm p hp] at this;cases this
    ·exact h d hd)
   rw [h2] at this
   exact this
  obtain⟨j,hj⟩:=afT hq
  by_cases Bs:k=j
  ·subst Bs
   rw [afX cU] at hj
   obtain rfl:=afK hj
   refine⟨x,h1,h2,h3,h4,h5,(fun h=>by cases h),fun ad ye=>?_⟩
   ·simp only [afy] at ye
    subst ye
    rw [fL,if_pos rfl,if_pos (by rw [bO.env.size];exact tQ.2.2)]
  ·rw [afY Bs] at hj
   exact aR q (afz hj) (Bq bO.CU hj hk (fun e=>Bs e.symm))
 ·intro q hq
  obtain⟨j,hj⟩:=afT hq
  by_cases Bs:k=j
  ·subst Bs
   rw [afX cU] at hj
   obtain rfl:=afK hj
   exact tQ
  ·rw [afY Bs] at hj
   exact bO.free q (afz hj)
 ·have:(pend.set k { p with y:=some ⟨w.heap.size,0,none⟩}).map (·.idx)=pend.map (·.idx):=by
   rw [agR]
   apply agd
   intro j
   rw [agm]
   split
   ·rename_i e;subst e;rw [if_pos (by simpa using cU),afC,hk];rfl
   ·rfl
  rw [this];exact bO.CU
 ·intro q hq
  obtain⟨j,hj⟩:=afT hq
  by_cases Bs:k=j
  ·subst Bs
   rw [afX cU] at hj
   obtain rfl:=afK hj
   exact bO.pm p hp
  ·rw [afY Bs] at hj
   exact bO.pm q (afz hj)
 ·intro j
  rw [agj,agu,bO.sub j,agt,decide_eq_true_eq]
  constructor
  ·rintro((h | ⟨q,hq,h1,h2⟩) | rfl)
   ·exact .inl h
   ·obtain⟨jj,hj⟩:=afT hq
    by_cases e:k=jj
    ·subst e
     rw [hk] at hj
     obtain rfl:=afK hj
     exact absurd hy h2
    ·exact .inr ⟨q,afz (i:=jj) (by rw [afY e];exact hj),h1,h2⟩
   ·exact .inr ⟨_,afz (i:=k) (afX cU),rfl,by simp⟩
  ·rintro(h | ⟨q,hq,h1,h2⟩)
   ·exact .inl (.inl h)
   ·obtain⟨jj,hj⟩:=afT hq
    by_cases e:k=jj
    ·subst e
     rw [afX cU] at hj
     obtain rfl:=afK hj
     exact .inr h1
    ·rw [afY e] at hj
     exact .inl (.inr ⟨q,afz hj,h1,h2⟩)
 ·intro j hj
  rw [agj,agu,agt,decide_eq_true_eq] at hj
  rcases hj with hj | rfl
  ·obtain⟨g1,g2⟩:=bO.dn j hj
   exact⟨g1,by rw [<-ahz,g2]⟩
  ·have hx:=dC bc h1
   refine⟨(afL.1 hx.2.1).1,?_⟩
   have:as.getD p.idx 0=x.eB:=by simp [hx.2.2]
   rw [this,<-ahz,hmD x h5]
 ·intro y Wl
  obtain⟨g1,g2,g3,g4⟩:=bO.wt y Wl
  refine⟨g1,g2,g3,fun q hq=>?_⟩
  obtain⟨j,hj⟩:=afT hq
  by_cases Bs:k=j
  ·subst Bs
   rw [afX cU] at hj
   obtain rfl:=afK hj
   exact g4 p hp
  ·rw [afY Bs] at hj
   exact g4 q (afz hj)
 ·intro i g1 g2 g3
  rcases bO.all i g1 g2 g3 with ⟨q,hq,he⟩ | h
  ·obtain⟨j,hj⟩:=afT hq
   by_cases Bs:k=j
   ·subst Bs
    rw [hk] at hj
    obtain rfl:=afK hj
    exact .inl ⟨_,afz (i:=k) (afX cU),he⟩
   ·exact .inl ⟨q,afz (i:=j) (by rw [afY Bs];exact hj),he⟩
  ·exact .inr h
 ·refine bO.off.trans ?_
  have:=lG (ops:=ops) (o:=x.o) (a:=a) (v:=p.val ⟨w.heap.size,0,none⟩) (by
   obtain⟨hh,he⟩:=afL.1 (Bp _ _ h1)
   rw [<-he];simp)
  rw [h2] at this
  exact this
theorem Jm {base:List kE} {p:kE} {ad:Addr}: ∀{pend:List kE} {k:Nat},wO base ((pend.map (·.y)).map Value.pointer)=pend->pend[k]? =some p->
  wO base (((pend.set k { p with y:=some ad}).map (·.y)).map Value.pointer)=pend.set k { p with y:=some ad}:=by
 induction base with
 | nil=>
  intro pend k h hk
  simp only [wO] at h
  subst h
  simp at hk
 | cons b base ih=>
  intro pend k h hk
  cases pend with
  | nil=>simp at hk
  | cons q pend=>
   simp only [agl,wO,ahr] at h
   obtain⟨h1,h2⟩:=h
   cases k with
   | zero=>
    simp only [afJ,afy] at hk
    subst hk
    simp only [afN,agl,wO,ahr]
    refine⟨?_,h2⟩
    rw [<-h1]
   | succ k=>
    simp only [afZ,agl,wO,ahr]
    exact⟨h1,ih h2 (by simpa using hk)⟩
def nI (p:kE):Bool:=p.y.isNone
theorem r9 {ad:Addr}: ∀{pend:List kE} {k:Nat} {p:kE},pend[k]? =some p->p.y=none->
  ((pend.set k { p with y:=some ad}).filter nI).length+1=(pend.filter nI).length
 | [],k,p,hk,_=>by simp at hk
 | q :: pend,0,p,hk,hy=>by
  simp only [afJ,afy] at hk
  subst hk
  simp [nI,hy]
 | q :: pend,k+1,p,hk,hy=>by
  have:=r9 (ad:=ad) (pend:=pend) (k:=k) (p:=p) (by simpa using hk) hy
  simp only [afZ,ahL]
  split
  ·simp only [af6];omega
  ·exact this
theorem FR (hs:Region.noSelect ops=true) {as:List Nat} (jw:as=gf ops.toList []) {rows:List Row} (bc:rows=rowsOf P 0 ops.toList as) {dH:List Nat} (wR:jv ops rows dH=true) {a0:Act} {mask:Nat} {wait:List Row}
  {base:List kE} {l:Env} {fl:dv} {C:de} {Q:Exit->Act->World->Prop} {K':List (Option Addr)->World->Prop}
  (R8: ∀x:Row,gg mask x=true-> ∀D,(∀j,mask.testBit j=true->D.testBit j=true)->x.eB ||| D=D)
  (H: ∀pend D w a m,wO base ((pend.map (·.y)).map Value.pointer)=pend->pend.map (·.idx)=base.map (·.idx)->K' (pend.map (·.y)) w->wQ ds P N ops as rows dH a0 mask D wait pend l fl C w a->mH ops.size D<=m->
   cm P .any ops as Q C m (ck ops.size D) a w \/ ((∃i,i∈Region.ready .any ops (ck ops.size D)) /\ ∀i∈Region.ready .any ops (ck ops.size D),(∃p∈pend,p.idx=i /\ p.y=none) \/
    ∀m',m=m'+1->wpOp P ops Q i (fun a' w'=>Gd P ops as C i w w' /\ cm P .any ops as Q C m' ((ck ops.size D).setIfInBounds i true) a' w') a w)):
  ∀(n:Nat) (pend:List kE) (D:Nat) (w:World) (a:Act) (m:Nat),LR (base.map (·.obj)) K' n (pend.map (·.y)) w->pend.map (·.obj)=base.map (·.obj)->wO base ((pend.map (·.y)).map Value.pointer)=pend->pend.map (·.idx)=base.map (·.idx)->
   (pend.filter nI).length<=n->wQ ds P N ops as rows dH a0 mask D wait pend l fl C w a->mH ops.size D<=m->cm P .any ops as Q C m (ck ops.size D) a w:=by
 have common: ∀(n:Nat) (pend:List kE) (D:Nat) (w:World) (a:Act) (m:Nat),LR (base.map (·.obj)) K' n (pend.map (·.y)) w->pend.map (·.obj)=base.map (·.obj)->wO base ((pend.map (·.y)).map Value.pointer)=pend->pend.map (·.idx)=base.map (·.idx)->
   wQ ds P N ops as rows dH a0 mask D wait pend l fl C w a->mH ops.size D<=m->
   (∀(k:Nat) (p:kE),pend[k]? =some p->p.y=none-> ∀m',m=m'+1->p.idx∈Region.ready .any ops (ck ops.size D)->wpOp P ops Q p.idx (fun a' w'=>Gd P ops as C p.idx w w' /\ cm P .any ops as Q C m' ((ck ops.size D).setIfInBounds p.idx true) a' w') a w)->
   cm P .any ops as Q C m (ck ops.size D) a w:=by
  intro n pend D w a m hF ho hu hi bO hm ee
  rcases H pend D w a m hu hi (FM hF) bO hm with h | ⟨⟨i0,DN⟩,h⟩
  ·exact h
  ·obtain⟨h1,oi,h2,_⟩:=mem_ready.1 DN
   have ar:=(afL.1 h2).1
   rw [aI,if_pos ar] at h1
   have kx:=tf ar h1
   obtain⟨m',rfl⟩: ∃m',m=m'+1:=⟨m - 1,by omega⟩
   refine⟨fun h1=>(by rw [h1] at DN;cases DN),fun i hi=>?_⟩
   rcases h i hi with ⟨p,hp,rfl,hy⟩ | h
   ·obtain⟨k,hk⟩:=afT hp
    exact ee k p hk hy m' rfl hi
   ·exact h m' rfl
 intro n
 induction n with
 | zero=>
  intro pend D w a m hF ho hu hi hn bO hm
  refine common 0 pend D w a m hF ho hu hi bO hm fun k p hk hy=>?_
  have:p∈pend.filter nI:=agv.2 ⟨afz hk,by simp [nI,hy]⟩
  have:=aia this
  omega
 | succ n ih=>
  intro pend D w a m hF ho hu hi hn bO hm
  refine common (n+1) pend D w a m hF ho hu hi bO hm fun k p hk hy m' fC hr=>?_
  subst fC
  have hp:p∈pend:=afz hk
  obtain⟨x,g1,_⟩:=bO.r8 p hp
  have hx:=dC bc g1
  have ar:p.idx < ops.size:=(afL.1 hx.2.1).1
  have bE:D.testBit p.idx=false:=by
   obtain⟨h1,_⟩:=mem_ready.1 hr
   rw [aI,if_pos ar] at h1
   exact h1
  have FU:=tf ar bE
  refine Jl hs jw bc wR bO (fun x hx=>R8 x hx D fun j hj=>(bO.sub j).2 (.inl hj)) hk hy fun a' ej=>?_
  rw [gV]
  have hF':=hF.2 k p.obj (by rw [<-ho];simp [hk]) (by simp [hk,hy])
  refine ih _ _ _ a' m' ?_ ?_ (Jm hu hk) ?_ ?_ ej (by omega)
  ·rw [agR];exact hF'
  ·rw [agR,<-ho]
   apply agd
   intro j
   rw [agm]
   split
   ·rename_i e;subst e;rw [if_pos (by simpa using (aft.1 hk).1),afC,hk];rfl
   ·rfl
  ·rw [agR,<-hi]
   apply agd
   intro j
   rw [agm]
   split
   ·rename_i e;subst e;rw [if_pos (by simpa using (aft.1 hk).1),afC,hk];rfl
   ·rfl
  ·have:=r9 (ad:=⟨w.heap.size,0,none⟩) hk hy
   omega
theorem sb {R:Type} {f:R->Prop}: ∀(fs:List (Obj×Option Addr)) (ys:List (Option Addr)) (F:List Value->R),ys.length=fs.length->
  kI (fs.map fun _=>Kd.p) (ys.map Value.pointer) f (curry (fs.map fun _=>Kd.p) F)=f (F (ys.map Value.pointer))
 | [],[],F,_=>rfl
 | [],_ :: _,F,h=>by simp at h
 | _ :: _,[],F,h=>by simp at h
 | _ :: fs,y :: ys,F,h=>by
  have:=sb (f:=f) fs ys (fun vs=>F (Value.pointer y :: vs)) (by simpa using h)
  exact this
theorem wQ.perm {as:List Nat} {rows:List Row} {dH:List Nat} {a0:Act} {mask D:Nat} {wait LS:List Row} {pend:List kE} {l:Env} {fl:dv} {C:de} {w:World} {a:Act} (hp:wait.Perm LS) (bO:wQ ds P N ops as rows dH a0 mask D wait pend l fl C w a):wQ ds P N ops as rows dH a0 mask D LS pend l fl C w a:=
  { env:=bO.env,DP:=bO.DP,cells:=bO.cells,r8:=bO.r8,free:=bO.free,CU:=bO.CU,pm:=bO.pm,sub:=bO.sub,dn:=bO.dn
    wt:=fun y hy=>bO.wt y (hp.mem_iff.2 hy)
    FQ:=(hp.map _).nodup_iff.1 bO.FQ
    all:=fun i h1 h2 h3=>(bO.all i h1 h2 h3).imp id fun⟨y,hy,he⟩=>⟨y,hp.mem_iff.1 hy,he⟩
    off:=bO.off}
theorem FO.mono {rows:List Row} {dH:List Nat} {mask LU:Nat} {a:Act} {p:kE} (h:FO P rows dH mask a p) (hm: ∀x:Row,gg mask x=true->gg LU x=true):FO P rows dH LU a p:=by
 obtain⟨x,h1,h2,h3,h4,h5,h6⟩:=h
 exact⟨x,h1,h2,h3,h4,hm x h5,h6⟩
theorem CV {mask m:Nat} {x:Row} (h:gg mask x=true):gg (mask ||| m) x=true:=by
 unfold gg at h ⊢
 have:=afS h
 rw [<-ahz,this]
 simp
theorem wQ.next (hs:Region.noSelect ops=true) {as:List Nat} (jw:as=gf ops.toList []) {rows:List Row} (bc:rows=rowsOf P 0 ops.toList as) {dH:List Nat} (wR:jv ops rows dH=true) {a0:Act} {mask D:Nat} {wait:List Row} {pend:List kE}
  {l l':Env} {fl kK:dv} {C C':de} {w w':World} {a:Act} {i:Nat} {x:Row} {v:Value} (bO:wQ ds P N ops as rows dH a0 mask D wait pend l fl C w a) (kr:rows[i]? =some x) (LV:has dH i=false) (hD:x.eB ||| D=D) (hmi:mask.testBit i=false)
  (hC: ∀x∈C',dA w' x.2 /\ (iW P rows).testBit x.1=true) (Wm:bP ds N (a.put x.o.dst v) l') (Wn:iJ (a.put x.o.dst v) kK) (hk:Kept ops x.o l fl l' kK):
  wQ ds P N ops as rows dH a0 (mask ||| 2 ^ i) (D ||| 2 ^ i) wait pend l' kK C' w' (a.put x.o.dst v):=by
 have Bp: ∀(i:Nat) (x:Row),rows[i]? =some x->ops[i]? =some x.o:=fun i x hx=>(dC bc hx).2.1
 have hx:=dC bc kr
 have aR: ∀p∈pend,i≠p.idx:=by
  intro p hp e
  obtain⟨y,h1,h2,h3,h4,_⟩:=bO.r8 p hp
  rw [<-e,LV] at h4;cases h4
 have R9: ∀p∈pend,x.o.dst≠some p.dst:=by
  intro p hp e
  obtain⟨y,h1,h2,h3,h4,_⟩:=bO.r8 p hp
  exact((eZ wR h4 h1).2.2 x (afz kr) (by rw [hx.1];exact aR p hp)).1 _ _ h2 e rfl
 have Sa: ∀p∈pend,gt l' p.dst=gt l p.dst /\ (eV fl p.dst=true->eV kK p.dst=true):=by
  intro p hp
  refine hk p.dst (R9 p hp) fun j want hg he=>?_
  obtain⟨y,h1,h2,h3,h4,_⟩:=bO.r8 p hp
  exact((eZ wR h4 h1).2.2 x (afz kr) (by rw [hx.1];exact aR p hp)).2.2 j want _ hg h2 he
 refine{ env:=Wm,DP:=Wn,cells:=hC,r8:=?_,free:=?_,CU:=bO.CU,pm:=?_,sub:=?_,dn:=?_,wt:=?_,FQ:=bO.FQ,all:=?_,off:=?_}
 ·intro p hp
  refine FO.mono (FO.put hs (bO.r8 p hp) Bp (R9 p hp) ?_) (fun x=>CV)
  intro y hy d hd
  obtain⟨y',h1,h2,h3,h4,h5,_⟩:=bO.r8 p hp
  obtain rfl:=afK (h1.symm.trans hy)
  rcases((eZ wR h4 h1).2.2 x (afz kr) (by rw [hx.1];exact aR p hp)).2.1 with h | h
  ·rw [hx.1] at h
   have:=cJ (afS h5) h
   rw [hmi] at this;cases this
  ·exact h d hd
 ·intro p hp
  obtain⟨g1,g2,g3⟩:=bO.free p hp
  obtain⟨k1,k2⟩:=Sa p hp
  exact⟨fun v=>by rw [k1];exact g1 v,k2 g2,g3⟩
 ·intro p hp
  rw [agj,bO.pm p hp,agt]
  simp [aR p hp]
 ·intro j
  rw [agj,agj,agu,agu,bO.sub j]
  constructor
  ·rintro((h | h) | h)
   ·exact .inl (.inl h)
   ·exact .inr h
   ·exact .inl (.inr h)
  ·rintro((h | h) | h)
   ·exact .inl (.inl h)
   ·exact .inr h
   ·exact .inl (.inr h)
 ·intro j hj
  rw [agj,agu,agt,decide_eq_true_eq] at hj
  rcases hj with hj | rfl
  ·obtain⟨g1,g2⟩:=bO.dn j hj
   exact⟨g1,by rw [<-ahz,g2]⟩
  ·refine⟨(afL.1 hx.2.1).1,?_⟩
   have:as.getD i 0=x.eB:=by simp [hx.2.2]
   rw [this,<-ahz,hD]
 ·intro y hy
  obtain⟨g1,g2,g3,g4⟩:=bO.wt y hy
  refine⟨g1,g2,?_,g4⟩
  rw [agj,g3,agt]
  have:i≠y.idx:=by rintro rfl;rw [g2] at LV;cases LV
  simp [this]
 ·intro j h1 h2 h3
  rw [agj,ahF] at h2
  exact bO.all j h1 h2.1 h3
 ·exact bO.off.trans (lG (by
   obtain⟨hh,he⟩:=afL.1 hx.2.1
   rw [<-he];simp))
theorem wQ.settle {as:List Nat} {rows:List Row} (bc:rows=rowsOf P 0 ops.toList as) {dH:List Nat} (wR:jv ops rows dH=true) {a0:Act} {mask D:Nat} {wait:List Row} {pend:List kE} {l:Env} {fl:dv} {C:de} {w:World} {a:Act} (bO:wQ ds P N ops as rows dH a0 mask D wait pend l fl C w a) {p:kE} (hp:p∈pend) {ad:Addr} (hy:p.y=some ad):
  wQ ds P N ops as rows dH a0 (mask ||| 2 ^ p.idx) D wait (pend.filter fun q=> !Nat.beq q.idx p.idx) ((p.dst,some (p.val ad)) :: l) fl C w a:=by
 obtain⟨x,h1,h2,h3,h4,h5,h6,h7⟩:=bO.r8 p hp
 have cP: ∀q,q∈pend.filter (fun q=> !Nat.beq q.idx p.idx)↔q∈pend /\ q.idx≠p.idx:=by
  intro q
  rw [agv]
  constructor
  ·rintro⟨g1,g2⟩
   refine⟨g1,fun e=>?_⟩
   rw [e] at g2
   simp at g2
  ·rintro⟨g1,g2⟩
   refine⟨g1,?_⟩
   cases hb:Nat.beq q.idx p.idx with
   | false=>rfl
   | true=>exact absurd (afS hb) g2
 have uniq: ∀q∈pend,q.idx=p.idx->q=p:=by
  intro q hq he
  obtain⟨j,hj⟩:=afT hq
  obtain⟨k,hk⟩:=afT hp
  by_cases e:j=k
  ·subst e;exact afK (hj.symm.trans hk)
  ·exact absurd he (Bq bO.CU hj hk e)
 refine{ env:=?_,DP:=bO.DP,cells:=bO.cells,r8:=?_,free:=?_,CU:=?_,pm:=?_,sub:=?_,dn:=bO.dn,wt:=?_,FQ:=bO.FQ,all:=?_,off:=bO.off}
 ·refine⟨bO.env.size,bO.env.defers,fun t u hu=>?_⟩
  simp only [gt] at hu
  cases hb:Nat.beq p.dst t with
  | true=>
   rw [hb] at hu
   simp only [cond_true,afy] at hu
   subst hu
   rw [<-afS hb]
   exact h7 ad hy
  | false=>rw [hb] at hu;exact bO.env.A1 t u hu
 ·intro q hq
  exact(bO.r8 q ((cP q).1 hq).1).mono (fun x=>CV)
 ·intro q hq
  obtain⟨g1,g2⟩:=(cP q).1 hq
  obtain⟨k1,k2,k3⟩:=bO.free q g1
  refine⟨fun v=>?_,k2,k3⟩
  rw [tg]
  ·exact k1 v
  ·-- other blocks have other places
   intro e
   obtain⟨y,q1,q2,q3,q4,_⟩:=bO.r8 q g1
   have hx:=dC bc h1
   exact((eZ wR q4 q1).2.2 x (afz h1) (by rw [hx.1];exact fun e=>g2 e.symm)).1 _ _ q2 h2 e.symm
 ·exact(List.filter_sublist.map _).nodup bO.CU
 ·intro q hq
  obtain⟨g1,g2⟩:=(cP q).1 hq
  rw [agj,bO.pm q g1,agt]
  have: ¬p.idx=q.idx:=fun e=>g2 e.symm
  simp [this]
 ·intro j
  rw [bO.sub j,agj,agu,agt,decide_eq_true_eq]
  constructor
  ·rintro(h | ⟨q,hq,g1,g2⟩)
   ·exact .inl (.inl h)
   ·by_cases e:q.idx=p.idx
    ·exact .inl (.inr (by rw [<-e];exact g1))
    ·exact .inr ⟨q,(cP q).2 ⟨hq,e⟩,g1,g2⟩
  ·rintro((h | h) | ⟨q,hq,g1,g2⟩)
   ·exact .inl h
   ·exact .inr ⟨p,hp,h,by rw [hy];simp⟩
   ·exact .inr ⟨q,((cP q).1 hq).1,g1,g2⟩
 ·intro y Wl
  obtain⟨g1,g2,g3,g4⟩:=bO.wt y Wl
  refine⟨g1,g2,?_,fun q hq=>g4 q ((cP q).1 hq).1⟩
  rw [agj,g3,agt]
  have: ¬p.idx=y.idx:=g4 p hp
  simp [this]
 ·intro i g1 g2 g3
  rw [agj,ahF,agt,decide_eq_false_iff_not] at g2
  rcases bO.all i g1 g2.1 g3 with ⟨q,hq,he⟩ | h
  ·exact .inl ⟨q,(cP q).2 ⟨hq,fun e=>g2.2 (e ▸ he)⟩,he⟩
  ·exact .inr h
theorem zm {p:kE} {ps:List kE} {w:World} {K:List kE->World->Prop} (h:Rc ((p :: ps).map fun p=>(p.obj,p.y)) w (curry _ fun cs w1=>K (wO (p :: ps) cs) w1)):
  LR ((p :: ps).map (·.obj)) (fun ys w=>ys.length=(p :: ps).length->K (wO (p :: ps) (ys.map Value.pointer)) w) (p :: ps).length ((p :: ps).map (·.y)) w:=by
 unfold Rc at h
 simp only [ahy,afP] at h
 have e1:(((fun x:Obj×Option Addr=>x.fst) ∘ fun p:kE=>(p.obj,p.y)):kE->Obj)=(fun p=>p.obj):=rfl
 have e2:(((fun x:Obj×Option Addr=>x.snd) ∘ fun p:kE=>(p.obj,p.y)):kE->Option Addr)=(fun p=>p.y):=rfl
 have mono: ∀(zk:List Obj) (K K':List (Option Addr)->World->Prop),(∀ys w,K ys w->K' ys w)-> ∀(n:Nat) (ys:List (Option Addr)) (w:World),LR zk K n ys w->LR zk K' n ys w:=by
  intro zk K K' Re n
  induction n with
  | zero=>exact fun ys w h=>Re _ _ h
  | succ n ih=>exact fun ys w h=>⟨Re _ _ h.1,fun i o ho hy=>ih _ _ (h.2 i o ho hy)⟩
 refine mono _ _ _ ?_ _ _ _ h
 intro ys w hv hl
 have:=sb (f:=fun r:World->Prop=>r w) ((p :: ps).map fun p=>(p.obj,p.y)) ys (fun cs w1=>K (wO (p :: ps) cs) w1) (by simpa using hl)
 rw [this] at hv
 exact hv
theorem ua: ∀(ps:List kE),wO ps ((ps.map (·.y)).map Value.pointer)=ps
 | []=>rfl
 | p :: ps=>by
  simp only [agl,wO]
  rw [ua ps]
theorem sd (as:List Nat) (jw:as=gf ops.toList []) {rows:List Row} (bc:rows=rowsOf P 0 ops.toList as) {D i:Nat} (hi:i∈Region.ready .any ops (ck ops.size D)) (Jg: ∀j,D.testBit j=true->j < ops.size /\ as.getD j 0 ||| D=D):
  ∃y,rows[i]? =some y /\ y.idx=i /\ D.testBit i=false /\ y.eB ||| D=D:=by
 obtain⟨h1,oi,h2,h3⟩:=mem_ready.1 hi
 have ar:=(afL.1 h2).1
 rw [aI,if_pos ar] at h1
 have IU:i < rows.length:=by
  rw [bc,fD P _ _ _ (by rw [jw,pI])];simpa using ar
 obtain⟨y,hy⟩: ∃y,rows[i]? =some y:=⟨_,afD IU⟩
 have Jn:=dC bc hy
 refine⟨y,hy,Jn.1,h1,?_⟩
 have ho:oi=y.o:=afK (h2.symm.trans Jn.2.1)
 have ik:as[i]? =some (eF (as.take i) oi.after.toList):=by
  have:=ij ops.toList [] i oi (by simpa using h2)
  rw [jw]
  simpa using this
 have he:y.eB=eF (as.take i) oi.after.toList:=afK (Jn.2.2.symm.trans ik)
 apply ahp
 intro k
 rw [agj]
 cases hk:y.eB.testBit k with
 | false=>simp
 | true=>
  rw [he] at hk
  rcases gT _ _ hk with h5 | ⟨e,hem,kO,h5⟩
  ·simp at h5
  ·have h6:=h3 e (by simpa using hem) kO
   rw [aI] at h6
   have Sb:D.testBit e.on=true:=by
    split at h6
    ·exact h6
    ·cases h6
   rcases h5 with h5 | h5
   ·rw [<-h5,Sb];rfl
   ·have h7:(as.take i).getD e.on 0=as.getD e.on 0 \/ (as.take i).getD e.on 0=0:=by
     simp only [afO,agc]
     split
     ·exact .inl rfl
     ·exact .inr rfl
    rcases h7 with h7 | h7
    ·rw [h7] at h5
     rw [cJ (Jg e.on Sb).2 h5];rfl
    ·rw [h7] at h5;simp at h5
theorem lH (as:List Nat) (jw:as=gf ops.toList []) {rows:List Row} (bc:rows=rowsOf P 0 ops.toList as) {D i:Nat} {y:Row} (hy:rows[i]? =some y) (hD:y.eB ||| D=D) (h0:D.testBit i=false) (Jg: ∀j,D.testBit j=true->j < ops.size /\ as.getD j 0 ||| D=D):
  i∈Region.ready .any ops (ck ops.size D):=by
 have Jn:=dC bc hy
 have ar:=(afL.1 Jn.2.1).1
 refine mem_ready.2 ⟨by rw [aI,if_pos ar];exact h0,y.o,Jn.2.1,fun e he kO=>?_⟩
 have ik:as[i]? =some (eF (as.take i) y.o.after.toList):=by
  have:=ij ops.toList [] i y.o (by simpa using Jn.2.1)
  rw [jw]
  simpa using this
 have jP:y.eB=eF (as.take i) y.o.after.toList:=afK (Jn.2.2.symm.trans ik)
 have h2:y.eB.testBit e.on=true:=by
  rw [jP]
  exact gU kO _ _ (.inl (by simpa using he))
 have h3:=cJ hD h2
 rw [aI,if_pos (Jg _ h3).1]
 exact h3
theorem CW {is:List Nat} {j:Nat} (h:has is j=true):j∈is:=by
 obtain⟨k,hk,he⟩:=ahK.1 h
 rw [<-afS he];exact hk
theorem Jo {is:List Nat} {j:Nat} (h:j∈is):has is j=true:=ahK.2 ⟨j,h,by simp⟩
theorem ub {is:List Nat} {j:Nat} (h:j∈is):(bitsOf is).testBit j=true:=by
 have key: ∀(is:List Nat) (s:Nat),(s.testBit j=true \/ j∈is)->(is.foldl (fun s i=>s ||| 2 ^ i) s).testBit j=true:=by
  intro is
  induction is with
  | nil=>intro s h;simpa using h
  | cons i is ih=>
   intro s h
   refine ih _ ?_
   rcases h with h | h
   ·exact .inl (by rw [agj,h];rfl)
   ·rcases af1.1 h with rfl | h
    ·exact .inl (by rw [agj,Nat.testBit_two_pow_self];simp)
    ·exact .inr h
 exact key is 0 (.inr h)
theorem qN {x:Row} {mask D:Nat} (h:gg mask x=true) (hs: ∀j,mask.testBit j=true->D.testBit j=true):x.eB ||| D=D:=by
 have h1:=afS h
 apply ahp
 intro k
 rw [agj]
 cases hk:x.eB.testBit k with
 | false=>simp
 | true=>rw [hs k (cJ h1 hk)];rfl
theorem LW {x:Row} {on D:Nat} (h:x.eB ||| D=D) (hs: ∀j,D.testBit j=true->on.testBit j=true):gg on x=true:=by
 unfold gg
 have:x.eB ||| on=on:=by
  apply ahp
  intro k
  rw [agj]
  cases hk:x.eB.testBit k with
  | false=>simp
  | true=>rw [hs k (cJ h hk)];rfl
 rw [this];simp
theorem uc {rows:List Row} {dH:List Nat} {mask j:Nat} (h:has (gX rows dH mask) j=true):has dH j=true /\ mask.testBit j=false /\ ∃y,rows[j]? =some y /\ gg mask y=true:=by
 have h1:=CW h
 unfold gX at h1
 rw [agv] at h1
 obtain⟨h2,h3⟩:=h1
 simp only [afW,agb] at h3
 refine⟨Jo h2,h3.1,?_⟩
 cases hy:rows[j]? with
 | none=>rw [hy] at h3;exact absurd h3.2 (by simp)
 | some y=>rw [hy] at h3;exact⟨y,rfl,h3.2⟩
theorem ud {rows:List Row} {dH:List Nat} {mask j:Nat} {y:Row} (h1:has dH j=true) (h2:mask.testBit j=false) (h3:rows[j]? =some y) (h4:gg mask y=true):j∈gX rows dH mask:=by
 unfold gX
 rw [agv]
 refine⟨CW h1,?_⟩
 simp [h2,h3,h4]
theorem mI {α:Type} (p:α->Bool): ∀l:List α,l.Perm (l.filter p++l.filter fun y=> !p y)
 | []=>List.Perm.refl _
 | x :: l=>by
  have ih:=mI p l
  cases h:p x with
  | true=>simp only [ahL,h,if_true,ah2,agD,if_false,af3];exact ih.cons x
  | false=>simp only [ahL,h,if_true,ahb,agD,if_false];exact(ih.cons x).trans List.perm_middle.symm
theorem CX {n D i:Nat} {m:Nat} (hi:i < n) (h:D.testBit i=false) (hm:mH n D<=m): ∃m',m=m'+1 /\ mH n (D ||| 2 ^ i)<=m':=by
 have:=tf hi h
 exact⟨m - 1,by omega,by omega⟩
theorem yf {split:Bool} (hP:yT P) (hs:Region.noSelect ops=true) {Q:Exit->Act->World->Prop} (hQ: ∀c a w,¬Q (.panic c) a w) (as:List Nat) (jw:as=gf ops.toList []) (rows:List Row) (bc:rows=rowsOf P 0 ops.toList as) (dH:List Nat) (wR:jv ops rows dH=true) {a0:Act} {K:Env->World->Prop}
  (hK: ∀a' l' w',kL (dstsOf ops.toList) a0 a'->bP ds N a' l'->K l' w'->Q .normal a' w'):
  ∀(ae:List R6) (mask:Nat) (wait:List Row) (pend:List kE) (l:Env) (fl:dv) (C:de) (w:World) (D:Nat) (a:Act) (m:Nat),iX P ops rows dH ae mask=true->wQ ds P N ops as rows dH a0 mask D wait pend l fl C w a->
   DO P N ops split rows ae mask wait pend l fl C w K->mH ops.size D<=m->cm P .any ops as Q C m (ck ops.size D) a w
 | [],mask,wait,pend,l,fl,C,w,D,a,m,hc,bO,h,hm=>by
  simp only [iX] at hc
  simp only [DO] at h
  split at h
  ·have hr:Region.ready .any ops (ck ops.size D)= []:=by
    refine ag6.2 fun j hj=>?_
    obtain⟨h1,oj,h2,_⟩:=mem_ready.1 hj
    have ar:=(afL.1 h2).1
    rw [aI,if_pos ar] at h1
    have:=agw.1 hc j (agC.2 ar)
    rw [(bO.sub j).2 (.inl this)] at h1;cases h1
   cases m with
   | zero=>exact⟨hr,hK a l w bO.off bO.env h⟩
   | succ n=>exact⟨fun _=>hK a l w bO.off bO.env h,fun i hi=>by rw [hr] at hi;cases hi⟩
  ·exact h.elim
 | .ro i :: r,mask,wait,pend,l,fl,C,w,D,a,m,hc,bO,h,hm=>by
  have ih:=yf hP hs hQ as jw rows bc dH wR hK r (split:=split)
  simp only [iX] at hc
  simp only [DO] at h
  cases kr:rows[i]? with
  | none=>rw [kr] at h;exact h.elim
  | some x=>
   rw [kr] at h hc
   simp only [afW,agb] at h hc
   obtain⟨⟨⟨⟨c1,c2⟩,c3⟩,c4⟩,c5⟩:=hc
   have hx:=dC bc kr
   have ar:i < ops.size:=(afL.1 hx.2.1).1
   have LV:has dH i=false:=by
    cases hf:has dH i with
    | false=>rfl
    | true=>have:=(eZ wR hf kr).2.1;rw [c1] at this;cases this
   have Bt:D.testBit i=false:=by
    cases hd:D.testBit i with
    | false=>rfl
    | true=>
     rcases(bO.sub i).1 hd with h1 | ⟨p,hp,h1,_⟩
     ·rw [c3] at h1;cases h1
     ·obtain⟨y,_,_,_,h4,_⟩:=bO.r8 p hp
      rw [h1,LV] at h4;cases h4
   have ik:=qN c2 (fun j hj=>(bO.sub j).2 (.inl hj))
   obtain⟨m',rfl,fC⟩:=CX ar Bt hm
   have me:=pE hP bO.env bO.DP (tZ h)
   refine(zl (m:=m') hP hs hQ as jw rows bc kr bO.dn ik (by rw [hx.1];exact Bt) (rest rows mask i) ?_ bO.cells me ?_).1 c1 c4
   ·intro y hy ot aR
    simp only [rest,agv,afW,agb]
    refine⟨hy,?_,?_⟩
    ·cases hb:mask.testBit y.idx with
     | false=>rfl
     | true=>rw [(bO.sub _).2 (.inl hb)] at ot;cases ot
    ·cases hb:Nat.beq y.idx i with
     | false=>rfl
     | true=>exact absurd ((afS hb).trans hx.1.symm) aR
   ·intro v l' kK C' w' Wo he hf ⟨hG,hk⟩
    rw [hx.1]
    refine ih _ _ _ _ _ _ _ _ _ _ c5 (bO.next hs jw bc wR kr LV ik c3 Wo he hf hk) hG fC
 | .Jc i :: r,mask,wait,pend,l,fl,C,w,D,a,m,hc,bO,h,hm=>by
  have ih:=yf hP hs hQ as jw rows bc dH wR hK r (split:=split)
  simp only [iX] at hc
  simp only [DO] at h
  cases kr:rows[i]? with
  | none=>rw [kr] at h;exact h.elim
  | some x=>
   rw [kr] at h hc
   simp only [afW,agb] at h hc
   obtain⟨⟨⟨⟨⟨⟨c1,c2⟩,c3⟩,c4⟩,c5⟩,c6⟩,c7⟩:=hc
   have hx:=dC bc kr
   have ar:i < ops.size:=(afL.1 hx.2.1).1
   unfold UR at h
   obtain⟨l1,more,h1,oL,qM⟩:=Bn (wait.filter (gg mask)) (wait.filter fun y=> !gg mask y) pend l (fun y hy=>(agv.1 hy).2) (bO.perm (mI _ _)) h
   generalize pend++more=gM at h1 oL qM
   generalize eY:(wait.filter fun y=> !gg mask y)=off at h1 oL
   -- who is pending
   have Rf: ∀j,has (gX rows dH mask) j=true-> ∃p∈gM,p.idx=j:=by
    intro j hj
    obtain⟨g1,g2,y,g3,g4⟩:=uc hj
    rcases oL.all j g1 g2 (aft.1 g3).1 with h | ⟨y',td,he⟩
    ·exact h
    ·have q:=(oL.wt y' td).1
     rw [he,g3] at q
     obtain rfl:=afK q
     rw [<-eY,agv,g4] at td
     exact absurd td.2 (by simp)
   have Jc: ∀(im:List kE) (D:Nat) (w:World) (a:Act) (m':Nat),wQ ds P N ops as rows dH a0 mask D off im l1 fl C w a->
     mD P N ops split (dJ x) l1 fl C w (fun l' kK C' w'=>DO P N ops split rows r (mask ||| 2 ^ i) off im l' kK C' w' K)->mH ops.size D<=m'+1->
     D.testBit i=false /\ x.eB ||| D=D /\ wpOp P ops Q x.idx (fun a' w'=>Gd P ops as C x.idx w w' /\ cm P .any ops as Q C m' ((ck ops.size D).setIfInBounds x.idx true) a' w') a w:=by
    intro im D w a m' ej hd fC
    have Bt:D.testBit i=false:=by
     cases hd:D.testBit i with
     | false=>rfl
     | true=>
      rcases(ej.sub i).1 hd with h1 | ⟨p,hp,h1,_⟩
      ·rw [c4] at h1;cases h1
      ·obtain⟨y,_,_,_,h4,_⟩:=ej.r8 p hp
       rw [h1,c2] at h4;cases h4
    have ik:=qN c3 (fun j hj=>(ej.sub j).2 (.inl hj))
    have FU:=tf ar Bt
    have me:=pE hP ej.env ej.DP (tZ hd)
    refine⟨Bt,ik,(zl (m:=m') hP hs hQ as jw rows bc kr ej.dn ik (by rw [hx.1];exact Bt) (rest rows mask i) ?_ ej.cells me ?_).2 c1 c5⟩
    ·intro y hy ot aR
     simp only [rest,agv,afW,agb]
     refine⟨hy,?_,?_⟩
     ·cases hb:mask.testBit y.idx with
      | false=>rfl
      | true=>rw [(ej.sub _).2 (.inl hb)] at ot;cases ot
     ·cases hb:Nat.beq y.idx i with
      | false=>rfl
      | true=>exact absurd ((afS hb).trans hx.1.symm) aR
    ·intro v l' kK C' w' Wo he hf ⟨hG,hk⟩
     rw [hx.1]
     exact ih _ _ _ _ _ _ _ _ _ _ c7 (ej.next hs jw bc wR kr c2 ik c4 Wo he hf hk) hG (by omega)
   have cls: ∀(im:List kE) (D:Nat) (w:World) (a:Act),wQ ds P N ops as rows dH a0 mask D off im l1 fl C w a->im.map (·.idx)=gM.map (·.idx)-> ∀j∈Region.ready .any ops (ck ops.size D),(∃p∈im,p.idx=j /\ p.y=none) \/ j=i:=by
    intro im D w a ej ku j hj
    obtain⟨y,g1,g2,g3,g4⟩:=sd as jw bc hj ej.dn
    have Rd:gg (mask ||| bitsOf (gX rows dH mask)) y=true:=LW g4 (fun k hk=>by
     rw [agj,agu]
     rcases(ej.sub k).1 hk with h | ⟨p,hp,h,_⟩
     ·exact .inl h
     ·obtain⟨z,q1,_,_,q4,q5,_⟩:=ej.r8 p hp
      exact .inr (ub (by rw [<-h];exact ud q4 (ej.pm p hp) q1 q5)))
    have:=agw.1 c6 y (afz g1)
    simp only [agu,agb,g2] at this
    rcases this with ((h | h) | h) | h
    ·rw [(ej.sub j).2 (.inl h)] at g3;cases g3
    ·obtain⟨p,hp,he⟩:=Rf j h
     have Rg:j∈im.map (·.idx):=by rw [ku];exact afQ.2 ⟨p,hp,he⟩
     obtain⟨p',tM,jP⟩:=afQ.1 Rg
     refine .inl ⟨p',tM,jP,?_⟩
     cases hy:p'.y with
     | none=>rfl
     | some ad=>rw [(ej.sub j).2 (.inr ⟨p',tM,jP,by rw [hy];simp⟩)] at g3;cases g3
    ·exact .inr (afS h).symm
    ·rw [Rd] at h;cases h
   cases gM with
   | nil=>
    simp only at h1
    have Rg: ∃m',m=m'+1:=by
     have Bt:D.testBit i=false:=by
      cases hd:D.testBit i with
      | false=>rfl
      | true=>
       rcases(oL.sub i).1 hd with h1 | ⟨p,hp,h1,_⟩
       ·rw [c4] at h1;cases h1
       ·cases hp
     obtain⟨m',h1,_⟩:=CX ar Bt hm
     exact⟨m',h1⟩
    obtain⟨m',rfl⟩:=Rg
    obtain⟨Bt,ik,hw⟩:=Jc [] D w a m' oL h1 hm
    refine⟨fun hr=>?_,fun j hj=>?_⟩
    ·have:=lH as jw bc kr ik Bt oL.dn
     rw [hr] at this;cases this
    ·rcases cls [] D w a oL rfl j hj with ⟨p,hp,_⟩ | rfl
     ·cases hp
     ·rw [hx.1] at hw;exact hw
   | cons p ps=>
    simp only at h1
    have hF:=zm (K:=fun gM w1=>mD P N ops split (dJ x) l1 fl C w1 fun l' kK C' w'=>DO P N ops split rows r (mask ||| 2 ^ i) off gM l' kK C' w' K) h1
    refine FR hs jw bc wR (base:=p :: ps) (fun x hx D hD=>qN hx hD) ?_ (p :: ps).length (p :: ps) D w a m hF rfl (ua _) rfl (ahZ _ _) oL hm
    intro im D w a m hu ku Re ej fC
    have hlen:(im.map (·.y)).length=(p :: ps).length:=by
     have:=congrArg List.length ku
     simpa using this
    have hd:=Re hlen
    rw [hu] at hd
    have Bt:D.testBit i=false:=by
     cases hd:D.testBit i with
     | false=>rfl
     | true=>
      rcases(ej.sub i).1 hd with h1 | ⟨p,hp,h1,_⟩
      ·rw [c4] at h1;cases h1
      ·obtain⟨y,_,_,_,h4,_⟩:=ej.r8 p hp
       rw [h1,c2] at h4;cases h4
    have ik:=qN c3 (fun j hj=>(ej.sub j).2 (.inl hj))
    refine .inr ⟨⟨i,lH as jw bc kr ik Bt ej.dn⟩,fun j hj=>?_⟩
    rcases cls im D w a ej ku j hj with h | rfl
    ·exact .inl h
    ·refine .inr fun m' Rh=>?_
     obtain⟨_,_,hw⟩:=Jc im D w a m' ej hd (by omega)
     rw [hx.1] at hw;exact hw
 | .settle i :: r,mask,wait,pend,l,fl,C,w,D,a,m,hc,bO,h,hm=>by
  have ih:=yf hP hs hQ as jw rows bc dH wR hK r (split:=split)
  simp only [iX,afW] at hc
  simp only [DO] at h
  obtain⟨⟨c1,c6⟩,c7⟩:=hc
  unfold UR at h
  obtain⟨l1,more,h1,oL,qM⟩:=Bn (wait.filter (gg mask)) (wait.filter fun y=> !gg mask y) pend l (fun y hy=>(agv.1 hy).2) (bO.perm (mI _ _)) h
  generalize pend++more=gM at h1 oL qM
  generalize eY:(wait.filter fun y=> !gg mask y)=off at h1 oL
  have Rf: ∀j,has (gX rows dH mask) j=true-> ∃p∈gM,p.idx=j:=by
   intro j hj
   obtain⟨g1,g2,y,g3,g4⟩:=uc hj
   rcases oL.all j g1 g2 (aft.1 g3).1 with h | ⟨y',td,he⟩
   ·exact h
   ·have q:=(oL.wt y' td).1
    rw [he,g3] at q
    obtain rfl:=afK q
    rw [<-eY,agv,g4] at td
    exact absurd td.2 (by simp)
  cases gM with
  | nil=>simp only [List.find?_nil] at h1
  | cons p ps=>
   simp only at h1
   have hF:=zm (K:=fun gM w1=>match gM.find? fun p=>Nat.beq p.idx i with
    | some p=>Jh p.y fun ad=>DO P N ops split rows r (mask ||| 2 ^ i) off (gM.filter fun p=> !Nat.beq p.idx i) ((p.dst,some (p.val ad)) :: l1) fl C w1 K
    | none=>False) h1
   refine FR hs jw bc wR (base:=p :: ps) (fun x hx D hD=>qN hx hD) ?_ (p :: ps).length (p :: ps) D w a m hF rfl (ua _) rfl (ahZ _ _) oL hm
   intro im D w a m hu ku Re ej fC
   have hlen:(im.map (·.y)).length=(p :: ps).length:=by
    have:=congrArg List.length ku
    simpa using this
   have hd:=Re hlen
   rw [hu] at hd
   split at hd
   ·rename_i q hq
    have UU:q∈im:=ag7 hq
    have UW:q.idx=i:=afS (by have:=ahR hq;exact this)
    cases hy:q.y with
    | some ad=>
     left
     rw [hy] at hd
     have:=ej.settle bc wR UU hy
     rw [UW] at this
     exact ih _ _ _ _ _ _ _ _ _ _ c7 this hd fC
    | none=>
     right
     have Bt:D.testBit i=false:=by
      cases Z2:D.testBit i with
      | false=>rfl
      | true=>
       rcases(ej.sub i).1 Z2 with h1 | ⟨p,hp,h1,h2⟩
       ·have:=ej.pm q UU
        rw [UW,h1] at this;cases this
       ·have:p=q:=by
         obtain⟨j,hj⟩:=afT hp
         obtain⟨k,hk⟩:=afT UU
         by_cases e:j=k
         ·subst e;exact afK (hj.symm.trans hk)
         ·exact absurd (h1.trans UW.symm) (Bq ej.CU hj hk e)
        rw [this,hy] at h2
        exact absurd rfl h2
     obtain⟨z,q1,_,_,q4,q5,_⟩:=ej.r8 q UU
     rw [UW] at q1
     have ik:=qN q5 (fun j hj=>(ej.sub j).2 (.inl hj))
     refine⟨⟨i,lH as jw bc q1 ik Bt ej.dn⟩,fun j hj=>?_⟩
     obtain⟨y,g1,g2,g3,g4⟩:=sd as jw bc hj ej.dn
     have Rd:gg (mask ||| bitsOf ((gX rows dH mask).filter fun j=> !Nat.beq j i)) y=true:=LW g4 (fun k hk=>by
      rw [agj,agu]
      rcases(ej.sub k).1 hk with h | ⟨p,hp,h,_⟩
      ·exact .inl h
      ·obtain⟨z,q1,_,_,q4,q5,_⟩:=ej.r8 p hp
       refine .inr (ub (agv.2 ⟨by rw [<-h];exact ud q4 (ej.pm p hp) q1 q5,?_⟩))
       cases hb:Nat.beq k i with
       | false=>rfl
       | true=>
        have:=afS hb
        rw [this,Bt] at hk;cases hk)
     have:=agw.1 c6 y (afz g1)
     simp only [agu,agb,g2,Bool.or_false] at this
     rcases this with (h | h) | h
     ·rw [(ej.sub j).2 (.inl h)] at g3;cases g3
     ·obtain⟨p,hp,he⟩:=Rf j h
      have Rg:j∈im.map (·.idx):=by rw [ku];exact afQ.2 ⟨p,hp,he⟩
      obtain⟨p',tM,jP⟩:=afQ.1 Rg
      refine .inl ⟨p',tM,jP,?_⟩
      cases hy:p'.y with
      | none=>rfl
      | some ad=>rw [(ej.sub j).2 (.inr ⟨p',tM,jP,by rw [hy];simp⟩)] at g3;cases g3
     ·rw [Rd] at h;cases h
   ·exact hd.elim
def wS (rows:List Row):List Nat:=(rows.filter (Ji rows)).map (·.idx)
def ue (rows:List Row) (dH:List Nat):List Row:=rows.filter fun y=>has dH y.idx
def allRows (P:Program) (ops:Array Oper):List Row:=rowsOf P 0 ops.toList (gf ops.toList [])
def th (P:Program) (ops:Array Oper):List R6:=pK (allRows P ops) (wS (allRows P ops)) ops.size 0
def Jp (P:Program) (ops:Array Oper):Bool:=
 Region.noSelect ops && jv ops (allRows P ops) (wS (allRows P ops)) && iX P ops (allRows P ops) (wS (allRows P ops)) (th P ops) 0
theorem Na (n:Nat):mH n 0<=n:=by
 unfold mH
 exact ag3 (ahZ _ _) (by simp)
theorem Bu {split:Bool} (hP:yT P) (hc:Jp P ops=true) {Q:Exit->Act->World->Prop} (hQ: ∀c a w,¬Q (.panic c) a w) {a:Act} {l:Env} {w:World} {K:Env->World->Prop} (hl:bP ds N a l)
  (hK: ∀a' l' w',kL (dstsOf ops.toList) a a'->bP ds N a' l'->K l' w'->Q .normal a' w')
  (h:DO P N ops split (allRows P ops) (th P ops) 0 (ue (allRows P ops) (wS (allRows P ops))) [] l [] [] w K):
  cm P .any ops (gf ops.toList []) Q [] ops.size (ck ops.size 0) a w:=by
 unfold Jp at hc
 simp only [afW] at hc
 obtain⟨⟨h1,h2⟩,h3⟩:=hc
 refine yf hP h1 hQ _ rfl (allRows P ops) rfl (wS (allRows P ops)) h2 (a0:=a) hK (th P ops) 0 _ [] l [] [] w 0 a ops.size h3 ?_ h (Na _)
 have uf: ∀(i:Nat) (y:Row),(allRows P ops)[i]? =some y->y.idx=i:=fun i y hy=>(dC (P:=P) (ops:=ops) (rows:=allRows P ops) rfl hy).1
 have Nb: ∀y∈allRows P ops,(allRows P ops)[y.idx]? =some y:=by
  intro y hy
  obtain⟨i,hi⟩:=afT hy
  rw [uf i y hi];exact hi
 refine{ env:=hl,DP:=(fun _ h=>by cases h),cells:=by simp,r8:=by simp,free:=by simp,CU:=by simp,pm:=by simp,sub:=by simp,dn:=by simp,wt:=?_,FQ:=?_,all:=?_,off:=kL.refl _ _}
 ·intro y hy
  unfold ue at hy
  rw [agv] at hy
  exact⟨Nb y hy.1,hy.2,by simp,by simp⟩
 ·unfold ue
  refine(List.filter_sublist.map _).nodup ?_
  refine ahV.2 (ahl.2 ?_)
  intro i j hi hj mJ he
  rw [uf i _ (afD hi),uf j _ (afD hj)] at he
  omega
 ·intro i h1 _ h3
  refine .inr ⟨(allRows P ops)[i],?_,uf i _ (afD h3)⟩
  unfold ue
  rw [agv]
  refine⟨afR _,?_⟩
  rw [uf i _ (afD h3)]
  exact h1
end
end Go.Den
end

section
namespace Go.Den
variable {ds:List Deferred}
def Nc (P:Program) (op:Op):Bool:=
 match op with
 | .move _ | .pick _ _ _ | .unOp _ _ _ | .extract _ _=>true
 | .binOp o t _ y _=>
  match o with
  | .quo | .rem | .shl | .shr=>false
  | _=>match P.underlying t with
   | some (.int _) | some .bool=>true
   | some .string=>match o with
    | .add=>false
    | _=>true
   | some (.pointer _) | some (.slice _) | some (.map _ _)=>isConst y
   | _=>false
 | .call c=>match c.callee,c.argTypes.toList with
  | .builtin .len,[t]=>match P.underlying t with
   | some (.slice _) | some .string=>true
   | _=>false
  | _,_=>false
 | .convert src dst _=>match P.underlying src,P.underlying dst with
  | some (.int _),some (.int _)=>true
  | _,_=>false
 | _=>false
def splits (P:Program) (ops:Array Oper):Bool:=ops.toList.any fun o=>o.guard.isSome && !Nc P o.op
def nJ (P:Program) (N:Nat) (ops:Array Oper) (draw:Bool) (l:Env) (w:World) (K:Env->World->Prop):Prop:=
 match draw with
 | false=>FC P N ops (splits P ops) (nF 0 ops.toList) l [] [] w K
 | true=>cond (FF P ops) (FC P N ops (splits P ops) (Jd P ops) l [] [] w.drew K)
   (cond (Jp P ops) (DO P N ops (splits P ops) (allRows P ops) (th P ops) 0 (ue (allRows P ops) (wS (allRows P ops))) [] l [] [] w.drew K)
   (cond (Bm P ops) (Rb P N ops (splits P ops) (yd P ops) (Je P ops) l [] [] w.drew K) False))
structure Hint where
 jR:List (Nat×Kd)
 cB:List Nat
structure Hints where
 loops:List (Nat×Hint)
 Sc:List (Nat×Hint)
def LX:List (Nat×Hint)->Nat->Option Hint
 | [],_=>none
 | (k,h) :: r,n=>cond (Nat.beq k n) (some h) (LX r n)
def iq:Code->Option Nat
 | .region id _ _=>some id
 | .seq a b=>match iq a with
  | some r=>some r
  | none=>iq b
 | .cond _ a b=>match iq a with
  | some r=>some r
  | none=>iq b
 | .block _ c=>iq c
 | .loop c=>iq c
 | .scope c=>iq c
 | _=>none
def FV (hs:List (Nat×Hint)) (c:Code):Option Hint:=
 match hs with
 | []=>none
 | h :: t=>match iq c with
  | some r=>LX (h :: t) r
  | none=>none
def writes:Code->List Nat
 | .region _ ops _=>dstsOf ops.toList
 | .seq a b=>writes a++writes b
 | .cond _ a b=>writes a++writes b
 | .block _ c=>writes c
 | .loop c=>writes c
 | _=> []
def lI (l:Env):List Nat->Option Env
 | []=>some []
 | t :: r=>match gt l t,lI l r with
  | some (some v),some e=>some ((t,some v) :: e)
  | _,_=>none
def gw (l:Env):List Nat->Option (List Value)
 | []=>some []
 | t :: r=>match gt l t,gw l r with
  | some (some v),some e=>some (v :: e)
  | _,_=>none
def lJ:List (Nat×Kd)->List Value->Env
 | (t,_) :: r,v :: vs=>(t,some v) :: lJ r vs
 | _,_=> []
def kept (c:Code) (ts:List Nat):Bool:=ts.all fun t=> !((writes c).any (Nat.beq t))
def iQ (P:Program) (N:Nat) (H:Hints):Code->Env->(Exit->Env->World->Prop)->World->Prop
 | .skip,l,Q,w=>Q .normal l w
 | .label _,l,Q,w=>Q .normal l w
 | .region _ ops draw,l,Q,w=>nJ P N ops draw l w fun l' w'=>Q .normal l' w'
 | .seq a b,l,Q,w=>
  match FV H.Sc b with
  | none=>iQ P N H a l (fun e l' w'=>match e with
   | .normal=>iQ P N H b l' Q w'
   | e=>Q e l' w') w
  | some h=>cond (kept a h.cB) (match lI l h.cB with
   | none=>False
   | some kl=> ∃J:Fn (h.jR.map (·.2)) (World->Prop),
     iQ P N H a l (fun e l' w'=>match e with
      | .normal=>match gw l' (h.jR.map (·.1)) with
       | some vs=>kI (h.jR.map (·.2)) vs (fun r=>r w') J
       | none=>False
      | e=>Q e l' w') w /\
     I6 (h.jR.map (·.2)) J fun vs r=> ∀w',r w'->iQ P N H b (lJ h.jR vs++kl) Q w') False
 | .cond c x y,l,Q,w=>
  match look l [] [] c with
  | some (.bool b)=>if b=true then iQ P N H x l Q w else iQ P N H y l Q w
  | _=>False
 | .block id c,l,Q,w=>iQ P N H c l (fun e l' w'=>match e with
   | .exit Nd=>cond (Nat.beq Nd id) (Q .normal l' w') (Q (.exit Nd) l' w')
   | e=>Q e l' w') w
 | .loop c,l,Q,w=>
  match FV H.loops c with
  | none=>False
  | some h=>cond (kept c h.cB) (match lI l h.cB,gw l (h.jR.map (·.1)) with
   | some kl,some UX=> ∃Inv:Fn (h.jR.map (·.2)) (Nat->World->Prop),
     kI (h.jR.map (·.2)) UX (fun r=> ∃n,r n w) Inv /\
     I6 (h.jR.map (·.2)) Inv fun vs r=> ∀n w',r n w'->
      iQ P N H c (lJ h.jR vs++kl) (fun e l' IV=>match e with
       | .normal=>match gw l' (h.jR.map (·.1)) with
        | some Nf=>kI (h.jR.map (·.2)) Nf (fun r'=> ∃n',n' < n /\ r' n' IV) Inv
        | none=>False
       | e=>Q e l' IV) w'
   | _,_=>False) False
 | .exit id,l,Q,w=>Q (.exit id) l w
 | .ret,l,Q,w=>Q .ret l w
 | _,_,_,_=>False
def ir (P:Program) (l:Env) (w:World):List ResultVar->(List Value->Prop)->Prop
 | [],K=>K []
 | .tmp t :: r,K=>match gt l t with
  | some (some v)=>ir P l w r fun vs=>K (v :: vs)
  | _=>False
 | .cell t ty :: r,K=>match gt l t with
  | some (some (.pointer p))=>NN p fun a=>zb P ty w a fun v=>ir P l w r fun vs=>K (v :: vs)
  | _=>False
def nK:Nat->List Value->Env
 | _,[]=> []
 | i,v :: vs=>(i,some v) :: nK (i+1) vs
def FX (P:Program) (H:Hints) (fn:Func) (args:List Value) (K:Value->World->Prop) (w:World):Prop:=
 match fn.body with
 | none=>False
 | some c=>cond (Nat.ble args.length fn.ntmps) (iQ P fn.ntmps H c (nK 0 args) (fun e l w'=>match e with
   | .normal=>ir P l w' fn.results.toList fun vs=>K (iP vs) w'
   | .ret=>ir P l w' fn.results.toList fun vs=>K (iP vs) w'
   | _=>False) w) False
section
variable {P:Program} {N:Nat} {H:Hints}
theorem iJ.nil {a:Act}:iJ a []:=fun _ h=>by cases h
theorem qO: ∀(i:Nat) (os:List Oper),(nF i os).map (·.o)=os
 | _,[]=>rfl
 | i,o :: r=>by simp [nF,qO (i+1) r]
theorem yg (hP:yT P) {ops:Array Oper} {l:Env} {w:World} {a:Act} {K:Env->World->Prop} (hl:bP ds N a l)
  (h:nJ P N ops false l w K):wpList P ops (fun e a' w'=>e=.normal /\ kL (dstsOf ops.toList) a a' /\ ∃l',bP ds N a' l' /\ K l' w') ops.toList a w:=by
 unfold nJ at h
 simp only at h
 have:=wM (Q:=fun e a' w'=>e=.normal /\ kL (dstsOf ops.toList) a a' /\ ∃l',bP ds N a' l' /\ K l' w') hP (nF 0 ops.toList) hl iJ.nil h (by
  intro a' l' w' ho cW hK
  refine⟨rfl,ho.mono ?_,l',cW,hK⟩
  intro t ht
  have e:kj (nF 0 ops.toList)=dstsOf ops.toList:=by
   conv=>rhs;rw [<-qO 0 ops.toList]
   simp [kj,dstsOf,List.filterMap_map,Function.comp_def]
  rw [<-e];exact ht)
 rw [qO] at this
 exact this
theorem zn (hP:yT P) {ops:Array Oper} {l:Env} {w:World} {a:Act} {K:Env->World->Prop} (hl:bP ds N a l)
  (h:nJ P N ops true l w K):wpAny P .any ops (fun e a' w'=>e=.normal /\ kL (dstsOf ops.toList) a a' /\ ∃l',bP ds N a' l' /\ K l' w') ops.size (Array.replicate ops.size false) a { w with drawn:=w.drawn+1}:=by
 unfold nJ at h
 simp only at h
 cases hb:FF P ops with
 | false=>
  rw [hb] at h
  simp only [cond_false] at h
  cases hf:Jp P ops with
  | true=>
   rw [hf] at h
   simp only [cond_true] at h
   refine lD (as:=gf ops.toList []) (C:= []) _ _ _ _ ?_
   have:=Bu hP hf (Q:=fun e a' w'=>e=.normal /\ kL (dstsOf ops.toList) a a' /\ ∃l',bP ds N a' l' /\ K l' w') (fun c a w hq=>by cases hq.1) hl (fun a' l' w' ho cW hK=>⟨rfl,ho,l',cW,hK⟩) h
   rw [oJ] at this
   exact this
  | false=>
  rw [hf] at h
  simp only [cond_false] at h
  cases ht:Bm P ops with
  | false=>rw [ht] at h;exact h.elim
  | true=>
   rw [ht] at h
   simp only [cond_true] at h
   unfold Bm at ht
   simp only [afW] at ht
   obtain⟨⟨Sd,UY⟩,ht3⟩:=ht
   refine lD (as:=gf ops.toList []) (C:= []) _ _ _ _ ?_
   have:=(te hP Sd (Q:=fun e a' w'=>e=.normal /\ kL (dstsOf ops.toList) a a' /\ ∃l',bP ds N a' l' /\ K l' w') (fun c a w hq=>by cases hq.1) _ rfl
    (yd P ops) rfl (a0:=a) (K:=K) (fun a' l' w' ho cW hK=>⟨rfl,ho,l',cW,hK⟩) (Je P ops) true 0 ops.size (ahB UY)
    (fun j hj=>by simp at hj) (fun _ hx=>(by cases hx)) ht3 hl iJ.nil (kL.refl _ _) h).1 rfl
   rw [oJ] at this
   exact this
 | true=>
  rw [hb] at h
  simp only [cond_true] at h
  unfold FF at hb
  simp only [afW] at hb
  obtain⟨⟨lr,eU⟩,pC⟩:=hb
  refine lD (as:=gf ops.toList []) (C:= []) _ _ _ _ ?_
  have:=zf hP lr (Q:=fun e a' w'=>e=.normal /\ kL (dstsOf ops.toList) a a' /\ ∃l',bP ds N a' l' /\ K l' w') (fun c a w hq=>by cases hq.1) _ rfl
   (pG (rowsOf P 0 ops.toList (gf ops.toList []))) 0 (fun x hx=>rU hx) (fun j hj=>by simp at hj) (fun _ hx=>(by cases hx)) pC hl iJ.nil h (by
    intro a' l' w' ho cW hK
    refine⟨rfl,ho.mono ?_,l',cW,hK⟩
    intro t ht
    simp only [kj,ah6,afQ] at ht
    obtain⟨it,⟨x,hx,rfl⟩,hd⟩:=ht
    obtain⟨jj,h1,_⟩:=gW (rU hx)
    simp only [dstsOf,ah6]
    exact⟨x.o,afz h1,hd⟩)
  rw [oJ,afS eU] at this
  exact this
theorem Bv (hP:yT P) {id:Nat} {ops:Array Oper} {draw:Bool} {l:Env} {w:World} {a:Act} {K:Env->World->Prop} (hl:bP ds N a l)
  (h:nJ P N ops draw l w K):(Code.region id ops draw).wp P (fun e a' w'=>e=.normal /\ kL (dstsOf ops.toList) a a' /\ ∃l',bP ds N a' l' /\ K l' w') a w:=by
 cases draw with
 | false=>exact wp_region_list (yg hP hl h)
 | true=>exact wp_region_any hP.mixed (zn hP hl h)
theorem Ng {l:Env} {a:Act} (h: ∀t v,(t,some v)∈l->a.tmps[t]? =some v): ∀t v,gt l t=some (some v)->a.tmps[t]? =some v:=by
 induction l with
 | nil=>intro t v hg;simp [gt] at hg
 | cons x r ih=>
  intro t v hg
  obtain⟨j,u⟩:=x
  simp only [gt] at hg
  cases hb:Nat.beq j t with
  | true=>
   rw [hb] at hg
   simp only [cond_true,afy] at hg
   subst hg
   rw [<-afS hb]
   exact h j v (by simp)
  | false=>rw [hb] at hg;exact ih (fun t v ht=>h t v (by simp [ht])) t v hg
theorem se {l:Env}: ∀{ts:List Nat} {kl:Env},lI l ts=some kl-> ∀t v,(t,some v)∈kl->t∈ts /\ gt l t=some (some v)
 | [],kl,h,t,v,hm=>by simp only [lI,afy] at h;subst h;cases hm
 | x :: r,kl,h,t,v,hm=>by
  simp only [lI] at h
  split at h
  ·rename_i u e hg hk
   simp only [afy] at h
   subst h
   rcases af1.1 hm with hm | hm
   ·simp only [agX,afy] at hm
    obtain⟨rfl,rfl⟩:=hm
    exact⟨by simp,hg⟩
   ·obtain⟨h1,h2⟩:=se hk t v hm
    exact⟨by simp [h1],h2⟩
  ·cases h
theorem ug {a:Act} {l:Env} (hl: ∀t v,gt l t=some (some v)->a.tmps[t]? =some v): ∀{ms:List (Nat×Kd)} {vs:List Value},gw l (ms.map (·.1))=some vs->
  ∀t v,(t,some v)∈lJ ms vs->a.tmps[t]? =some v
 | [],vs,h,t,v,hm=>by simp [lJ] at hm
 | (x,k) :: r,vs,h,t,v,hm=>by
  simp only [agl,gw] at h
  split at h
  ·rename_i u e hg hk
   simp only [afy] at h
   subst h
   simp only [lJ] at hm
   rcases af1.1 hm with hm | hm
   ·simp only [agX,afy] at hm
    obtain⟨rfl,rfl⟩:=hm
    exact hl _ _ hg
   ·exact ug hl hk t v hm
  ·cases h
theorem Jq {c:Code} {ts:List Nat} (h:kept c ts=true): ∀t∈ts,t ∉ writes c:=by
 intro t ht hw
 have:=agw.1 h t ht
 simp only [agb] at this
 have h2:(writes c).any (Nat.beq t)=true:=ahK.2 ⟨t,hw,by simp⟩
 rw [h2] at this
 cases this
theorem wT {a a':Act} {l l' kl:Env} {h:Hint} {vs:List Value} {c:Code} (hl:bP ds N a l) (cW:bP ds N a' l') (ho:kL (writes c) a a') (hk:kept c h.cB=true)
  (cU:lI l h.cB=some kl) (hv:gw l' (h.jR.map (·.1))=some vs):bP ds N a' (lJ h.jR vs++kl):=by
 refine⟨cW.size,cW.defers,Ng ?_⟩
 intro t v hm
 rcases afB.1 hm with hm | hm
 ·exact ug cW.A1 hv t v hm
 ·obtain⟨h1,h2⟩:=se cU t v hm
  rw [ho t (Jq hk t h1)]
  exact hl.A1 t v h2
def Wp (ds:List Deferred) (N:Nat) (ws:List Nat) (a:Act) (Q:Exit->Env->World->Prop):Exit->Act->World->Prop:=
 fun e a' w'=>kL ws a a' /\ ∃l',bP ds N a' l' /\ Q e l' w'
theorem e8 (hP:yT P): ∀(c:Code) {l:Env} {Q:Exit->Env->World->Prop} {w:World} {a:Act},bP ds N a l->iQ P N H c l Q w->
  c.wp P (Wp ds N (writes c) a Q) a w
 | .skip,l,Q,w,a,hl,h=>wp_skip ⟨kL.refl _ _,l,hl,h⟩
 | .label _,l,Q,w,a,hl,h=>wp_label ⟨kL.refl _ _,l,hl,h⟩
 | .region id ops draw,l,Q,w,a,hl,h=>by
  refine wp_mono (Bv hP hl h) ?_
  rintro e a' w' ⟨rfl,ho,l',cW,hK⟩
  exact⟨ho,l',cW,hK⟩
 | .seq x y,l,Q,w,a,hl,h=>by
  have UZ:=fun{l Q w a}=>e8 hP x (l:=l) (Q:=Q) (w:=w) (a:=a)
  have U0:=fun{l Q w a}=>e8 hP y (l:=l) (Q:=Q) (w:=w) (a:=a)
  unfold iQ at h
  refine wp_seq ?_
  split at h
  ·refine wp_mono (UZ hl h) ?_
   rintro e a' w' ⟨ho,l',cW,hq⟩
   have Se:kL (writes (.seq x y)) a a':=ho.mono fun t ht=>by simp [writes,ht]
   cases e with
   | normal=>
    refine wp_mono (U0 cW hq) ?_
    rintro e a'' IV ⟨lu,Wq,Nh,FY⟩
    exact⟨Se.trans (lu.mono fun t ht=>by simp [writes,ht]),Wq,Nh,FY⟩
   | _=>exact⟨Se,l',cW,hq⟩
  ·rename_i hh _
   cases hb:kept x hh.cB with
   | false=>rw [hb] at h;exact h.elim
   | true=>
    rw [hb] at h
    simp only [cond_true] at h
    split at h
    ·exact h.elim
    ·rename_i kl cU
     obtain⟨J,h1,h2⟩:=h
     refine wp_mono (UZ hl h1) ?_
     rintro e a' w' ⟨ho,l',cW,hq⟩
     have Se:kL (writes (.seq x y)) a a':=ho.mono fun t ht=>by simp [writes,ht]
     cases e with
     | normal=>
      simp only at hq
      split at hq
      ·rename_i vs IW
       obtain⟨r,hr,eU⟩:=po hq h2
       refine wp_mono (U0 (wT hl cW ho hb cU IW) (eU w' hr)) ?_
       rintro e a'' IV ⟨lu,Wq,Nh,FY⟩
       exact⟨Se.trans (lu.mono fun t ht=>by simp [writes,ht]),Wq,Nh,FY⟩
      ·exact hq.elim
     | _=>exact⟨Se,l',cW,hq⟩
 | .cond c x y,l,Q,w,a,hl,h=>by
  have UZ:=fun{l Q w a}=>e8 hP x (l:=l) (Q:=Q) (w:=w) (a:=a)
  have U0:=fun{l Q w a}=>e8 hP y (l:=l) (Q:=Q) (w:=w) (a:=a)
  unfold iQ at h
  split at h
  ·rename_i b hb
   have he:=nE hl iJ.nil kM c _ hb
   refine wp_cond he ?_
   cases b with
   | true=>
    simp only [if_true] at h ⊢
    refine wp_mono (UZ hl h) ?_
    rintro e a' w' ⟨ho,r⟩
    exact⟨ho.mono fun t ht=>by simp [writes,ht],r⟩
   | false=>
    simp only [agD,if_false] at h ⊢
    refine wp_mono (U0 hl h) ?_
    rintro e a' w' ⟨ho,r⟩
    exact⟨ho.mono fun t ht=>by simp [writes,ht],r⟩
  ·exact h.elim
 | .block id c,l,Q,w,a,hl,h=>by
  have ih:=fun{l Q w a}=>e8 hP c (l:=l) (Q:=Q) (w:=w) (a:=a)
  unfold iQ at h
  refine wp_block (wp_mono (ih hl h) ?_)
  rintro e a' w' ⟨ho,l',cW,hq⟩
  cases e with
  | exit Nd=>
   simp only [Exit.inBlock]
   simp only at hq
   by_cases U1:Nd=id
   ·rw [if_pos U1]
    have:Nat.beq Nd id=true:=by rw [U1];simp
    rw [this] at hq
    exact⟨ho,l',cW,hq⟩
   ·rw [if_neg U1]
    have:Nat.beq Nd id=false:=by
     cases hb:Nat.beq Nd id with
     | false=>rfl
     | true=>exact absurd (afS hb) U1
    rw [this] at hq
    exact⟨ho,l',cW,hq⟩
  | _=>exact⟨ho,l',cW,hq⟩
 | .loop c,l,Q,w,a,hl,h=>by
  have ih:=fun{l Q w a}=>e8 hP c (l:=l) (Q:=Q) (w:=w) (a:=a)
  unfold iQ at h
  split at h
  ·exact h.elim
  ·rename_i hh _
   cases hb:kept c hh.cB with
   | false=>rw [hb] at h;exact h.elim
   | true=>
    rw [hb] at h
    simp only [cond_true] at h
    split at h
    ·rename_i kl UX cU Wr
     obtain⟨Inv,h1,h2⟩:=h
     have start: ∃(n:Nat) (vs:List Value) (r:Nat->World->Prop),gw l (hh.jR.map (·.1))=some vs /\ r n w /\ (∀n w',r n w'->iQ P N H c (lJ hh.jR vs++kl) (fun e l' IV=>match e with
       | .normal=>match gw l' (hh.jR.map (·.1)) with
        | some Nf=>kI (hh.jR.map (·.2)) Nf (fun r'=> ∃n',n' < n /\ r' n' IV) Inv
        | none=>False
       | e=>Q e l' IV) w'):=by
      obtain⟨r,⟨n,hr⟩,hB⟩:=po h1 h2
      exact⟨n,UX,r,Wr,hr,hB⟩
     obtain⟨n0,vs,r0,IW,Ws,R5⟩:=start
     refine wp_loop_ghost (fun n a' w'=>kL (writes c) a a' /\ ∃(l':Env) (vs:List Value) (r:Nat->World->Prop),bP ds N a' l' /\ gw l' (hh.jR.map (·.1))=some vs /\ r n w' /\
       (∀n w',r n w'->iQ P N H c (lJ hh.jR vs++kl) (fun e l' IV=>match e with
       | .normal=>match gw l' (hh.jR.map (·.1)) with
        | some Nf=>kI (hh.jR.map (·.2)) Nf (fun r'=> ∃n',n' < n /\ r' n' IV) Inv
        | none=>False
       | e=>Q e l' IV) w')) n0 ⟨kL.refl _ _,l,vs,r0,hl,IW,Ws,R5⟩ ?_
     rintro n a1 w1 ⟨ho,l1,vs1,r1,A3,Wt,v5,UQ⟩
     refine wp_mono (ih (wT hl A3 ho hb cU Wt) (UQ n w1 v5)) ?_
     rintro e a' w' ⟨lu,l',cW,hq⟩
     cases e with
     | normal=>
      simp only at hq
      split at hq
      ·rename_i Nf Wu
       obtain⟨r',⟨n',ar,Sf⟩,vU⟩:=po hq h2
       exact⟨n',ar,ho.trans lu,l',Nf,r',cW,Wu,Sf,vU⟩
      ·exact hq.elim
     | _=>exact⟨ho.trans lu,l',cW,hq⟩
    ·exact h.elim
 | .exit id,l,Q,w,a,hl,h=>wp_exit ⟨kL.refl _ _,l,hl,h⟩
 | .ret,l,Q,w,a,hl,h=>wp_ret ⟨kL.refl _ _,l,hl,h⟩
 | .rangeFunc _ _ _ _,_,_,_,_,_,h=>h.elim
 | .scope _,_,_,_,_,_,h=>h.elim
 | .goto _,_,_,_,_,_,h=>h.elim
 | .refuse _,_,_,_,_,_,h=>h.elim
theorem ui: ∀{vs:List Value} {i t:Nat} {v:Value},gt (nK i vs) t=some (some v)->i<=t /\ vs[t - i]? =some v
 | [],i,t,v,h=>by simp [nK,gt] at h
 | u :: vs,i,t,v,h=>by
  simp only [nK,gt] at h
  cases hb:Nat.beq i t with
  | true=>
   rw [hb] at h
   simp only [cond_true,afy] at h
   have:=afS hb
   subst this
   simp [h]
  | false=>
   rw [hb] at h
   obtain⟨h1,h2⟩:=ui h
   refine⟨by omega,?_⟩
   rw [show t - i=(t - (i+1))+1 by omega]
   simpa using h2
def DQ (tmps:Array Value):ResultVar->Sem Value
 | .tmp t=>pure (tmps.getD t undef)
 | .cell x t=>do loadVar t (<-asAddr (tmps.getD x undef))
theorem Bw (fn:Func) (tmps:Array Value):
  results fn tmps=(do let vs <-fn.results.mapM (DQ tmps);pure (if h:vs.size=1 then vs[0] else .tuple vs)):=by
 unfold results
 congr 1
theorem mK {a:Act} {l:Env} {w:World} (hl:bP ds N a l): ∀{rs:List ResultVar} {K:List Value->Prop},ir P l w rs K->
  ∃vs,(rs.mapM (DQ a.tmps)).run P w=.ok vs w /\ K vs
 | [],K,h=>⟨[],by simp,h⟩
 | .tmp t :: r,K,h=>by
  simp only [ir] at h
  split at h
  ·rename_i v hv
   obtain⟨vs,hr,hK⟩:=mK hl h
   have:=hl.A1 _ _ hv
   have h1:(DQ a.tmps (.tmp t)).run P w=.ok v w:=by simp [DQ,this]
   exact⟨v :: vs,by simp only [List.mapM_cons,Sem.run_bind,h1,Result.andThen_ok,hr,Sem.run_pure],hK⟩
  ·exact h.elim
 | .cell t ty :: r,K,h=>by
  simp only [ir] at h
  split at h
  ·rename_i p hv
   obtain⟨ad,rfl,h1⟩:=pz h
   obtain⟨v,Wv,Z3,h2⟩:=zc h1
   obtain⟨vs,hr,hK⟩:=mK hl h2
   have:=hl.A1 _ _ hv
   have h1:(DQ a.tmps (.cell t ty)).run P w=.ok v w:=by simp [DQ,this,asAddr,Z3 w Wv]
   exact⟨v :: vs,by simp only [List.mapM_cons,Sem.run_bind,h1,Result.andThen_ok,hr,Sem.run_pure],hK⟩
  ·exact h.elim
theorem zo (hP:yT P) {f:FuncId} {fn:Func} {args:List Value} {K:Value->World->Prop} {w:World} (hf:P.funcs[f]? =some fn)
  (h:FX P H fn args K w):Calls P f args.toArray w fun e w'=> ∃v,e=.returned v /\ K v w':=by
 unfold FX at h
 split at h
 ·exact h.elim
 ·rename_i c hc
  cases hb:Nat.ble args.length fn.ntmps with
  | false=>rw [hb] at h;exact h.elim
  | true=>
   rw [hb] at h
   simp only [cond_true] at h
   have hle:args.length<=fn.ntmps:=ahB hb
   refine calls_of_wp hf hc ?_
   have hl:bP [] fn.ntmps ⟨args.toArray++Array.replicate (fn.ntmps - args.toArray.size) undef,[]⟩ (nK 0 args):=by
    refine⟨by simp;omega,rfl,fun t v ht=>?_⟩
    obtain⟨_,h2⟩:=ui ht
    simp only [Nat.sub_zero] at h2
    have ar:=(aft.1 h2).1
    rw [Array.getElem?_append_left (by simpa using ar)]
    simpa using h2
   refine wp_mono (e8 hP c hl h) ?_
   rintro e a' w' ⟨_,l',cW,hq⟩
   have fin:ir P l' w' fn.results.toList (fun vs=>K (iP vs) w')->a'.defers= [] /\ ∃v,(results fn a'.tmps).run P w'=.ok v w' /\ ∃v',Ending.returned v=.returned v' /\ K v' w':=by
    intro hr
    obtain⟨vs,hv,hK⟩:=mK cW hr
    refine⟨cW.defers,iP vs,?_,iP vs,rfl,hK⟩
    rw [Bw,Array.mapM_eq_mapM_toList]
    simp only [Sem.run_bind,Sem.run_map,hv,Result.andThen_ok,Sem.run_pure]
    congr 1
    unfold iP
    split
    ·rename_i h1
     have hlen:vs.length=1:=by simpa using h1
     match vs,hlen with
     | [v],_=>rfl
    ·rename_i h1
     have hlen:vs.length≠1:=by simpa using h1
     match vs,hlen with
     | [],_=>rfl
     | _ :: _ :: _,_=>rfl
   cases e with
   | normal=>exact fin hq
   | ret=>exact fin hq
   | _=>exact hq.elim
theorem ag (hP:yT P) {f:FuncId} {fn:Func} {args:List Value} {mu:List Sh} {R:Fn (mc mu) (World->Prop)} {w:World} (hf:P.funcs[f]? =some fn)
  (h:FX P H fn args (fun v w'=>eM mu v R w') w):av P f args mu w R:=zo hP hf h
end
end Go.Den
end

section
namespace Go.Den
def Dr (w:World) (K:World->Prop):Prop:=K w.drew
end Go.Den
end

section
namespace Go.Den
open Go.RowKit
structure Fr (S:List Nat) (w w':World):Prop where
 os:w'.os=w.os
 tape:w'.tape=w.tape
 output:w'.output=w.output
 size:w.heap.size<=w'.heap.size
 block: ∀k,k < w.heap.size->k ∉ S->w'.heap[k]? =w.heap[k]?
theorem Fr.refl (S:List Nat) (w:World):Fr S w w:=⟨rfl,rfl,rfl,afV _,fun _ _ _=>rfl⟩
theorem Fr.trans {S S':List Nat} {a b c:World} (h:Fr S a b) (h':Fr S' b c) (hs: ∀k∈S',k∈S \/ a.heap.size<=k):Fr S a c:=
 ⟨h'.os.trans h.os,h'.tape.trans h.tape,h'.output.trans h.output,ag3 h.size h'.size,fun k hk hn=>
  (h'.block k (ahh hk h.size) (fun hm=>(hs k hm).elim hn (fun hl=>by omega))).trans (h.block k hk hn)⟩
theorem Fr.mono {S S':List Nat} {a b:World} (h:Fr S a b) (hs: ∀k∈S,k∈S' \/ a.heap.size<=k):Fr S' a b:=
 ⟨h.os,h.tape,h.output,h.size,fun k hk hn=>h.block k hk fun hm=>(hs k hm).elim hn (fun hl=>by omega)⟩
theorem Fr.below {w w':World} (h:Fr [] w w'):Below w.heap.size w w':=⟨h.os,h.tape,h.output,h.size,fun k hk=>h.block k hk (by simp)⟩
theorem Fr.drew {S:List Nat} {a w:World} (h:Fr S a w):Fr S a w.drew:=⟨h.os,h.tape,h.output,h.size,h.block⟩
def fz (w:World) (b:Nat) (e:TypeId) (c:List Value):Prop:=w.heap[b]? =some (.cells c.toArray e (0,0))
theorem fz.lt {w:World} {b:Nat} {e:TypeId} {c:List Value} (h:fz w b e c):b < w.heap.size:=(afL.1 h).1
theorem fz.fr {S:List Nat} {w w':World} {b:Nat} {e:TypeId} {c:List Value} (h:fz w b e c) (hf:Fr S w w') (hn:b ∉ S):fz w' b e c:=
 (hf.block b h.lt hn).trans h
theorem fz.cell {w:World} {b:Nat} {e:TypeId} {c:List Value} (h:fz w b e c) (o:Nat):w.cell? ⟨b,o,none⟩=c[o]? :=by
 unfold fz at h
 simp [World.cell?,h]
theorem fz.frozen {w:World} {b:Nat} {e:TypeId} {c:List Value} (h:fz w b e c) (o:Nat):w.frozen? ⟨b,o,none⟩=false:=by
 unfold fz at h
 simp [World.frozen?,h]
theorem fz.set {w:World} {b:Nat} {e:TypeId} {c:List Value} (h:fz w b e c) (o:Nat) (v:Value):fz (w.setCell ⟨b,o,none⟩ v) b e (c.set o v):=by
 unfold fz at h ⊢
 simp only [World.setCell,aik,↓reduceIte,h,agy,Option.isSome_none,agD,if_false]
 congr 2
 simp
theorem Fr.set {w:World} {b:Nat} (o:Nat) (v:Value):Fr [b] w (w.setCell ⟨b,o,none⟩ v):=
 ⟨rfl,rfl,rfl,by simp,fun k hk hn=>Below.heap_setCell w ⟨b,o,none⟩ v k (by simpa using hn)⟩
theorem Fr.alloc (w:World) (o:Obj):Fr [] w (w.alloc o):=⟨rfl,rfl,rfl,by simp,fun k hk _=>Below.heap_alloc w o k hk⟩
theorem fz.alloc (w:World) (c:List Value) (e:TypeId):fz (w.alloc (.cells c.toArray e)) w.heap.size e c:=by
 show (w.heap.push _)[w.heap.size]? =_
 simp
theorem Addr.aQ (b o n:Nat):(⟨b,o,none⟩:Addr).add n=⟨b,o+n,none⟩:=by
 unfold Addr.add;split <;> simp_all
@[simp] theorem fq (a:Addr) (K:Addr->Prop):NN (some a) K=K a:=rfl
theorem ld {k:Kd} {w:World} {b o:Nat} {e:TypeId} {c:List Value} {x:k.T} {K:k.T->Prop} (h:fz w b e c) (hx:c[o]? =some (k.inj x)) (hK:K x):Ld k w ⟨b,o,none⟩ K:=
 ⟨x,by rw [h.cell,hx],hK⟩
theorem mf {k:Kd} {w:World} {b n:Nat} {e:TypeId} {c:List Value} {x:k.T} {K:k.T->Prop} (h:fz w b e c) (hx:c[n]? =some (k.inj x)) (hK:K x):Ld k w ((⟨b,0,none⟩:Addr).add n) K:=by
 rw [Addr.aQ,agH]
 exact ld h hx hK
theorem st {w:World} {b o:Nat} {e:TypeId} {c:List Value} {v:Value} {K:World->Prop} (h:fz w b e c) (ho:o < c.length) (hv:v.oneCell'=true)
  (hK: ∀w',fz w' b e (c.set o v)->Fr [b] w w'->w'.heap.size=w.heap.size->K w'):St ⟨b,o,none⟩ v w K:=
 ⟨hv,by rw [h.cell];simp [ho],h.frozen o,hK _ (h.set o v) (Fr.set o v) (by simp)⟩
theorem Bx {w:World} {b n:Nat} {e:TypeId} {c:List Value} {v:Value} {K:World->Prop} (h:fz w b e c) (ho:n < c.length) (hv:v.oneCell'=true)
  (hK: ∀w',fz w' b e (c.set n v)->Fr [b] w w'->w'.heap.size=w.heap.size->K w'):St ((⟨b,0,none⟩:Addr).add n) v w K:=by
 rw [Addr.aQ,agH]
 exact st h ho hv hK
theorem nw {w:World} {e:TypeId} {c:List Value} {K:Addr->World->Prop}
  (hK: ∀b w',b=w.heap.size->fz w' b e c->Fr [] w w'->w'.heap.size=w.heap.size+1->K ⟨b,0,none⟩ w'):Nw (.cells c.toArray e) w K:=
 hK _ _ rfl (fz.alloc w c e) (Fr.alloc w _) (by simp)
theorem dr {w:World} {K:World->Prop} (hK: ∀w',Fr [] w w'->w'.heap.size=w.heap.size->(∀b e c,fz w b e c->fz w' b e c)->K w'):Dr w K:=
 hK _ (Fr.refl [] w).drew rfl (fun _ _ _ h=>h)
def eP (w:World) (s:Sl) (e:TypeId) (vs:List Value) (o:List Nat):Prop:=
  vs.length=s.len /\
  ((s.a=none /\ s.len=0 /\ s.cap=0 /\ o= []) \/
   ∃b off c,s.a=some ⟨b,off,none⟩ /\ o= [b] /\ fz w b e c /\ s.len<=s.cap /\ off+s.cap<=c.length /\ (c.drop off).take s.len=vs)
theorem eP.nil {w:World} {e:TypeId}:eP w ⟨none,0,0⟩ e [] []:=⟨rfl,.inl ⟨rfl,rfl,rfl,rfl⟩⟩
theorem eP.len {w:World} {s:Sl} {e:TypeId} {vs:List Value} {o:List Nat} (h:eP w s e vs o):vs.length=s.len:=h.1
theorem eP.lt {w:World} {s:Sl} {e:TypeId} {vs:List Value} {o:List Nat} (h:eP w s e vs o): ∀k∈o,k < w.heap.size:=by
 rcases h.2 with ⟨_,_,_,rfl⟩ | ⟨b,off,c,_,rfl,hb,_⟩
 ·simp
 ·intro k hk;simp only [afF] at hk;subst hk;exact hb.lt
theorem eP.fr {S:List Nat} {w w':World} {s:Sl} {e:TypeId} {vs:List Value} {o:List Nat} (h:eP w s e vs o) (hf:Fr S w w') (hn: ∀k∈o,k ∉ S):eP w' s e vs o:=by
 refine⟨h.1,?_⟩
 rcases h.2 with h1 | ⟨b,off,c,h1,rfl,hb,h2⟩
 ·exact .inl h1
 ·exact .inr ⟨b,off,c,h1,rfl,hb.fr hf (hn b (by simp)),h2⟩
theorem eP.at {w:World} {s:Sl} {e:TypeId} {vs:List Value} {o:List Nat} (h:eP w s e vs o) {i:Nat} (hi:i < vs.length):
  ∃b off c,s.a=some ⟨b,off,none⟩ /\ o= [b] /\ fz w b e c /\ off+i < c.length /\ c[off+i]? =vs[i]? /\ s.len<=s.cap /\ off+s.cap<=c.length /\ (c.drop off).take s.len=vs:=by
 have hl:=h.1
 rcases h.2 with ⟨_,h1,_⟩ | ⟨b,off,c,h1,ho,hb,h2,h3,h4⟩
 ·omega
 ·refine⟨b,off,c,h1,ho,hb,by omega,?_,h2,h3,h4⟩
  rw [<-h4,agc,if_pos (by omega),agn]
theorem e9 {k:Kd} {w:World} {s:Sl} {e:TypeId} {vs:List Value} {o:List Nat} {i:Int} {x:k.T} {K:k.T->Prop} (h:eP w s e vs o) (hi:0<=i) (hx:vs[i.toNat]? =some (k.inj x)) (hK:K x):
  Ix s.a s.len i 1 fun a=>Ld k w a K:=by
 have ar:=(aft.1 hx).1
 obtain⟨b,off,c,h1,ho,hb,h2,h3,_⟩:=h.at ar
 refine⟨hi,by have:=h.1;omega,?_⟩
 rw [h1]
 simp only [fq,agS,Addr.aQ]
 exact ld hb (h3.trans hx) hK
theorem mL {w:World} {s:Sl} {e:TypeId} {vs:List Value} {o:List Nat} {i:Int} {v:Value} {K:World->Prop} (h:eP w s e vs o) (hi:0<=i) (ar:i.toNat < vs.length) (hv:v.oneCell'=true)
  (hK: ∀w',eP w' s e (vs.set i.toNat v) o->Fr o w w'->w'.heap.size=w.heap.size->K w'):
  Ix s.a s.len i 1 fun a=>St a v w K:=by
 obtain⟨b,off,c,h1,ho,hb,h2,h3,h4,h5,h6⟩:=h.at ar
 refine⟨hi,by have:=h.1;omega,?_⟩
 rw [h1]
 simp only [fq,agS,Addr.aQ]
 refine st hb h2 hv fun w' iV hf hs=>hK w' ⟨by simpa using h.1,.inr ⟨b,off,_,h1,ho,iV,h4,by simpa using h5,?_⟩⟩ (by rw [ho];exact hf) hs
 rw [<-h6]
 apply agd
 intro j
 simp only [agc,agn,agm]
 by_cases hj:j < s.len
 ·simp only [hj,if_true]
  by_cases CS:i.toNat=j
  ·subst CS
   have e1:(List.take s.len (List.drop off c)).length=s.len:=by rw [h6];exact h.1
   simp [h2,e1,hj]
  ·have:off+i.toNat≠off+j:=by omega
   simp [this,CS,hj]
 ·have e1:(List.take s.len (List.drop off c)).length=s.len:=by rw [h6];exact h.1
  have: ¬(i.toNat=j):=by have:=h.1;omega
  simp [hj,this]
theorem eP.cut {w:World} {s:Sl} {e:TypeId} {vs:List Value} {o:List Nat} (h:eP w s e vs o) {n:Nat} (hn:n<=vs.length) {K:Sl->Prop}
  (hK: ∀s',eP w s' e (vs.drop n) o->s'.len=s.len - n->K s'):
  Cut s (n:Int) (s.len:Int) (s.cap:Int) 1 K:=by
 have hl:=h.1
 rcases h.2 with ⟨h1,h2,h3,rfl⟩ | ⟨b,off,c,h1,rfl,hb,h2,h3,h4⟩
 ·refine⟨by omega,by omega,by omega,by omega,hK _ ⟨by simp;omega,.inl ⟨?_,by simp;omega,by simp;omega,rfl⟩⟩ (by simp)⟩
  simp [h1]
 ·refine⟨by omega,by omega,by omega,by omega,hK _ ⟨by simp;omega,.inr ⟨b,if s.cap=n then off else off+n,c,?_,rfl,hb,by simp;omega,by simp;split <;> omega,?_⟩⟩ (by simp)⟩
  ·simp only [afu,h1,agy,agS,Addr.aQ]
   split <;> rfl
  ·simp only [afu]
   rw [<-h4]
   split
   ·have e1:s.len - n=0:=by omega
    rw [e1,List.take_zero]
    rw [List.drop_eq_nil_of_le (by simp;omega)]
   ·rw [List.drop_take,agk]
section append
variable {P:Program} {w:World}
theorem app {s:Sl} {t ty e:TypeId} {i:TypeInfo} {z:Value} {vs news:List Value} {o:List Nat} {x:Addr} {m c':Nat} {K:Sl->World->Prop}
  (ht:P.underlying t=some (.slice e)) (hi:P.info? e=some i) (dw:i.size=1) (hz:i.zero=some z) (yU:z.cells.size=1)
  (h:eP w s e vs o) (hl:news.length=m) (kQ: ∀j u,news[j]? =some u->w.cell? (x.add j)=some u) (h1: ∀u∈news,u.oneCell'=true)
  (hb:(s.len+m)*i.bytes<=140737488355328) (hn:s.len+m<=140737488355328)
  (hK: ∀s' w' o',eP w' s' e (vs++news) o'->s'.len=s.len+m->(o'=o \/ ∃n,w.heap.size<=n /\ n < w'.heap.size /\ o'= [n])->Fr o w w'->(s.a≠none \/ m≠0->s'.a≠none)->K s' w'):
  bZ .sl P (Builtin.append_ #[t,t] ty #[.slice s.a s.len s.cap,.slice (some x) m c']) w K:=by
 have gi:=h.1
 have bW: ∀cap,cap < s.len+m->Builtin.nextslicecap (s.len+m) cap*i.bytes<=281474976710656:=fun cap hc=>growslice_fits hc hb
 have grown: ∀(cap:Nat) (w1:World),w1=w.drew.alloc (.cells (vs.toArray++news.toArray++Builtin.zeroCells z.cells (grownCap w (s.len+m) cap e - (s.len+m))) e)->
   eP w1 ⟨some ⟨w.heap.size,0,none⟩,s.len+m,grownCap w (s.len+m) cap e⟩ e (vs++news) [w.heap.size] /\ Fr o w w1 /\ w.heap.size < w1.heap.size:=by
  intro cap w1 Ni
  subst Ni
  have iL:=grownCap_ge w (s.len+m) cap e
  refine⟨⟨by simp [gi,hl],.inr ⟨w.heap.size,0,(vs++news++(Builtin.zeroCells z.cells (grownCap w (s.len+m) cap e - (s.len+m))).toList),rfl,rfl,?_,iL,?_,?_⟩⟩,?_,by simp⟩
  ·have:=fz.alloc w.drew (vs++news++(Builtin.zeroCells z.cells (grownCap w (s.len+m) cap e - (s.len+m))).toList) e
   have e1:(vs++news++(Builtin.zeroCells z.cells (grownCap w (s.len+m) cap e - (s.len+m))).toList).toArray=vs.toArray++news.toArray++Builtin.zeroCells z.cells (grownCap w (s.len+m) cap e - (s.len+m)):=by
    apply agM;simp
   rw [e1] at this
   simp only [fz] at this ⊢
   exact this.trans (by rw [e1])
  ·simp [size_zeroCells,yU,gi,hl];omega
  ·simp only [ahv]
   rw [agT (by simp [gi,hl])]
  ·exact⟨rfl,rfl,rfl,by simp,fun k hk _=>Below.heap_alloc w.drew _ k hk⟩
 rcases h.2 with ⟨ha,oM,ya,ho⟩ | ⟨b,off,c,ha,ho,j7,dF,eY,cX⟩
 ·have IW:vs= []:=af7 (by omega)
  by_cases hm:m=0
  ·subst hm
   have Jr:news= []:=af7 hl
   subst Jr
   refine⟨s,w,?_,hK s w o (by simpa using h) (by simp) (.inl rfl) (Fr.refl _ _) (by simp [ha])⟩
   rw [ha,oM,ya]
   simp [Kd.inj,ha,oM,ya,Builtin.append_,run_underlying ht,sizeOf,typeInfo,hi,Builtin.lenOf,Builtin.firstCells,loadCells,loadCellsFrom]
  ·have hr:=run_append_nil (P:=P) w t ty e i z ht hi hz x m c' news (by rw [dw,agS];exact hl) kQ (by omega) (by omega) (by
    have:=hb;rw [oM,agH] at this;omega)
   obtain⟨g1,g2,g3⟩:=grown 0 _ rfl
   rw [oM,agH] at g1 g2 g3
   refine⟨⟨some ⟨w.heap.size,0,none⟩,m,grownCap w m 0 e⟩,_,?_,hK _ _ [w.heap.size] g1 (by simp [oM]) (.inr ⟨_,afV _,g3,rfl⟩) g2 (by simp)⟩
   rw [ha,oM,ya,hr]
   simp [Kd.inj,IW]
 ·subst ho
  by_cases kR:s.len+m<=s.cap
  ·have hf:=run_firstCells_some (P:=P) w 1 m x m c' news (by rw [agS];exact hl) kQ
   have bO:=run_storeCells_at P b (off+s.len) e news 0 c.toArray w j7 (by simp;omega) h1
   refine⟨⟨some ⟨b,off,none⟩,s.len+m,s.cap⟩,_,?_,hK _ (w.setRow b (c.take (off+s.len)++news++c.drop (off+s.len+news.length)).toArray) [b] ?_ rfl (.inl rfl) ?_ (by simp)⟩
   ·rw [ha]
    simp only [aho] at bO
    simp [Builtin.append_,run_underlying ht,sizeOf,typeInfo,hi,Builtin.lenOf,kR,dw,hf,Addr.aQ,bO,Kd.inj]
   ·refine⟨by simp [gi,hl],.inr ⟨b,off,_,rfl,rfl,setRow_heap w b c.toArray _ e _ j7,kR,by simp;omega,?_⟩⟩
    apply agd
    intro j
    rw [<-cX]
    simp only [agc,agn,agP,afw,afM,af4]
    have e1:min (off+s.len) c.length=off+s.len:=by omega
    have e2:min s.len (c.length - off)=s.len:=by omega
    rw [e1,e2]
    by_cases hj:j < s.len+m
    ·rw [if_pos hj,if_pos (by omega)]
     by_cases DR:j < s.len
     ·rw [if_pos (by omega),if_pos (by omega),if_pos (by omega),if_pos (by omega)]
     ·rw [if_neg (by omega),if_neg (by omega)]
      congr 1;omega
    ·rw [if_neg hj,if_neg (by omega)]
     symm
     apply af0
     omega
   ·exact⟨rfl,rfl,rfl,by simp,fun k _ hk=>setRow_other w b k _ (fun e=>hk (by simp [e]))⟩
  ·have holds: ∀j v,vs[j]? =some v->w.cell? ((⟨b,off,none⟩:Addr).add j)=some v:=by
    intro j v hj
    rw [Addr.aQ,j7.cell]
    rw [<-cX,agc] at hj
    split at hj
    ·rw [agn] at hj;exact hj
    ·cases hj
   have hr:=run_append_grow (P:=P) w t ty e i z ht hi hz ⟨b,off,none⟩ s.len s.cap vs (by rw [dw,agS];exact gi) holds x m c' news (by rw [dw,agS];exact hl) kQ (by omega) (by omega) (bW _ (by omega))
   obtain⟨g1,g2,g3⟩:=grown s.cap _ rfl
   refine⟨⟨some ⟨w.heap.size,0,none⟩,s.len+m,grownCap w (s.len+m) s.cap e⟩,_,?_,hK _ _ [w.heap.size] g1 rfl (.inr ⟨_,afV _,g3,rfl⟩) g2 (by simp)⟩
   rw [ha,hr]
   rfl
end append
theorem fE {P:Program} {t:TypeId} {z:Option Value} {n b:Nat} (h:(P.info? t).map (fun i=>(i.zero,i.size,i.bytes))=some (z,n,b)):
  ∃i,P.info? t=some i /\ i.zero=z /\ i.size=n /\ i.bytes=b:=by
 cases hi:P.info? t with
 | none=>simp [hi] at h
 | some i=>simp only [hi,agy,afy,agX] at h;exact⟨i,rfl,h⟩
theorem aB {n:Int} (h1: -9223372036854775808<=n) (h2:n<=9223372036854775807):IntKind.i64.wrap n=n:=by
 simp only [IntKind.wrap,IntKind.bits,IntKind.signed,agW,decide_eq_true_eq,ge_iff_le];split <;> omega
theorem qP (n:Int): -9223372036854775808<=IntKind.i64.wrap n:=by
 simp only [IntKind.wrap,IntKind.bits,IntKind.signed,agW,decide_eq_true_eq,ge_iff_le];split <;> omega
theorem qQ (n:Int):IntKind.i64.wrap n<=9223372036854775807:=by
 simp only [IntKind.wrap,IntKind.bits,IntKind.signed,agW,decide_eq_true_eq,ge_iff_le];split <;> omega
def Ww (d:TypeDesc) (a b:Value):Option Bool:=
 match d,a,b with
 | .int _,.int k a,.int k' b=>cond (decide (k=k')) (some (a ==b)) none
 | .bool,.bool a,.bool b=>some (a ==b)
 | .string,.string a,.string b=>some (a ==b)
 | _,_,_=>none
def DS (P:Program) (xs ys:Array Value):List Field->Option Bool
 | []=>some true
 | f :: r => cond (f.name == "_") none (match P.underlying f.type with
  | some d=>cond (lB d) none (match xs.toList[f.offset]?,ys.toList[f.offset]? with
   | some a,some b=>match Ww d a b,DS P xs ys r with
    | some r1,some r2=>some (r1 && r2)
    | _,_=>none
   | _,_=>none)
  | none=>none)
theorem Nj {P:Program} {w:World} {n:Nat} {t:TypeId} {d:TypeDesc} {a b:Value} {r:Bool} (hd:P.underlying t=some d) (h:Ww d a b=some r):(Op.equalIn (n+1) t a b).run P w=.ok r w:=by
 unfold Ww at h
 split at h
 ·rename_i k a k' b
  cases hk:decide (k=k') with
  | false=>rw [hk] at h;cases h
  | true=>
   rw [hk] at h
   obtain rfl:=of_decide_eq_true hk
   simp only [cond_true,afy] at h
   subst h
   simp [Op.equalIn,run_underlying hd]
 ·simp only [afy] at h;subst h;simp [Op.equalIn,run_underlying hd]
 ·simp only [afy] at h;subst h;simp [Op.equalIn,run_underlying hd]
 ·cases h
theorem ti {P:Program} {w:World} {n:Nat} {xs ys:Array Value}: ∀{fs:List Field} {r:Bool},DS P xs ys fs=some r->(Op.eqFields (n+1) xs ys fs).run P w=.ok r w
 | [],r,h=>by simp only [DS,afy] at h;subst h;simp [Op.eqFields]
 | f :: fs,r,h=>by
  simp only [DS] at h
  cases hn : f.name == "_" with
  | true=>rw [hn] at h;cases h
  | false=>
   rw [hn] at h
   simp only [cond_false] at h
   split at h
   ·rename_i d hd
    cases ha:lB d with
    | true=>rw [ha] at h;cases h
    | false=>
     rw [ha] at h
     simp only [cond_false] at h
     split at h
     ·rename_i a b hx hy
      split at h
      ·rename_i r1 r2 h1 h2
       simp only [afy] at h
       subst h
       have e1:=Nj (P:=P) (w:=w) (n:=n) hd h1
       have e2:=ti (w:=w) (n:=n) h2
       have p1:(part f.type xs f.offset).run P w=.ok a w:=by
        have:xs[f.offset]? =some a:=by simpa using hx
        simp [part,gR hd,ha,this]
       have p2:(part f.type ys f.offset).run P w=.ok b w:=by
        have:ys[f.offset]? =some b:=by simpa using hy
        simp [part,gR hd,ha,this]
       have aR : f.name ≠ "_" := by simpa using hn
       simp only [Op.eqFields,if_pos aR,hn,Sem.run_bind,p1,p2,Result.andThen_ok,e1]
       cases r1 <;> simp [e2]
      ·cases h
     ·cases h
   ·cases h
theorem LY {P:Program} {t:TypeId} {x y:Operand} {xs ys:Array Value} {r:Bool} {w:World} {K:Bool->Prop} (hg:P.eqGuardType P.depth t=false)
  (ht:P.underlying t=some (.struct (P.fieldsOf t))) (hp:P.stoodInHeld t=false) (h:DS P xs ys (P.fieldsOf t).toList=some r) (hK:K r):
  hZ .b P (cl .eql t x y (.agg xs) (.agg ys)) w K:=by
 refine⟨r,fun w' _=>?_,hK⟩
 have e:(Op.equal t (.agg xs) (.agg ys)).run P w'=.ok r w':=by
  show (Op.equalIn (9998+1+1) t (.agg xs) (.agg ys)).run P w'=_
  rw [run_equalIn_struct (P:=P) w' (9998+1) t xs ys ht hp]
  exact ti h
 unfold cl
 simp [eqGuard,hg,binOp,e,Kd.inj]
theorem Sg {P:Program} {t:TypeId} {x y:Operand} {xs ys:Array Value} {r:Bool} {w:World} {K:Bool->Prop} (hg:P.eqGuardType P.depth t=false)
  (ht:P.underlying t=some (.struct (P.fieldsOf t))) (hp:P.stoodInHeld t=false) (h:DS P xs ys (P.fieldsOf t).toList=some r) (hK:K (!r)):
  hZ .b P (cl .neq t x y (.agg xs) (.agg ys)) w K:=by
 refine⟨!r,fun w' _=>?_,hK⟩
 have e:(Op.equal t (.agg xs) (.agg ys)).run P w'=.ok r w':=by
  show (Op.equalIn (9998+1+1) t (.agg xs) (.agg ys)).run P w'=_
  rw [run_equalIn_struct (P:=P) w' (9998+1) t xs ys ht hp]
  exact ti h
 unfold cl
 simp [eqGuard,hg,binOp,e,Kd.inj]
end Go.Den
end

section
namespace Go.Den
open Go.RowKit
theorem aE {c:Prop} [Decidable c] {t e:Prop} (h:c) (ht:t):if c then t else e:=by rw [if_pos h];exact ht
theorem aF {c:Prop} [Decidable c] {t e:Prop} (h: ¬c) (he:e):if c then t else e:=by rw [if_neg h];exact he
section rows
variable {α:Type} {f:α->List Value} {n:Nat}
theorem iM (hf: ∀x,(f x).length=n) (l:List α):(l.flatMap f).length=l.length*n:=by
 induction l with
 | nil=>simp
 | cons x l ih=>simp [age,hf,ih,ahw,aim]
theorem pL (hf: ∀x,(f x).length=n) (l:List α) (k:Nat):(l.flatMap f).take (k*n)=(l.take k).flatMap f:=by
 induction l generalizing k with
 | nil=>simp
 | cons x l ih=>
  cases k with
  | zero=>simp
  | succ k=>
   have e1:(k+1)*n=n+k*n:=by rw [ahw,ah9,aim]
   rw [ah4,age,age,e1,<-ih,List.take_append,hf,agI]
   rw [afE (by rw [hf];omega)]
theorem pM (hf: ∀x,(f x).length=n) (l:List α) (k:Nat):(l.flatMap f).drop (k*n)=(l.drop k).flatMap f:=by
 induction l generalizing k with
 | nil=>simp
 | cons x l ih=>
  cases k with
  | zero=>simp
  | succ k=>
   have e1:(k+1)*n=n+k*n:=by rw [ahw,ah9,aim]
   rw [List.drop_succ_cons,age,e1,<-ih,List.drop_append,hf,agI]
   rw [agq (by rw [hf];omega),aga]
theorem By (hf: ∀x,(f x).length=n) {l:List α} {i j:Nat} {x:α} (hx:l[i]? =some x) (hj:j < n):(l.flatMap f)[i*n+j]? =(f x)[j]? :=by
 have e1:l.drop i=x :: l.drop (i+1):=by
  obtain⟨hi,rfl⟩:=aft.1 hx
  exact agf hi
 rw [<-agn,pM hf,e1,age,afx (by rw [hf];exact hj)]
theorem Nk (hf: ∀x,(f x).length=n) (l:List α) (i:Nat) (x:α) (hi:i < l.length):(l.set i x).flatMap f=(l.flatMap f).take (i*n)++f x++(l.flatMap f).drop ((i+1)*n):=by
 rw [pL hf,pM hf,ahI,if_pos hi]
 simp [af5]
end rows
def cA {α:Type} (w:World) (s:Sl) (e:TypeId) (n:Nat) (f:α->List Value) (l:List α) (o:List Nat):Prop:=
  l.length=s.len /\
  ((s.a=none /\ s.len=0 /\ s.cap=0 /\ o= []) \/
   ∃b off c,s.a=some ⟨b,off,none⟩ /\ o= [b] /\ fz w b e c /\ s.len<=s.cap /\ off+s.cap*n<=c.length /\ (c.drop off).take (s.len*n)=l.flatMap f)
section
variable {α:Type} {f:α->List Value} {n:Nat} {e:TypeId}
theorem cA.nil {w:World}:cA w ⟨none,0,0⟩ e n f [] []:=⟨rfl,.inl ⟨rfl,rfl,rfl,rfl⟩⟩
theorem cA.len {w:World} {s:Sl} {l:List α} {o:List Nat} (h:cA w s e n f l o):l.length=s.len:=h.1
theorem cA.lt {w:World} {s:Sl} {l:List α} {o:List Nat} (h:cA w s e n f l o): ∀k∈o,k < w.heap.size:=by
 rcases h.2 with ⟨_,_,_,rfl⟩ | ⟨b,off,c,_,rfl,hb,_⟩
 ·simp
 ·intro k hk;simp only [afF] at hk;subst hk;exact hb.lt
theorem cA.fr {S:List Nat} {w w':World} {s:Sl} {l:List α} {o:List Nat} (h:cA w s e n f l o) (hf:Fr S w w') (hn: ∀k∈o,k ∉ S):cA w' s e n f l o:=by
 refine⟨h.1,?_⟩
 rcases h.2 with h1 | ⟨b,off,c,h1,rfl,hb,h2⟩
 ·exact .inl h1
 ·exact .inr ⟨b,off,c,h1,rfl,hb.fr hf (hn b (by simp)),h2⟩
theorem cA.v7 {w:World} {b:Nat} {l:List α} {m:Nat} (hb:fz w b e (l.flatMap f)) (hm:l.length=m) (hf: ∀x,(f x).length=n):cA w ⟨some ⟨b,0,none⟩,m,m⟩ e n f l [b]:=by
 refine⟨hm,.inr ⟨b,0,_,rfl,rfl,hb,afV _,?_,?_⟩⟩
 ·rw [iM hf,hm];simp
 ·rw [ahv,afE];rw [iM hf,hm];exact afV _
theorem cA.ix (hf: ∀x,(f x).length=n) {w:World} {s:Sl} {l:List α} {o:List Nat} (h:cA w s e n f l o) {i:Int} {x:α} (hi:0<=i) (hx:l[i.toNat]? =some x) {K:Addr->Prop}
  (hK: ∀b off c,o= [b]->fz w b e c->off+n<=c.length->(∀j,j < n->c[off+j]? =(f x)[j]?)->
   (∀w' y,fz w' b e (c.take off++f y++c.drop (off+n))->cA w' s e n f (l.set i.toNat y) o)->K ⟨b,off,none⟩):
  Ix s.a s.len i n K:=by
 have ar:=(aft.1 hx).1
 have hl:=h.1
 refine⟨hi,by omega,?_⟩
 rcases h.2 with ⟨h1,h2,_⟩ | ⟨b,off,c,h1,ho,hb,h2,h3,h4⟩
 ·omega
 rw [h1]
 simp only [fq,Addr.aQ]
 have e1:(i.toNat+1)*n<=s.len*n:=agA _ (by omega)
 have e2:s.len*n<=s.cap*n:=agA _ h2
 rw [ahw,ah9] at e1
 refine hK b (off+i.toNat*n) c ho hb (by omega) ?_ ?_
 ·intro j hj
  rw [<-By hf hx hj,<-h4,agc,if_pos (by omega),agn,ahD]
 ·intro w' y iV
  refine⟨by simpa using hl,.inr ⟨b,off,_,h1,ho,iV,h2,?_,?_⟩⟩
  ·simp only [afw,afM,af4,hf];omega
  ·rw [Nk hf _ _ _ ar,<-h4]
   apply agd
   intro j
   have l1:(List.take (off+i.toNat*n) c).length=off+i.toNat*n:=by rw [afM];omega
   have l2:(List.take (i.toNat*n) (List.take (s.len*n) (List.drop off c))).length=i.toNat*n:=by simp only [afM,af4];omega
   simp only [agc,agn,agP,afw,l1,l2,hf]
   have e4:(i.toNat+1)*n=i.toNat*n+n:=by rw [ahw,ah9]
   rw [e4]
   by_cases hj:j < s.len*n
   ·rw [if_pos hj]
    by_cases c1:j < i.toNat*n
    ·rw [if_pos (by omega),if_pos (by omega),if_pos (by omega),if_pos (by omega),if_pos (by omega),if_pos (by omega),if_pos (by omega)]
    ·by_cases c2:j < i.toNat*n+n
     ·rw [if_pos (by omega),if_neg (by omega),if_pos (by omega),if_neg (by omega)]
      congr 1;omega
     ·rw [if_neg (by omega),if_neg (by omega),if_pos (by omega)]
      congr 1;omega
   ·rw [if_neg hj]
    rw [if_neg (by omega),if_neg (by omega)]
theorem cA.cut (hf: ∀x,(f x).length=n) {w:World} {s:Sl} {l:List α} {o:List Nat} (h:cA w s e n f l o) {a b m:Int} (h0:0<=a) (h1:a<=b) (h2:b<=m) (h3:m<=s.cap) (h4:b<=s.len) {K:Sl->Prop}
  (hK: ∀s',cA w s' e n f ((l.take b.toNat).drop a.toNat) o->s'.len=b.toNat - a.toNat->s'.cap=m.toNat - a.toNat->(s'.a=none↔s.a=none)->K s'):
  Cut s a b m n K:=by
 refine⟨h0,h1,h2,h3,hK _ ?_ rfl rfl ?_⟩
 ·have hl:=h.1
  refine⟨by simp;omega,?_⟩
  rcases h.2 with ⟨g1,g2,g3,rfl⟩ | ⟨k,off,c,g1,rfl,hb,g2,g3,g4⟩
  ·refine .inl ⟨?_,by simp;omega,by simp;omega,rfl⟩
   simp [g1]
  ·refine .inr ⟨k,if m.toNat=a.toNat then off else off+a.toNat*n,c,?_,rfl,hb,by simp;omega,?_,?_⟩
   ·simp only [g1,agy,Addr.aQ]
    split <;> rfl
   ·have e1:m.toNat*n<=s.cap*n:=agA _ (by omega)
    have e2:a.toNat*n<=m.toNat*n:=agA _ (by omega)
    have e3:(m.toNat - a.toNat)*n=m.toNat*n - a.toNat*n:=Nat.sub_mul _ _ _
    split
    ·rename_i Nl;simp only [Nl,af9,Nat.zero_mul];omega
    ·show off+a.toNat*n+(m.toNat - a.toNat)*n<=_;omega
   ·show List.take ((b.toNat - a.toNat)*n) _=_
    rw [<-pM hf,<-pL hf,<-g4,ah7]
    have e0:b.toNat*n<=s.len*n:=agA _ (by omega)
    rw [ahe e0]
    split
    ·rename_i Nl
     have e1:b.toNat=a.toNat:=by omega
     rw [e1,af9,Nat.zero_mul,List.take_zero,agq]
     rw [afM];omega
    ·rw [List.drop_take,agk,Nat.sub_mul]
 ·by_cases Nl:m.toNat=a.toNat
  ·simp [Nl]
  ·simp [Nl]
section append
variable {P:Program} {w:World}
theorem cA.app (hf: ∀x,(f x).length=n) {s:Sl} {t ty:TypeId} {i:TypeInfo} {z:Value} {l news:List α} {o:List Nat} {x:Addr} {m c':Nat} {K:Sl->World->Prop}
  (ht:P.underlying t=some (.slice e)) (hi:P.info? e=some i) (dw:i.size=n) (hz:i.zero=some z) (yU:z.cells.size=n)
  (h:cA w s e n f l o) (hl:news.length=m) (kQ: ∀j u,(news.flatMap f)[j]? =some u->w.cell? (x.add j)=some u) (h1: ∀u∈news.flatMap f,u.oneCell'=true)
  (hb:(s.len+m)*i.bytes<=140737488355328) (hn:s.len+m<=140737488355328)
  (hK: ∀s' w' o',cA w' s' e n f (l++news) o'->s'.len=s.len+m->(o'=o \/ ∃k,w.heap.size<=k /\ k < w'.heap.size /\ o'= [k])->(s.cap < s.len+m->o'≠ [] /\ ∀k∈o',w.heap.size<=k)->Fr o w w'->(s.cap < s.len+m->Fr [] w w')->(s.a≠none \/ m≠0->s'.a≠none)->K s' w'):
  bZ .sl P (Builtin.append_ #[t,t] ty #[.slice s.a s.len s.cap,.slice (some x) m c']) w K:=by
 have gi:=h.1
 have kF:(news.flatMap f).length=m*n:=by rw [iM hf,hl]
 have nH:(l.flatMap f).length=s.len*n:=by rw [iM hf,gi]
 have Bz: ∀a b:Nat,(a+b)*n=a*n+b*n:=fun a b=>ahw a b n
 have bW: ∀cap,cap < s.len+m->Builtin.nextslicecap (s.len+m) cap*i.bytes<=281474976710656:=fun cap hc=>growslice_fits hc hb
 have grown: ∀(cap:Nat) (w1:World),w1=w.drew.alloc (.cells ((l.flatMap f).toArray++(news.flatMap f).toArray++Builtin.zeroCells z.cells (grownCap w (s.len+m) cap e - (s.len+m))) e)->
   cA w1 ⟨some ⟨w.heap.size,0,none⟩,s.len+m,grownCap w (s.len+m) cap e⟩ e n f (l++news) [w.heap.size] /\ Fr [] w w1 /\ w.heap.size < w1.heap.size:=by
  intro cap w1 Ni
  subst Ni
  have iL:=grownCap_ge w (s.len+m) cap e
  have Nm:(s.len+m)*n<=grownCap w (s.len+m) cap e*n:=agA _ iL
  refine⟨⟨by simp [gi,hl],.inr ⟨w.heap.size,0,(l.flatMap f++news.flatMap f++(Builtin.zeroCells z.cells (grownCap w (s.len+m) cap e - (s.len+m))).toList),rfl,rfl,?_,iL,?_,?_⟩⟩,?_,by simp⟩
  ·have:=fz.alloc w.drew (l.flatMap f++news.flatMap f++(Builtin.zeroCells z.cells (grownCap w (s.len+m) cap e - (s.len+m))).toList) e
   have e1:(l.flatMap f++news.flatMap f++(Builtin.zeroCells z.cells (grownCap w (s.len+m) cap e - (s.len+m))).toList).toArray=(l.flatMap f).toArray++(news.flatMap f).toArray++Builtin.zeroCells z.cells (grownCap w (s.len+m) cap e - (s.len+m)):=by
    apply agM;simp
   rw [e1] at this
   simp only [fz] at this ⊢
   exact this.trans (by rw [e1])
  ·have e2:(grownCap w (s.len+m) cap e - (s.len+m))*n=grownCap w (s.len+m) cap e*n - (s.len+m)*n:=Nat.sub_mul _ _ _
   simp only [afw,ahO,size_zeroCells,yU,kF,nH]
   rw [e2,Bz] at*
   show 0+_*n<=_
   omega
  ·simp only [ahv,af5]
   rw [agT (by simp only [afw,kF,nH,Bz])]
  ·exact⟨rfl,rfl,rfl,by simp,fun k hk _=>Below.heap_alloc w.drew _ k hk⟩
 rcases h.2 with ⟨ha,oM,ya,ho⟩ | ⟨b,off,c,ha,ho,j7,dF,eY,cX⟩
 ·have IW:l= []:=af7 (by omega)
  by_cases hm:m=0
  ·subst hm
   have Jr:news= []:=af7 hl
   subst Jr
   refine⟨s,w,?_,hK s w o (by simpa using h) (by simp) (.inl rfl) (by omega) (Fr.refl _ _) (by omega) (by simp [ha])⟩
   rw [ha,oM,ya]
   simp [Kd.inj,ha,oM,ya,Builtin.append_,run_underlying ht,sizeOf,typeInfo,hi,Builtin.lenOf,Builtin.firstCells,loadCells,loadCellsFrom]
  ·have hr:=run_append_nil (P:=P) w t ty e i z ht hi hz x m c' (news.flatMap f) (by rw [dw];exact kF) kQ (by omega) (by omega) (by
    have:=hb;rw [oM,agH] at this;omega)
   obtain⟨g1,g2,g3⟩:=grown 0 _ rfl
   rw [oM,agH] at g1 g2 g3
   refine⟨⟨some ⟨w.heap.size,0,none⟩,m,grownCap w m 0 e⟩,_,?_,hK _ _ [w.heap.size] g1 (by simp [oM]) (.inr ⟨_,afV _,g3,rfl⟩) (fun _=>⟨by simp,by simp⟩) (g2.mono (by simp)) (fun _=>g2) (by simp)⟩
   rw [ha,oM,ya,hr]
   simp [Kd.inj,IW]
 ·subst ho
  have wU:s.len*n<=s.cap*n:=agA _ dF
  by_cases kR:s.len+m<=s.cap
  ·have Nn:s.len*n+m*n<=s.cap*n:=by rw [<-Bz];exact agA _ kR
   have vF:=run_firstCells_some (P:=P) w n m x m c' (news.flatMap f) kF kQ
   have bO:=run_storeCells_at P b (off+s.len*n) e (news.flatMap f) 0 c.toArray w j7 (by simp only [ah8,kF];omega) h1
   refine⟨⟨some ⟨b,off,none⟩,s.len+m,s.cap⟩,_,?_,hK _ (w.setRow b (c.take (off+s.len*n)++news.flatMap f++c.drop (off+s.len*n+(news.flatMap f).length)).toArray) [b] ?_ rfl (.inl rfl) (by omega) ?_ (by omega) (by simp)⟩
   ·rw [ha]
    simp only [aho] at bO
    simp [Builtin.append_,run_underlying ht,sizeOf,typeInfo,hi,Builtin.lenOf,kR,dw,vF,Addr.aQ,bO,Kd.inj]
   ·refine⟨by simp [gi,hl],.inr ⟨b,off,_,rfl,rfl,setRow_heap w b c.toArray _ e _ j7,kR,?_,?_⟩⟩
    ·simp only [afw,afM,af4,kF];omega
    apply agd
    intro j
    rw [af5,<-cX]
    simp only [agc,agn,agP,afw,afM,af4,kF,Bz]
    have e1:min (off+s.len*n) c.length=off+s.len*n:=by omega
    have e2:min (s.len*n) (c.length - off)=s.len*n:=by omega
    rw [e1,e2]
    by_cases hj:j < s.len*n+m*n
    ·rw [if_pos hj,if_pos (by omega)]
     by_cases DR:j < s.len*n
     ·rw [if_pos (by omega),if_pos (by omega),if_pos (by omega),if_pos (by omega)]
     ·rw [if_neg (by omega),if_neg (by omega)]
      congr 1;omega
    ·rw [if_neg hj,if_neg (by omega)]
     symm
     apply af0
     rw [kF];omega
   ·exact⟨rfl,rfl,rfl,by simp,fun k _ hk=>setRow_other w b k _ (fun e=>hk (by simp [e]))⟩
  ·have holds: ∀j v,(l.flatMap f)[j]? =some v->w.cell? ((⟨b,off,none⟩:Addr).add j)=some v:=by
    intro j v hj
    rw [Addr.aQ,j7.cell]
    rw [<-cX,agc] at hj
    split at hj
    ·rw [agn] at hj;exact hj
    ·cases hj
   have hr:=run_append_grow (P:=P) w t ty e i z ht hi hz ⟨b,off,none⟩ s.len s.cap (l.flatMap f) (by rw [dw];exact nH) holds x m c' (news.flatMap f) (by rw [dw];exact kF) kQ (by omega) (by omega) (bW _ (by omega))
   obtain⟨g1,g2,g3⟩:=grown s.cap _ rfl
   refine⟨⟨some ⟨w.heap.size,0,none⟩,s.len+m,grownCap w (s.len+m) s.cap e⟩,_,?_,hK _ _ [w.heap.size] g1 rfl (.inr ⟨_,afV _,g3,rfl⟩) (fun _=>⟨by simp,by simp⟩) (g2.mono (by simp)) (fun _=>g2) (by simp)⟩
   rw [ha,hr]
   rfl
end append
end
def cf {α:Type} (w:World) (s:Sl) (n:Nat) (f:α->List Value) (l:List α) (o:List Nat):Prop:=
  l.length=s.len /\
  ((s.len=0 /\ o= []) \/
   ∃x,s.a=some x /\ o= [x.block] /\ x.block < w.heap.size /\ ∀j u,(l.flatMap f)[j]? =some u->w.cell? (x.add j)=some u)
section
variable {α:Type} {f:α->List Value} {n:Nat} {e:TypeId}
theorem cf.nil {w:World} {s:Sl} (h:s.len=0):cf w s n f [] []:=⟨h.symm,.inl ⟨h,rfl⟩⟩
theorem cf.len {w:World} {s:Sl} {l:List α} {o:List Nat} (h:cf w s n f l o):l.length=s.len:=h.1
theorem cf.lt {w:World} {s:Sl} {l:List α} {o:List Nat} (h:cf w s n f l o): ∀k∈o,k < w.heap.size:=by
 rcases h.2 with ⟨_,rfl⟩ | ⟨x,_,rfl,hx,_⟩
 ·simp
 ·intro k hk;simp only [afF] at hk;subst hk;exact hx
theorem Addr.jh (x:Addr) (j:Nat):(x.add j).block=x.block:=by
 unfold Addr.add;split <;> rfl
theorem Fr.cell {S:List Nat} {w w':World} (hf:Fr S w w') {a:Addr} (h1:a.block < w.heap.size) (h2:a.block ∉ S):w'.cell? a=w.cell? a:=by
 unfold World.cell?
 rw [hf.block _ h1 h2]
theorem cf.fr {S:List Nat} {w w':World} {s:Sl} {l:List α} {o:List Nat} (h:cf w s n f l o) (hf:Fr S w w') (hn: ∀k∈o,k ∉ S):cf w' s n f l o:=by
 refine⟨h.1,?_⟩
 rcases h.2 with h1 | ⟨x,h1,rfl,hx,h2⟩
 ·exact .inl h1
 ·exact .inr ⟨x,h1,rfl,ahh hx hf.size,fun j u hj=>by
   rw [hf.cell (by rw [Addr.jh];exact hx) (by rw [Addr.jh];exact hn _ (by simp))];exact h2 j u hj⟩
theorem cf.isNil {w:World} {s:Sl} {l:List α} {o:List Nat} (h:cf w s n f l o) (hs:s.a=none):l= []:=by
 rcases h.2 with ⟨h1,_⟩ | ⟨x,h1,_⟩
 ·exact af7 (by rw [h.1,h1])
 ·rw [hs] at h1;cases h1
theorem cA.toR {w:World} {s:Sl} {l:List α} {o:List Nat} (h:cA w s e n f l o):cf w s n f l o:=by
 refine⟨h.1,?_⟩
 rcases h.2 with ⟨_,h1,_,h2⟩ | ⟨b,off,c,h1,ho,hb,h2,h3,h4⟩
 ·exact .inl ⟨h1,h2⟩
 ·refine .inr ⟨_,h1,ho,hb.lt,fun j u hj=>?_⟩
  rw [Addr.aQ,hb.cell]
  rw [<-h4,agc] at hj
  split at hj
  ·rw [agn] at hj;exact hj
  ·cases hj
theorem Addr.iu (x:Addr) (i j:Nat):(x.add i).add j=x.add (i+j):=by
 unfold Addr.add
 by_cases h1:i=0
 ·simp [h1]
 ·by_cases h2:j=0
  ·simp [h2]
  ·simp [h1,h2,ahD]
theorem cf.ix (hf: ∀x,(f x).length=n) {w:World} {s:Sl} {l:List α} {o:List Nat} (h:cf w s n f l o) {i:Int} {x:α} (hi:0<=i) (hx:l[i.toNat]? =some x) {K:Addr->Prop}
  (hK: ∀a,(∀j,j < n->w.cell? (a.add j)=(f x)[j]?)->K a):Ix s.a s.len i n K:=by
 have ar:=(aft.1 hx).1
 have hl:=h.1
 refine⟨hi,by omega,?_⟩
 rcases h.2 with ⟨h1,_⟩ | ⟨y,h1,ho,hy,h2⟩
 ·omega
 rw [h1]
 simp only [fq]
 refine hK _ fun j hj=>?_
 have e1:=By hf hx hj
 have e2:(f x)[j]? =some ((f x)[j]'(by rw [hf];exact hj)):=by simp
 rw [Addr.iu,e2]
 exact h2 _ _ (e1.trans e2)
section append
variable {P:Program} {w:World}
theorem cA.gY (hf: ∀x,(f x).length=n) {s s2:Sl} {t ty:TypeId} {i:TypeInfo} {z:Value} {l news:List α} {o o2:List Nat} {K:Sl->World->Prop}
  (ht:P.underlying t=some (.slice e)) (hi:P.info? e=some i) (dw:i.size=n) (hz:i.zero=some z) (yU:z.cells.size=n)
  (h:cA w s e n f l o) (h2:cf w s2 n f news o2) (h1: ∀x,∀u∈f x,u.oneCell'=true)
  (hb:(s.len+s2.len)*i.bytes<=140737488355328) (hn:s.len+s2.len<=140737488355328)
  (hK: ∀s' w' o',cA w' s' e n f (l++news) o'->s'.len=s.len+s2.len->(o'=o \/ ∃k,w.heap.size<=k /\ k < w'.heap.size /\ o'= [k])->(s.cap < s.len+s2.len->o'≠ [] /\ ∀k∈o',w.heap.size<=k)->Fr o w w'->(s.cap < s.len+s2.len->Fr [] w w')->(s.a≠none \/ s2.len≠0->s'.a≠none)->K s' w'):
  bZ .sl P (Builtin.append_ #[t,t] ty #[.slice s.a s.len s.cap,.slice s2.a s2.len s2.cap]) w K:=by
 rcases h2.2 with ⟨oM,ho⟩ | ⟨x,ha,ho,_,fy⟩
 ·have Jr:news= []:=af7 (by rw [h2.1,oM])
  subst Jr
  refine⟨s,w,?_,hK s w o (by simpa using h) (by omega) (.inl rfl) (fun hc=>?_) (Fr.refl _ _) (fun _=>Fr.refl _ _) (by simp [oM])⟩
  ·rcases h.2 with ⟨ga,Wx,Wy,go⟩ | ⟨b,off,c,ga,go,gbk,Si,Wz,gtk⟩
   ·rw [oM,ga,Wx,Wy]
    cases s2.a <;> simp [Kd.inj,ga,Wx,Wy,Builtin.append_,run_underlying ht,sizeOf,typeInfo,hi,Builtin.lenOf,Builtin.firstCells,loadCells,loadCellsFrom]
   ·rw [oM,ga]
    cases s2.a <;> simp [Kd.inj,ga,Si,Builtin.append_,run_underlying ht,sizeOf,typeInfo,hi,Builtin.lenOf,Builtin.firstCells,storeCells,loadCells,loadCellsFrom]
  ·rcases h.2 with ⟨ga,Wx,Wy,go⟩ | ⟨b,off,c,ga,go,gbk,Si,Wz,gtk⟩ <;> omega
 ·rw [ha]
  exact cA.app hf ht hi dw hz yU h h2.1 fy (fun u hu=>by
   obtain⟨x,_,hu⟩:=ag0.1 hu
   exact h1 x u hu) hb hn hK
end append
end
theorem Addr.ou {w:World} {a:Addr} {v:Value} (h:w.cell? (a.add 0)=some v):w.cell? a=some v:=by
 obtain⟨b,o,sp⟩:=a
 cases sp with
 | none=>simpa [Addr.add] using h
 | some m=>simpa [Addr.add] using h
theorem j8 {k:Kd} {w:World} {a:Addr} {x:k.T} {K:k.T->Prop} {j:Nat} {c:List Value} (h:w.cell? (a.add j)=c[j]?) (hx:c[j]? =some (k.inj x)) (hK:K x):Ld k w (a.add j) K:=
 ⟨x,h.trans hx,hK⟩
theorem ep {k:Kd} {w:World} {a:Addr} {x:k.T} {K:k.T->Prop} {c:List Value} (h:w.cell? (a.add 0)=c[0]?) (hx:c[0]? =some (k.inj x)) (hK:K x):Ld k w a K:=
 ⟨x,Addr.ou (h.trans hx),hK⟩
theorem sto {w:World} {b o n:Nat} {e:TypeId} {c:List Value} {v:Value} {K:World->Prop} (h:fz w b e c) (ho:o+n < c.length) (hv:v.oneCell'=true)
  (hK: ∀w',fz w' b e (c.set (o+n) v)->Fr [b] w w'->w'.heap.size=w.heap.size->K w'):St ((⟨b,o,none⟩:Addr).add n) v w K:=by
 rw [Addr.aQ]
 exact st h ho hv hK
end Go.Den
end

section
namespace Go.Den
open Go.RowKit
theorem BA {P:Program} {f:FuncId} {args:List Value} {w:World} (h:av P f args [.one .b] w (fun b w'=>b=true /\ Fr [] w w')):
  Calls P f args.toArray w fun e w'=>e=.returned (.bool true) /\ Below w.heap.size w w':=by
 refine Calls.mono h fun e w' h=>?_
 obtain⟨v,rfl,hv⟩:=h
 obtain⟨x,rfl,rfl,hf⟩: ∃x,v=Value.bool x /\ x=true /\ Fr [] w w':=by
  have No:Kd.view .b v (fun x=>x=true /\ Fr [] w w'):=hv
  cases v with
  | bool x=>exact⟨x,rfl,No.1,No.2⟩
  | _=>exact No.elim
 exact⟨rfl,hf.below⟩
end Go.Den
end

section
namespace Go.Den
open Go.RowKit
mutual
def dZ {H:Type}:DataW H->Nat
 | .lit (.string bytes)=>bytes.length+1
 | .lit _=>1
 | .nil=>1
 | .ptr d=>dZ d+1
 | .slice elems spare=>dO elems+dO spare+1
 | .agg parts=>dO parts+1
 | .iface _ d=>dZ d+1
 | .map entries=>gx entries+1
 | .held _=>1
def dO {H:Type}:List (DataW H)->Nat
 | []=>0
 | d :: r=>dZ d+dO r
def gx {H:Type}:List (Lit×DataW H)->Nat
 | []=>0
 | x :: r=>oN x+gx r
def oN {H:Type}:Lit×DataW H->Nat
  | (.string bytes,d)=>bytes.length+dZ d+1
  | (_,d)=>dZ d+1
 end
theorem nL {H:Type} {d:DataW H}: ∀{l:List (DataW H)},d∈l->dZ d<=dO l
 | x :: l,h=>by
  rcases af1.1 h with rfl | h
  ·simp only [dO];omega
  ·have:=nL h
   simp only [dO];omega
theorem DT {H:Type} (d:DataW H):1<=dZ d:=by
 cases d with
 | lit l=>cases l <;> simp [dZ]
 | _=>simp [dZ]
theorem wV {H:Type}: ∀l:List (DataW H),l.length<=dO l
 | []=>by simp [dO]
 | d :: l=>by
  have:=wV l
  have:=DT d
  simp only [dO,af6];omega
def tj (P:Program) (w:World) (B:Nat):Nat->TypeId->List Value->Prop
 | 0,_,_=>False
 | n+1,t,cs=>match P.underlying t with
  | some .bool=> ∃b,cs= [.bool b]
  | some (.int k)=> ∃m,cs= [.int k m] /\ (Lit.int k m).wf=true
  | some .string=> ∃s:ByteArray,cs= [.string s] /\ s.size<=reachBytes /\ s.size<=B
  | some (.slice e)=>cs= [.slice none 0 0] \/ ∃a len cap,cs= [.slice (some a) len cap] /\ len<=cap /\ len*P.bytesOf e<=reachBytes /\ len<=B /\
    ∀i,i < len-> ∃ci:List Value,ci.length=P.cellsOf e /\ (∀j,j < P.cellsOf e->w.cell? ((a.add (i*P.cellsOf e)).add j)=ci[j]?) /\ tj P w B n e ci
  | some (.struct fs)=>cs.length=P.cellsOf t /\ ∀(i:Nat) (f:Field),fs[i]? =some f->tj P w B n f.type ((cs.drop f.offset).take (P.cellsOf f.type))
  | some (.array m e)=>cs.length=P.cellsOf t /\ ∀i,i < m->tj P w B n e ((cs.drop (i*P.cellsOf e)).take (P.cellsOf e))
  | _=>True
section
variable {H:Type} {enc:TypeId×Value->H} {P:Program} {w:World} {base:Nat} {spare:Nat->Bool} {held:Bool}
theorem mM {e:TypeId} {d:DataW H} {k:Nat}: ∀{l:List (DataW H)},d∈l->k∈d.weights P e->k∈DataW.weightsAll P e l
 | x :: l,h,hk=>by
  simp only [DataW.weightsAll,afB]
  rcases af1.1 h with rfl | h
  ·exact .inl hk
  ·exact .inr (mM h hk)
theorem uj (B:Nat): ∀(n:Nat) (t:TypeId) (cs:List Value) (d:DataW H) (ps:List MemPlace),DataW.trod enc P w base spare held n t cs=some (d,ps)->(∀k∈d.weights P t,k<=reachBytes)->(maxLen<=B \/ dZ d<=B)->tj P w B n t cs
 | 0,t,cs,d,ps,h,_,_=>by simp [DataW.trod] at h
 | n+1,t,cs,d,ps,h,hw,hb=>by
  have ih:=uj B n
  unfold tj
  split
  ·rename_i hu
   obtain⟨b,h1,_⟩:=DataW.trod_bool hu h
   exact⟨b,h1⟩
  ·rename_i k hu
   obtain⟨m,h1,_,h2⟩:=DataW.trod_int hu h
   exact⟨m,h1,h2⟩
  ·rename_i hu
   obtain⟨s,h1,h2,h3⟩:=DataW.trod_string hu h
   simp only [agX] at h2
   obtain⟨rfl,_⟩:=h2
   have hl:s.data.toList.length=s.size:=by rw [ahO];rfl
   refine⟨s,h1,?_,?_⟩
   ·have:=hw s.data.toList.length (by unfold DataW.weights;exact afF.2 rfl)
    rw [hl] at this;exact this
   ·rcases hb with hb | hb
    ·exact ag3 h3 hb
    ·simp only [dZ] at hb;rw [hl] at hb;omega
  ·rename_i e hu
   rcases DataW.trod_slice hu h with ⟨h1,_⟩ | ⟨a,len,cap,elems,rest,m,hm,h1,h2,zp,hl,hc,hlen,Fc,_⟩
   ·exact .inl h1
   ·obtain rfl:m=n:=by omega
    simp only [agX] at h2
    obtain⟨rfl,_⟩:=h2
    refine .inr ⟨a,len,cap,h1,hl,?_,?_,?_⟩
    ·have:=hw ((elems.map (·.1)).length+(rest.map (·.1)).length |>(· *P.bytesOf e)) (by simp [DataW.weights,hu])
     simp only [afP] at this
     have h3:len*P.bytesOf e<=(elems.length+rest.length)*P.bytesOf e:=agA _ (by omega)
     exact ag3 h3 this
    ·rcases hb with hb | hb
     ·omega
     ·simp only [dZ] at hb
      have:=wV (elems.map (·.1))
      simp only [afP] at this
      omega
    ·intro i hi
     have h3:=Fc i hi
     have h4:elems[i]? =some elems[i]:=afD (by omega)
     rw [h4,Option.bind_eq_some_iff] at h3
     obtain⟨ci,hci,hd⟩:=h3
     obtain⟨_,k1,k2⟩:=World.cells?_some hci
     have cP:(elems[i]).1∈elems.map (·.1):=afQ.2 ⟨_,afR _,rfl⟩
     refine⟨ci,k1,k2,ih e ci (elems[i]).1 (elems[i]).2 hd (fun k hk=>hw k ?_) ?_⟩
     ·simp only [DataW.weights,hu,af1,afB]
      exact .inr (.inl (mM cP hk))
     ·refine hb.imp id fun hb=>?_
      have:=nL cP
      simp only [dZ] at hb
      omega
  ·rename_i fs hu
   obtain⟨xs,m,hm,hx,hl,kS,hf⟩:=DataW.trod_struct hu h
   obtain rfl:m=n:=by omega
   simp only [agX] at hx
   obtain⟨rfl,_⟩:=hx
   refine⟨hl,fun i f hi=>?_⟩
   have ar:=(afL.1 hi).1
   have h3:=hf i f hi
   have h4:xs[i]? =some xs[i]:=afD (by omega)
   rw [h4] at h3
   have cP:(xs[i]).1∈xs.map (·.1):=afQ.2 ⟨_,afR _,rfl⟩
   refine ih f.type _ (xs[i]).1 (xs[i]).2 h3 (fun k hk=>hw k ?_) (hb.imp id fun hb=>?_)
   ·simp only [DataW.weights,hu]
    exact DataW.weights_mem_each (j:=i) (t:=f.type) (d:=(xs[i]).1) (by simp [hi]) (by simp [show i < xs.length by omega]) k hk
   ·have:=nL cP
    simp only [dZ] at hb
    omega
  ·rename_i m' e hu
   obtain⟨xs,m,hm,hx,hl,kS,hf⟩:=DataW.trod_array hu h
   obtain rfl:m=n:=by omega
   simp only [agX] at hx
   obtain⟨rfl,_⟩:=hx
   refine⟨hl,fun i hi=>?_⟩
   have h3:=hf i hi
   have h4:xs[i]? =some xs[i]:=afD (by omega)
   rw [h4] at h3
   have cP:(xs[i]).1∈xs.map (·.1):=afQ.2 ⟨_,afR _,rfl⟩
   refine ih e _ (xs[i]).1 (xs[i]).2 h3 (fun k hk=>hw k ?_) (hb.imp id fun hb=>?_)
   ·simp only [DataW.weights,hu]
    exact mM cP hk
   ·have:=nL cP
    simp only [dZ] at hb
    omega
  ·trivial
variable {B n:Nat} {t:TypeId} {cs:List Value}
theorem Np {k:IntKind} (hu:P.underlying t=some (.int k)) (h:tj P w B n t cs): ∃m,cs= [.int k m] /\ (Lit.int k m).wf=true:=by
 cases n with
 | zero=>exact h.elim
 | succ n=>unfold tj at h;rw [hu] at h;exact h
theorem wW (hu:P.underlying t=some .string) (h:tj P w B n t cs): ∃s:ByteArray,cs= [.string s] /\ s.size<=reachBytes /\ s.size<=B:=by
 cases n with
 | zero=>exact h.elim
 | succ n=>unfold tj at h;rw [hu] at h;exact h
theorem DU {fs:Array Field} (hu:P.underlying t=some (.struct fs)) (h:tj P w B n t cs):cs.length=P.cellsOf t /\ ∃m,∀(i:Nat) (f:Field),fs[i]? =some f->tj P w B m f.type ((cs.drop f.offset).take (P.cellsOf f.type)):=by
 cases n with
 | zero=>exact h.elim
 | succ n=>unfold tj at h;rw [hu] at h;exact⟨h.1,n,h.2⟩
theorem zq {fs:Array Field} {m:Nat} (h: ∀(i:Nat) (f:Field),fs[i]? =some f->tj P w B m f.type ((cs.drop f.offset).take (P.cellsOf f.type))) (i:Nat) {ft off sz:Nat} (hi:(fs[i]?).map (fun f=>(f.type,f.offset))=some (ft,off)) (hs:P.cellsOf ft=sz):
  tj P w B m ft ((cs.drop off).take sz):=by
 rw [af2] at hi
 obtain⟨f,h1,h2⟩:=hi
 simp only [agX] at h2
 obtain⟨rfl,rfl⟩:=h2
 subst hs
 exact h i f h1
theorem um {α:Type} {f:α->List Value} {nn e:Nat} {G:α->Prop} (hu:P.underlying t=some (.slice e)) (hc:P.cellsOf e=nn) (Jr:0 < nn) (Fc: ∀m ci,ci.length=nn->tj P w B m e ci-> ∃x,ci=f x /\ G x) (h:tj P w B n t cs):
  ∃(s:Sl) (l:List α) (o:List Nat),cs= [.slice s.a s.len s.cap] /\ cf w s nn f l o /\ (∀x∈l,G x) /\ l.length*P.bytesOf e<=reachBytes /\ l.length<=B /\ s.len<=s.cap:=by
 cases n with
 | zero=>exact h.elim
 | succ n=>
  unfold tj at h
  rw [hu] at h
  rcases h with rfl | ⟨a,len,cap,rfl,h1,h2,h3,h4⟩
  ·exact⟨⟨none,0,0⟩,[],[],rfl,cf.nil rfl,by simp,by simp,by simp,afV _⟩
  ·rw [hc] at h4
   have hx: ∀i,i < len-> ∃x:α,(∀j,j < nn->w.cell? ((a.add (i*nn)).add j)=(f x)[j]?) /\ (f x).length=nn /\ G x:=by
    intro i hi
    obtain⟨ci,k1,k2,k3⟩:=h4 i hi
    obtain⟨x,rfl,hg⟩:=Fc n ci k1 k3
    exact⟨x,k2,k1,hg⟩
   -- the list of them
   have build: ∀k,k<=len-> ∃l:List α,l.length=k /\ ∀i,i < k-> ∃x,l[i]? =some x /\ (∀j,j < nn->w.cell? ((a.add (i*nn)).add j)=(f x)[j]?) /\ (f x).length=nn /\ G x:=by
    intro k
    induction k with
    | zero=>intro _;exact⟨[],rfl,by intro i hi;omega⟩
    | succ k ih=>
     intro hk
     obtain⟨l,q1,q2⟩:=ih (by omega)
     obtain⟨x,q3⟩:=hx k (by omega)
     refine⟨l++ [x],by simp [q1],fun i hi=>?_⟩
     by_cases Fa:i < k
     ·obtain⟨y,r1,r2⟩:=q2 i Fa
      exact⟨y,by rw [afx (by omega)];exact r1,r2⟩
     ·obtain rfl:i=k:=by omega
      exact⟨x,by rw [afv (by omega),q1,af9];rfl,q3⟩
   obtain⟨l,q1,q2⟩:=build len (afV _)
   have hG: ∀x∈l,(f x).length=nn /\ G x:=by
    intro x hx
    obtain⟨i,hi⟩:=afT hx
    obtain⟨y,r1,_,r3,r4⟩:=q2 i (by have:=(aft.1 hi).1;omega)
    obtain rfl:=afK (hi.symm.trans r1)
    exact⟨r3,r4⟩
   refine⟨⟨some a,len,cap⟩,l,if len=0 then [] else [a.block],rfl,⟨q1,?_⟩,fun x hx=>(hG x hx).2,by rw [q1];exact h2,by rw [q1];exact h3,h1⟩
   by_cases h0:len=0
   ·exact .inl ⟨h0,by rw [if_pos h0]⟩
   ·refine .inr ⟨a,rfl,by rw [if_neg h0],?_,?_⟩
    ·obtain⟨y,r1,r2,r3,_⟩:=q2 0 (by omega)
     have:=r2 0 Jr
     rw [afD (by omega)] at this
     have:=World.block_lt_of_cell? w _ this
     rwa [Addr.jh,Addr.jh] at this
    ·-- cells of all elements
     have key: ∀(l':List α) (k:Nat),(∀x∈l',(f x).length=nn)->(∀i x,l'[i]? =some x-> ∀j,j < nn->w.cell? ((a.add ((k+i)*nn)).add j)=(f x)[j]?)-> ∀j u,(l'.flatMap f)[j]? =some u->w.cell? (a.add (k*nn+j))=some u:=by
      intro l'
      induction l' with
      | nil=>intro k _ _ j u hj;simp at hj
      | cons x l' ih=>
       intro k hlen fy j u hj
       rw [age] at hj
       by_cases Js:j < nn
       ·rw [afx (by rw [hlen x (by simp)];exact Js)] at hj
        have:=fy 0 x rfl j Js
        rw [aho,Addr.iu] at this
        rw [this];exact hj
       ·rw [afv (by rw [hlen x (by simp)];omega),hlen x (by simp)] at hj
        have:=ih (k+1) (fun y hy=>hlen y (by simp [hy])) (fun i y hy j hj=>by
         have:=fy (i+1) y (by simpa using hy) j hj
         rwa [show k+(i+1)=k+1+i by omega] at this) (j - nn) u hj
        rw [show (k+1)*nn+(j - nn)=k*nn+j by rw [ahw,ah9];omega] at this
        exact this
     intro j u hj
     have:=key l 0 (fun x hx=>(hG x hx).1) (fun i x hi j hj=>by
      obtain⟨y,r1,r2,_⟩:=q2 i (by have:=(aft.1 hi).1;omega)
      obtain rfl:=afK (hi.symm.trans r1)
      rw [agH];exact r2 j hj) j u hj
     simpa using this
end
end Go.Den
end
