/-
  Part 1 of the proof:WorldLoads of layer 6 is true of the given program for every input that its guards let in (of bulk at most 1048576).
-/
import Derived.WalkKit
import Derived.StillTail
import Derived.KernelRfl
import Derived.Laws.BytesArg
import Derived.Deep.LoopGhost
import Derived.OrdersHeld
set_option linter.unusedSimpArgs false
set_option linter.unusedVariables false
set_option maxRecDepth 100000
namespace Go.Den
abbrev aft := @List.getElem?_eq_some_iff
abbrev afu := @Int.toNat_natCast
abbrev afv := @List.getElem?_append_right
abbrev afw := @List.length_append
abbrev afx := @List.getElem?_append_left
abbrev afy := @Option.some.injEq
abbrev afz := @List.mem_of_getElem?
abbrev afA := @List.append_assoc
abbrev afB := @List.mem_append
abbrev afC := @List.getElem?_map
abbrev afD := @List.getElem?_eq_getElem
abbrev afE := @List.take_of_length_le
abbrev afF := @List.mem_singleton
abbrev afG := @List.take_succ_eq_append_getElem
abbrev afH := @List.append_nil
abbrev afI := @List.set_append_right
abbrev afJ := @List.getElem?_cons_zero
abbrev afK := @Option.some.inj
abbrev afL := @Array.getElem?_eq_some_iff
abbrev afM := @List.length_take
abbrev afN := @List.set_cons_zero
abbrev afO := @List.getD_eq_getElem?_getD
abbrev afP := @List.length_map
abbrev afQ := @List.mem_map
abbrev afR := @List.getElem_mem
abbrev afS := @Nat.eq_of_beq_eq_true
abbrev afT := @List.getElem?_of_mem
abbrev afU := @List.getElem?_concat_length
abbrev afV := @Nat.le_refl
abbrev afW := @Bool.and_eq_true
abbrev afX := @List.getElem?_set_self
abbrev afY := @List.getElem?_set_ne
abbrev afZ := @List.set_cons_succ
abbrev af0 := @List.getElem?_eq_none
abbrev af1 := @List.mem_cons
abbrev af2 := @Option.map_eq_some_iff
abbrev af3 := @List.cons_append
abbrev af4 := @List.length_drop
abbrev af5 := @List.flatMap_append
abbrev af6 := @List.length_cons
abbrev af7 := @List.eq_nil_of_length_eq_zero
abbrev af8 := @List.getElem?_cons_succ
abbrev af9 := @Nat.sub_self
abbrev aga := @List.nil_append
abbrev agb := @Bool.not_eq_true'
abbrev agc := @List.getElem?_take
abbrev agd := @List.ext_getElem?
abbrev age := @List.flatMap_cons
abbrev agf := @List.drop_eq_getElem_cons
abbrev agh := @List.map_append
abbrev agi := @List.length_set
abbrev agj := @Nat.testBit_or
abbrev agk := @List.drop_drop
abbrev agl := @List.map_cons
abbrev agm := @List.getElem?_set
abbrev agn := @List.getElem?_drop
abbrev ago := @List.nodup_append
abbrev agp := @List.take_append_drop
abbrev agq := @List.drop_of_length_le
abbrev agr := @Int.le_refl
abbrev ags := @List.nodup_cons
abbrev agt := @Nat.testBit_two_pow
abbrev agu := @Bool.or_eq_true
abbrev agv := @List.mem_filter
abbrev agw := @List.all_eq_true
abbrev agx := @List.set_append_left
abbrev agy := @Option.map_some
abbrev agz := @List.set_set
abbrev agA := @Nat.mul_le_mul_right
abbrev agB := @List.findIdx?_eq_some_iff_getElem
abbrev agC := @List.mem_range
abbrev agD := @Bool.false_eq_true
abbrev agE := @List.nodup_iff_pairwise_ne
abbrev agF := @List.getElem?_inj
abbrev agG := @List.drop_set_of_lt
abbrev agH := @Nat.zero_add
abbrev agI := @Nat.add_sub_cancel_left
abbrev agJ := @List.take_length
abbrev agK := @Prod.mk.inj
abbrev agL := @Option.isSome_iff_exists
abbrev agM := @Array.ext'
abbrev agN := @List.length_replicate
abbrev agO := @List.replicate_succ
abbrev agP := @List.getElem?_append
abbrev agQ := @List.mem_iff_getElem
abbrev agR := @List.map_set
abbrev agS := @Nat.mul_one
abbrev agT := @List.take_left'
abbrev agU := @List.length_nil
abbrev agV := @List.getElem?_range
abbrev agW := @Bool.true_and
abbrev agX := @Prod.mk.injEq
abbrev agY := @Nat.eq_zero_or_pos
abbrev agZ := @List.mem_append_left
abbrev ag0 := @List.mem_flatMap
abbrev ag1 := @Nat.pow_le_pow_right
abbrev ag2 := @List.mem_of_mem_drop
abbrev ag3 := @Nat.le_trans
abbrev ag4 := @Int.fdiv_eq_ediv_of_nonneg
abbrev ag5 := @List.take_add_one
abbrev ag6 := @List.eq_nil_iff_forall_not_mem
abbrev ag7 := @List.mem_of_find?_eq_some
abbrev ag8 := @Array.getElem?_eq_getElem
abbrev ag9 := @Option.getD_some
abbrev aha := @List.not_mem_nil
abbrev ahb := @Bool.not_false
abbrev ahc := @List.mem_cons_of_mem
abbrev ahd := @List.getElem?_replicate
abbrev ahe := @Nat.min_eq_left
abbrev ahf := @List.mem_map_of_mem
abbrev ahg := @Prod.ext
abbrev ahh := @Nat.lt_of_lt_of_le
abbrev ahi := @List.length_singleton
abbrev ahj := @List.mem_append_right
abbrev ahk := @Int.natCast_nonneg
abbrev ahl := @List.pairwise_iff_getElem
abbrev ahm := @List.findIdx?_eq_none_iff
abbrev ahn := @List.foldl_cons
abbrev aho := @Nat.add_zero
abbrev ahp := @Nat.eq_of_testBit_eq
abbrev ahq := @List.map_nil
abbrev ahr := @List.cons.injEq
abbrev ahs := @List.find?_cons
abbrev aht := @List.length_range
abbrev ahu := @List.map_congr_left
abbrev ahv := @List.drop_zero
abbrev ahw := @Nat.add_mul
abbrev ahx := @List.flatMap_replicate
abbrev ahy := @List.map_map
abbrev ahz := @Nat.or_assoc
abbrev ahA := @List.pairwise_cons
abbrev ahB := @Nat.le_of_ble_eq_true
abbrev ahC := @Array.getElem?_toList
abbrev ahD := @Nat.add_assoc
abbrev ahE := @Int.tmod_eq_emod_of_nonneg
abbrev ahF := @Bool.or_eq_false_iff
abbrev ahG := @List.replicate_succ'
abbrev ahH := @List.mem_of_mem_take
abbrev ahI := @List.set_eq_take_append_cons_drop
abbrev ahJ := @List.drop_left
abbrev ahK := @List.any_eq_true
abbrev ahL := @List.filter_cons
abbrev ahM := @List.idxOf_lt_length_iff
abbrev ahN := @List.drop_length
abbrev ahO := @Array.length_toList
abbrev ahP := @List.eraseIdx_cons_succ
abbrev ahQ := @List.length_eq_zero_iff
abbrev ahR := @List.find?_some
abbrev ahS := @List.find?_eq_none
abbrev ahT := @BitVec.toNat_ofInt
abbrev ahU := @List.getElem_cons_zero
abbrev ahV := @List.pairwise_map
abbrev ahW := @Decidable.not_not
abbrev ahX := @List.Pairwise.imp
abbrev ahY := @Nat.lt_or_ge
abbrev ahZ := @List.length_filter_le
abbrev ah0 := @List.eraseIdx_sublist
abbrev ah1 := @Array.getD_eq_getD_getElem?
abbrev ah2 := @Bool.not_true
abbrev ah3 := @List.map_take
abbrev ah4 := @List.take_succ_cons
abbrev ah5 := @List.mem_or_eq_of_mem_set
abbrev ah6 := @List.mem_filterMap
abbrev ah7 := @List.take_take
abbrev ah8 := @List.size_toArray
abbrev ah9 := @Nat.one_mul
abbrev aia := @List.length_pos_of_mem
abbrev aib := @Option.map_eq_none_iff
abbrev aic := @List.getElem?_eraseIdx
abbrev aid := @Bool.false_or
abbrev aie := @List.set_comm
abbrev aif := @Array.toList_map
abbrev aih := @Nat.lt_of_not_le
abbrev aii := @List.nodup_range
abbrev aij := @List.flatMap_nil
abbrev aik := @Array.getElem?_modify
abbrev ail := @Array.contains_eq_mem
abbrev aim := @Nat.add_comm
abbrev ain := @Nat.two_pow_pos
end Go.Den
section
namespace Go.Den
structure Sl where
 a:Option Addr
 len:Nat
 cap:Nat
def Sl.v (s:Sl):Value:=.slice s.a s.len s.cap
inductive Kd where
 | i (k:IntKind) | b | s | p | sl | m | v
abbrev Kd.T:Kd->Type
 | .i _=>Int | .b=>Bool | .s=>ByteArray | .p=>Option Addr | .sl=>Sl | .m=>Option Nat | .v=>Value
def Kd.inj:(k:Kd)->k.T->Value
 | .i k,n=>.int k n
 | .b,x=>.bool x
 | .s,x=>.string x
 | .p,x=>.pointer x
 | .sl,x=>.slice x.a x.len x.cap
 | .m,x=>.map x
 | .v,x=>x
def Kd.view:(k:Kd)->Value->(k.T->Prop)->Prop
 | .i k,.int k' n,f=>cond (decide (k'=k)) (f n) False
 | .b,.bool x,f=>f x
 | .s,.string x,f=>f x
 | .p,.pointer x,f=>f x
 | .sl,.slice a n c,f=>f ⟨a,n,c⟩
 | .m,.map x,f=>f x
 | .v,x,f=>f x
 | _,_,_=>False
theorem Kd.CO {k:Kd} {v:Value} {f:k.T->Prop} (h:k.view v f): ∃x,v=k.inj x /\ f x:=by
  cases k <;> cases v <;> simp only [Kd.view] at h <;> first
    | exact h.elim
    | exact⟨_,rfl,h⟩
    | (rename_i k k' n
       cases hk:decide (k'=k) with
       | true=>rw [hk] at h;obtain rfl:=of_decide_eq_true hk;exact⟨_,rfl,h⟩
       | false=>rw [hk] at h;exact h.elim)
theorem Kd.y8 {k:Kd} (x:k.T) (f:k.T->Prop):k.view (k.inj x) f=f x:=by
 cases k <;> simp [Kd.view,Kd.inj]
def Fn:List Kd->Type->Type
 | [],R=>R
 | k :: ks,R=>k.T->Fn ks R
def kI {R:Type}:(ks:List Kd)->List Value->(R->Prop)->Fn ks R->Prop
 | [],[],f,g=>f g
 | k :: ks,v :: vs,f,g=>k.view v fun x=>kI ks vs f (g x)
 | _,_,_,_=>False
def I6 {R:Type}:(ks:List Kd)->Fn ks R->(List Value->R->Prop)->Prop
 | [],g,f=>f [] g
 | k :: ks,g,f=> ∀x:k.T,I6 ks (g x) fun vs r=>f (k.inj x :: vs) r
def curry {R:Type}:(ks:List Kd)->(List Value->R)->Fn ks R
 | [],f=>f []
 | k :: ks,f=>fun x=>curry ks fun vs=>f (k.inj x :: vs)
theorem po {R:Type}: ∀{ks:List Kd} {vs:List Value} {f:R->Prop} {g:Fn ks R} {F:List Value->R->Prop},
  kI ks vs f g->I6 ks g F-> ∃r,f r /\ F vs r
 | [],[],f,g,F,h,h2=>⟨g,h,h2⟩
 | k :: ks,v :: vs,f,g,F,h,h2=>by
  obtain⟨x,rfl,hx⟩:=Kd.CO h
  exact po (F:=fun vs r=>F (k.inj x :: vs) r) hx (h2 x)
 | [],_ :: _,_,_,_,h,_=>h.elim
 | _ :: _,[],_,_,_,h,_=>h.elim
theorem mz {R:Type}: ∀{ks:List Kd} {vs:List Value} {f:R->Prop} {F:List Value->R},
  kI ks vs f (curry ks F)->f (F vs)
 | [],[],f,F,h=>h
 | k :: ks,v :: vs,f,F,h=>by
  obtain⟨x,rfl,hx⟩:=Kd.CO h
  exact mz (F:=fun vs=>F (k.inj x :: vs)) hx
 | [],_ :: _,_,_,h=>h.elim
 | _ :: _,[],_,_,h=>h.elim
inductive Sh where
 | one (k:Kd)
 | agg (ks:List Kd)
def Sh.VX:Sh->List Kd
 | .one k=> [k]
 | .agg ks=>ks
def mc:List Sh->List Kd
 | []=> []
 | s :: r=>s.VX++mc r
def lz (d:TypeDesc):Kd:=
 match d with
 | .int k=>.i k
 | .bool=>.b
 | .string=>.s
 | .pointer _=>.p
 | .slice _=>.sl
 | .map _ _=>.m
 | _=>.v
def lA (P:Program):Nat->TypeId->List Kd
 | 0,_=> [.v]
 | n+1,t=>
  match P.underlying t with
  | some (.struct fs)=>fs.toList.flatMap fun f=>lA P n f.type
  | some (.array len e)=>(List.replicate len (lA P n e)).flatten
  | some d=> [lz d]
  | none=> [.v]
def lB:TypeDesc->Bool
 | .struct _ | .array _ _=>true
 | _=>false
def shapeOf (P:Program) (t:TypeId):Sh:=
 match P.underlying t with
 | some (.struct fs)=>.agg (lA P 16 t)
 | some (.array n e)=>.agg (lA P 16 t)
 | some d=>.one (lz d)
 | none=>.one .v
def gQ:List Sh->List Value->List Value
 | [],_=> []
 | .one _ :: r,v :: vs=>v :: gQ r vs
 | .one _ :: r,[]=> []
 | .agg ks :: r,vs=>.agg (vs.take ks.length).toArray :: gQ r (vs.drop ks.length)
def tI:Sh->Value->Option (List Value)
 | .one _,v=>some [v]
 | .agg ks,.agg cs=>cond (Nat.beq cs.size ks.length) (some cs.toList) none
 | .agg _,_=>none
def flat:List Sh->List Value->Option (List Value)
 | [],[]=>some []
 | s :: r,v :: vs=>match tI s v,flat r vs with
  | some x,some y=>some (x++y)
  | _,_=>none
 | _,_=>none
theorem rO: ∀{mu:List Sh} {vs cs:List Value},flat mu vs=some cs->gQ mu cs=vs
 | [],[],cs,h=>by simp only [flat,afy] at h;subst h;rfl
 | s :: r,v :: vs,cs,h=>by
  simp only [flat] at h
  cases h1:tI s v with
  | none=>simp [h1] at h
  | some x=>
   cases h2:flat r vs with
   | none=>simp [h1,h2] at h
   | some y=>
    simp only [h1,h2,afy] at h
    subst h
    have ih:=rO h2
    cases s with
    | one k=>simp only [tI,afy] at h1;subst h1;simp [gQ,ih]
    | agg ks=>
     cases v <;> simp only [tI] at h1 <;> try (cases h1;done)
     rename_i c
     cases hb:Nat.beq c.size ks.length with
     | false=>simp [hb] at h1
     | true=>
      simp only [hb,cond_true,afy] at h1
      subst h1
      have hl:c.toList.length=ks.length:=by simpa using afS hb
      have h3:List.take ks.length (c.toList++y)=c.toList:=by rw [<-hl];exact List.take_left
      have h4:List.drop ks.length (c.toList++y)=y:=by rw [<-hl];exact ahJ
      simp only [gQ,h3,h4,ih]
 | [],_ :: _,_,h=>by simp [flat] at h
 | _ :: _,[],_,h=>by simp [flat] at h
def iP:List Value->Value
 | [v]=>v
 | vs=>.tuple vs.toArray
def pq:List Sh->Value->Option (List Value)
 | [_],v=>some [v]
 | _,.tuple vs=>some vs.toList
 | _,_=>none
theorem vO {mu:List Sh} {v:Value} {vs:List Value} (h:pq mu v=some vs) (hl:vs.length=mu.length):iP vs=v:=by
 unfold pq at h
 split at h
 ·simp only [afy] at h;subst h;rfl
 ·rename_i ws aR
  simp only [afy] at h
  subst h
  unfold iP
  split
  ·rename_i x hx
   rw [hx] at hl
   match mu,hl with
   | [s],_=>exact absurd rfl (aR s)
  ·simp
 ·cases h
def eM (mu:List Sh) (v:Value) (R:Fn (mc mu) (World->Prop)) (w:World):Prop:=
 match pq mu v with
 | some vs=>match flat mu vs with
  | some cs=>kI (mc mu) cs (fun r=>r w) R
  | none=>False
 | none=>False
theorem rP: ∀{mu:List Sh} {vs cs:List Value},flat mu vs=some cs->vs.length=mu.length
 | [],[],_,_=>rfl
 | s :: r,v :: vs,cs,h=>by
  simp only [flat] at h
  cases h2:flat r vs with
  | none=>cases h1:tI s v <;> simp [h1,h2] at h
  | some y=>simp [rP h2]
 | [],_ :: _,_,h=>by simp [flat] at h
 | _ :: _,[],_,h=>by simp [flat] at h
theorem cO {mu:List Sh} {v:Value} {F:List Value->World->Prop} {w:World}
  (h:eM mu v (curry (mc mu) F) w): ∃cs,F cs w /\ iP (gQ mu cs)=v:=by
 unfold eM at h
 split at h
 ·rename_i vs hv
  split at h
  ·rename_i cs hc
   exact⟨cs,mz h,by rw [rO hc];exact vO hv (rP hc)⟩
  ·exact h.elim
 ·exact h.elim
def NN (p:Option Addr) (K:Addr->Prop):Prop:=
 match p with
 | some a=>K a
 | none=>False
def Ld (k:Kd) (w:World) (a:Addr) (K:k.T->Prop):Prop:= ∃x,w.cell? a=some (k.inj x) /\ K x
def VY (w:World) (a:Addr):List Kd->Nat->(List Value->Prop)->Prop
 | [],_,K=>K []
 | k :: ks,i,K=>Ld k w (a.add i) fun x=>VY w a ks (i+1) fun vs=>K (k.inj x :: vs)
def St (a:Addr) (v:Value) (w:World) (K:World->Prop):Prop:=
 v.oneCell'=true /\ (w.cell? a).isSome=true /\ w.frozen? a=false /\ K (w.setCell a v)
def VZ (a:Addr):List Value->Nat->World->(World->Prop)->Prop
 | [],_,w,K=>K w
 | v :: vs,i,w,K=>St (a.add i) v w fun w'=>VZ a vs (i+1) w' K
def Nw (o:Obj) (w:World) (K:Addr->World->Prop):Prop:=K ⟨w.heap.size,0,none⟩ (w.alloc o)
def Ix (s:Option Addr) (len:Nat) (i:Int) (sz:Nat) (K:Addr->Prop):Prop:=
 0<=i /\ i < len /\ NN s fun a=>K (a.add (i.toNat*sz))
def RP (a:Addr) (len:Nat) (i:Int) (sz:Nat) (K:Addr->Prop):Prop:=
 0<=i /\ i < len /\ K (a.add (i.toNat*sz))
def nz (w:World) (s:Sl) (b:ByteArray):Prop:=
 b.data.toList.length=s.len /\ ((s.a=none /\ s.len=0) \/ ∃a,s.a=some a /\ ∀j x,b.data.toList[j]? =some x->w.cell? (a.add j)=some (.int .u8 x.toNat))
def Bh (w:World) (s:Sl) (K:ByteArray->Prop):Prop:= ∃b,nz w s b /\ K b
inductive xT where
 | cell (a:Addr) (v:Value)
 | bytes (s:Sl) (b:ByteArray)
def dA (w:World):xT->Prop
 | .cell a v=>w.cell? a=some v
 | .bytes s b=>nz w s b
def ZW (s:ByteArray) (i:Int) (K:Int->Prop):Prop:=
 0<=i /\ ∃b,s[i.toNat]? =some b /\ K (b.toNat:Int)
def Cut (s:Sl) (l h m:Int) (sz:Nat) (K:Sl->Prop):Prop:=
 0<=l /\ l<=h /\ h<=m /\ m<=s.cap /\
  K ⟨if m.toNat=l.toNat then s.a else s.a.map (·.add (l.toNat*sz)),h.toNat - l.toNat,m.toNat - l.toNat⟩
def V0 (a:Addr) (n:Nat) (l h m:Int) (sz:Nat) (K:Sl->Prop):Prop:=
 0<=l /\ l<=h /\ h<=m /\ m<=n /\
  K ⟨some (if m.toNat=l.toNat then a else a.add (l.toNat*sz)),h.toNat - l.toNat,m.toNat - l.toNat⟩
def V1 (s:ByteArray) (l h:Int) (K:ByteArray->Prop):Prop:=
 0<=l /\ l<=h /\ h<=s.size /\ K (s.extract l.toNat h.toNat)
def Ext (w w':World):Prop:=w.heap.size<=w'.heap.size /\ ∀b,b < w.heap.size->w'.heap[b]? =w.heap[b]?
theorem Ext.refl (w:World):Ext w w:=⟨afV _,fun _ _=>rfl⟩
theorem Ext.trans {a b c:World} (h:Ext a b) (h':Ext b c):Ext a c:=
 ⟨ag3 h.1 h'.1,fun k hk=>(h'.2 k (ahh hk h.1)).trans (h.2 k hk)⟩
theorem Ext.alloc (w:World) (o:Obj):Ext w (w.alloc o):=
 ⟨by simp,fun b hb=>by simp only [World.alloc];rw [Array.getElem?_push];rw [if_neg (by omega)]⟩
theorem Ext.cell {w w':World} (h:Ext w w') {a:Addr} {v:Value} (hc:w.cell? a=some v):w'.cell? a=some v:=by
 have hb:=World.block_lt_of_cell? w a hc
 unfold World.cell? at hc ⊢
 rw [h.2 a.block hb]
 exact hc
theorem Ext.hold {w w':World} (h:Ext w w') {x:xT} (hc:dA w x):dA w' x:=by
 cases x with
 | cell a v=>exact h.cell hc
 | bytes s b=>
  obtain⟨h1,h2⟩:=hc
  refine⟨h1,h2.imp id ?_⟩
  rintro⟨a,ha,hb⟩
  exact⟨a,ha,fun j x hj=>h.cell (hb j x hj)⟩
def hZ (k:Kd) (P:Program) (I7:Sem Value) (w:World) (K:k.T->Prop):Prop:=
 ∃x,(∀w',Ext w w'->I7.run P w'=.ok (k.inj x) w') /\ K x
def bZ (k:Kd) (P:Program) (I7:Sem Value) (w:World) (K:k.T->World->Prop):Prop:=
 ∃x w',I7.run P w=.ok (k.inj x) w' /\ K x w'
def V3 (mu:List Sh) (P:Program) (I7:Sem Value) (w:World) (R:Fn (mc mu) (World->Prop)):Prop:=
 ∃v w',I7.run P w=.ok v w' /\ eM mu v R w'
def sN (P:Program) (I7:Sem Unit) (w:World) (K:World->Prop):Prop:=
 ∃w',I7.run P w=.ok () w' /\ K w'
def av (P:Program) (f:FuncId) (args:List Value) (mu:List Sh) (w:World) (R:Fn (mc mu) (World->Prop)):Prop:=
 Calls P f args.toArray w fun e w'=> ∃v,e=.returned v /\ eM mu v R w'
theorem Fv {w:World} {a:Addr}: ∀{ks:List Kd} {i:Nat} {K:List Value->Prop},VY w a ks i K->
  ∃vs,vs.length=ks.length /\ (∀j v,vs[j]? =some v->w.cell? (a.add (i+j))=some v) /\ K vs
 | [],i,K,h=>⟨[],rfl,by simp,h⟩
 | k :: ks,i,K,h=>by
  obtain⟨x,hx,h⟩:=h
  obtain⟨vs,hl,hc,hK⟩:=Fv h
  refine⟨k.inj x :: vs,by simp [hl],fun j v hj=>?_,hK⟩
  cases j with
  | zero=>simp only [afJ,afy] at hj;subst hj;exact hx
  | succ j=>have:=hc j v (by simpa using hj);rwa [show i+1+j=i+(j+1) by omega] at this
theorem Fw {P:Program} {a:Addr}: ∀{vs:List Value} {i:Nat} {w:World} {K:World->Prop},VZ a vs i w K->
  ∃w',(storeCells a vs i).run P w=.ok () w' /\ K w'
 | [],i,w,K,h=>⟨w,rfl,h⟩
 | v :: vs,i,w,K,h=>by
  obtain⟨h1,h2,h3,h4⟩:=h
  obtain⟨w',hr,hK⟩:=Fw (P:=P) h4
  obtain⟨u,hu⟩:=agL.1 h2
  refine⟨w',?_,hK⟩
  simp only [storeCells,Sem.run_bind,run_store P w (a.add i) v .plain h1,hu,h3]
  simpa using hr
end Go.Den
end

section
namespace Go.Den
def UO:Kd->Value->Bool
 | .i k,.int k' _=>decide (k'=k)
 | .b,.bool _=>true
 | .s,.string _=>true
 | .p,.pointer _=>true
 | .sl,.slice _ _ _=>true
 | .m,.map _=>true
 | _,_=>false
theorem xU {k:Kd} {v:Value} (h:UO k v=true):v.cells=#[v]:=by
 cases k <;> cases v <;> simp_all [UO,Value.cells]
def qE (P:Program) (t:TypeId) (v:Value) (K:List Value->Prop):Prop:=
 match shapeOf P t with
 | .one .v=>v.oneCell'=true /\ K [v]
 | .one k=>cond (UO k v) (K [v]) False
 | .agg ks=>match v with
  | .agg cs=>cond (Nat.beq cs.size ks.length) (K cs.toList) False
  | _=>False
theorem nA {P:Program} {t:TypeId} {v:Value} {K:List Value->Prop} (h:qE P t v K):K v.cells.toList:=by
 unfold qE at h
 split at h
 ·obtain⟨h1,h2⟩:=h
  have:v.cells=#[v]:=by cases v <;> simp_all [Value.oneCell',Value.cells]
  rw [this];exact h2
 ·rename_i k _ _
  cases hb:UO k v with
  | true=>rw [hb] at h;rw [xU hb];exact h
  | false=>rw [hb] at h;exact h.elim
 ·rename_i ks I8
  split at h
  ·rename_i cs
   cases hb:Nat.beq cs.size ks.length with
   | true=>rw [hb] at h;exact h
   | false=>rw [hb] at h;exact h.elim
  ·exact h.elim
def rQ (P:Program) (kg:List (Nat×Nat×TypeId)) (cells:List Value):List (Nat×Value)->(List Value->Prop)->Prop
 | [],K=>K cells
 | (i,v) :: rest,K=>
  match kg[i]? with
  | none=>False
  | some (off,size,t)=>qE P t v fun cs=>
    cond (Nat.beq cs.length size && Nat.ble (off+size) cells.length)
     (rQ P kg (cells.take off++cs++cells.drop (off+size)) rest K) False
theorem pt (off:Nat): ∀(cs:List Value) (j:Nat) (c:Array Value),off+j+cs.length<=c.size->
  ((cs.zipIdx j).foldl (fun acc (x:Value×Nat)=>acc.setIfInBounds (off+x.2) x.1) c).toList=c.toList.take (off+j)++cs++c.toList.drop (off+j+cs.length)
 | [],j,c,_=>by simp
 | v :: cs,j,c,h=>by
  simp only [af6] at h
  have ih:=pt off cs (j+1) (c.setIfInBounds (off+j) v) (by simp;omega)
  simp only [List.zipIdx_cons,ahn]
  rw [ih]
  have e1:off+(j+1)=off+j+1:=by omega
  have e2:off+j+(v :: cs).length=off+j+1+cs.length:=by simp;omega
  rw [e1,e2]
  have ar:off+j < c.toList.length:=by simp;omega
  simp only [Array.toList_setIfInBounds]
  have h1:List.take (off+j+1) (c.toList.set (off+j) v)=c.toList.take (off+j)++ [v]:=by
   rw [List.take_set,afG ar]
   have:(List.take (off+j) c.toList).length=off+j:=by simp;omega
   rw [afI _ _ (by omega)]
   simp [this]
  have h2:List.drop (off+j+1+cs.length) (c.toList.set (off+j) v)=List.drop (off+j+1+cs.length) c.toList:=by
   rw [agG (by omega)]
  rw [h1,h2]
  simp [afA]
theorem pw {P:Program} {kg:List (Nat×Nat×TypeId)}: ∀{parts:List (Nat×Value)} {cells:List Value} {K:List Value->Prop},
  rQ P kg cells parts K-> ∃cs,Instr.fill (fun i=>(kg[i]?).map fun x=>(x.1,x.2.1)) cells.toArray parts=some cs /\ K cs.toList
 | [],cells,K,h=>⟨cells.toArray,rfl,h⟩
 | (i,v) :: rest,cells,K,h=>by
  simp only [rQ] at h
  cases hp:kg[i]? with
  | none=>simp [hp] at h
  | some x=>
   obtain⟨off,size,t⟩:=x
   simp only [hp] at h
   have h1:=nA h
   cases hb:(Nat.beq v.cells.toList.length size && Nat.ble (off+size) cells.length) with
   | false=>rw [hb] at h1;exact h1.elim
   | true=>
    rw [hb] at h1
    simp only [cond_true] at h1
    obtain⟨cs,hc,hK⟩:=pw h1
    simp only [afW] at hb
    have e1:v.cells.size=size:=by simpa using afS hb.1
    have e2:off+size<=cells.length:=ahB hb.2
    refine⟨cs,?_,hK⟩
    simp only [Instr.fill,hp,agy]
    rw [if_neg (by simp [e1];omega)]
    rw [<-hc]
    congr 1
    apply agM
    have:=pt off v.cells.toList 0 cells.toArray (by simp [e1];omega)
    simp only [aho,ahO,e1] at this
    rw [<-Array.foldl_toList,Array.toList_zipIdx]
    exact this
def tc (P:Program) (op:BinOp) (t:TypeId) (cy:Bool) (x y:Value):Option Value:=
  match x,y with
  | .int k a,.int k' b=>
    cond (decide (k=k'))
      (match op with
       | .add=>some (.int k (k.wrap (a+b)))
       | .sub=>some (.int k (k.wrap (a - b)))
       | .mul=>some (.int k (k.wrap (a*b)))
       | .and=>some (.int k (k.wrap ((BitVec.ofInt k.bits a &&& BitVec.ofInt k.bits b).toNat:Nat)))
       | .or=>some (.int k (k.wrap ((BitVec.ofInt k.bits a ||| BitVec.ofInt k.bits b).toNat:Nat)))
       | .xor=>some (.int k (k.wrap ((BitVec.ofInt k.bits a ^^^ BitVec.ofInt k.bits b).toNat:Nat)))
       | .andNot=>some (.int k (k.wrap ((BitVec.ofInt k.bits a &&& ~~~ BitVec.ofInt k.bits b).toNat:Nat)))
       | .eql=>some (.bool (a ==b))
       | .neq=>some (.bool (a !=b))
       | .lss=>some (.bool (decide (a < b)))
       | .leq=>some (.bool (decide (a<=b)))
       | .gtr=>some (.bool (decide (a > b)))
       | .geq=>some (.bool (decide (a>=b)))
       | _=>none) none
  | .bool a,.bool b=>
    match P.underlying t with
    | some .bool=>match op with
      | .eql=>some (.bool (a ==b))
      | .neq=>some (.bool (!(a ==b)))
      | _=>none
    | _=>none
  | .string a,.string b=>match op with
    | .eql=>some (.bool (a.toList ==b.toList))
    | .neq=>some (.bool (!(a.toList ==b.toList)))
    | .lss=>some (.bool (Op.bytesLess a.toList b.toList))
    | .leq=>some (.bool (Op.bytesLess a.toList b.toList || a.toList ==b.toList))
    | .gtr=>some (.bool (!(Op.bytesLess a.toList b.toList || a.toList ==b.toList)))
    | .geq=>some (.bool (!(Op.bytesLess a.toList b.toList)))
    | _=>none
  | .pointer a,.pointer b=>match cy,P.underlying t with
    | true,some (.pointer _)=>match b with
      | none=>match op with
        | .eql=>some (.bool a.isNone)
        | .neq=>some (.bool (!a.isNone))
        | _=>none
      | _=>none
    | _,_=>none
  | .slice a _ _,.slice b _ _=>match cy,P.underlying t with
    | true,some (.slice _)=>match b with
      | none=>match op with
        | .eql=>some (.bool a.isNone)
        | .neq=>some (.bool (!a.isNone))
        | _=>none
      | _=>none
    | _,_=>none
  | .map a,.map b=>match cy,P.underlying t with
    | true,some (.map _ _)=>match b with
      | none=>match op with
        | .eql=>some (.bool a.isNone)
        | .neq=>some (.bool (!a.isNone))
        | _=>none
      | _=>none
    | _,_=>none
  | _,_=>none
def cl (op:BinOp) (t:TypeId) (x y:Operand) (a b:Value):Sem Value:=do eqGuard op t x y a b;binOp op t a b
theorem bC {P:Program} {w:World} {op:BinOp} {t:TypeId} {x y:Operand} {a b:Value} (ha:a.oneCell'=true) (hn:a≠ .nilIface):
  (eqGuard op t x y a b).run P w=.ok () w:=by
 unfold eqGuard
 cases a <;> simp_all [Value.oneCell'] <;> cases op <;> rfl
theorem xW {P:Program} {w:World} {t:TypeId} (dp:Nat) {a b:Bool} (ht:P.underlying t=some .bool):
  (Op.equalIn (dp+1) t (.bool a) (.bool b)).run P w=.ok (a ==b) w:=by
 simp [Op.equalIn,run_underlying ht]
theorem Bi {P:Program} {w:World} {t:TypeId} {a b:Bool} (ht:P.underlying t=some .bool):
  (Op.equal t (.bool a) (.bool b)).run P w=.ok (a ==b) w:=xW 9999 ht
theorem sO {P:Program} {w:World} {t:TypeId} (dp:Nat) {e:TypeId} {a:Option Addr} (ht:P.underlying t=some (.pointer e)):
  (Op.equalIn (dp+1) t (.pointer a) (.pointer none)).run P w=.ok a.isNone w:=by
 cases a <;> simp [Op.equalIn,run_underlying ht]
theorem vQ {P:Program} {w:World} {t:TypeId} {e:TypeId} {a:Option Addr} (ht:P.underlying t=some (.pointer e)):
  (Op.equal t (.pointer a) (.pointer none)).run P w=.ok a.isNone w:=sO 9999 ht
theorem px {P:Program} {w:World} {t:TypeId} (dp:Nat) {e:TypeId} {a:Option Addr} {n c m d:Nat} (ht:P.underlying t=some (.slice e)):
  (Op.equalIn (dp+1) t (.slice a n c) (.slice none m d)).run P w=.ok a.isNone w:=by
 cases a <;> simp [Op.equalIn,run_underlying ht]
theorem sP {P:Program} {w:World} {t:TypeId} {e:TypeId} {a:Option Addr} {n c m d:Nat} (ht:P.underlying t=some (.slice e)):
  (Op.equal t (.slice a n c) (.slice none m d)).run P w=.ok a.isNone w:=px 9999 ht
theorem sQ {P:Program} {w:World} {t:TypeId} (dp:Nat) {k e:TypeId} {a:Option Nat} (ht:P.underlying t=some (.map k e)):
  (Op.equalIn (dp+1) t (.map a) (.map none)).run P w=.ok a.isNone w:=by
 cases a <;> simp [Op.equalIn,run_underlying ht]
theorem vS {P:Program} {w:World} {t:TypeId} {k e:TypeId} {a:Option Nat} (ht:P.underlying t=some (.map k e)):
  (Op.equal t (.map a) (.map none)).run P w=.ok a.isNone w:=sQ 9999 ht
theorem tJ {P:Program} {w:World} {op:BinOp} {t:TypeId} {x y:Operand} {cy:Bool} {a b v:Value} (h:tc P op t cy a b=some v):
  (cl op t x y a b).run P w=.ok v w:=by
 unfold tc at h
 split at h
 ·rename_i k a k' b
  cases hk:decide (k=k') with
  | false=>rw [hk] at h;cases h
  | true=>
   rw [hk] at h
   simp only [cond_true] at h
   obtain rfl:=of_decide_eq_true hk
   unfold cl
   rw [Sem.run_bind,bC rfl (by simp)]
   cases op <;> simp only [afy] at h <;> first
    | (subst h;simp [binOp,Op.intArith,Op.intBits,Op.intCmp];done)
    | cases h
 ·rename_i a b
  split at h
  ·rename_i hu
   unfold cl
   rw [Sem.run_bind,bC rfl (by simp)]
   cases op <;> simp only [afy] at h <;> first
    | (subst h;simp [binOp,Bi hu];done)
    | cases h
  ·cases h
 ·rename_i a b
  unfold cl
  rw [Sem.run_bind,bC rfl (by simp)]
  cases op <;> simp only [afy] at h <;> first
   | (subst h;simp [binOp,Op.stringOp];done)
   | cases h
 ·split at h
  ·rename_i hu
   split at h
   ·unfold cl
    rw [Sem.run_bind,bC rfl (by simp)]
    cases op <;> simp only [afy] at h <;> first
     | (subst h;simp [binOp,vQ hu];done)
     | cases h
   ·cases h
  ·cases h
 ·split at h
  ·rename_i hu
   split at h
   ·unfold cl
    rw [Sem.run_bind,bC rfl (by simp)]
    cases op <;> simp only [afy] at h <;> first
     | (subst h;simp [binOp,sP hu];done)
     | cases h
   ·cases h
  ·cases h
 ·split at h
  ·rename_i hu
   split at h
   ·unfold cl
    rw [Sem.run_bind,bC rfl (by simp)]
    cases op <;> simp only [afy] at h <;> first
     | (subst h;simp [binOp,vS hu];done)
     | cases h
   ·cases h
  ·cases h
 ·cases h
def Fx (op:BinOp) (a b:Value) (K:Value->Prop):Prop:=
 match op,a,b with
 | .quo,.int k m,.int k' n=>cond (decide (k=k')) (n≠0 /\ K (.int k (k.wrap (m.tdiv n)))) False
 | .rem,.int k m,.int k' n=>cond (decide (k=k')) (n≠0 /\ K (.int k (m.tmod n))) False
 | .shl,.int k m,.int _ n=>0<=n /\ K (.int k (k.wrap (m*2 ^ (min n.toNat k.bits))))
 | .shr,.int k m,.int _ n=>0<=n /\ K (.int k (m.fdiv (2 ^ (min n.toNat k.bits))))
 | .add,.string m,.string n=>m.size+n.size<=9223372036854775807 /\ K (.string (m++n))
 | _,_,_=>False
theorem Fy {P:Program} {op:BinOp} {t:TypeId} {x y:Operand} {a b:Value} {K:Value->Prop} (h:Fx op a b K):
  ∃v,(∀w',(cl op t x y a b).run P w'=.ok v w') /\ K v:=by
 unfold Fx at h
 split at h
 ·rename_i k m k' n
  cases hk:decide (k=k') with
  | false=>rw [hk] at h;exact h.elim
  | true=>
   rw [hk] at h
   obtain rfl:=of_decide_eq_true hk
   obtain⟨h1,h2⟩:=h
   refine⟨_,fun w'=>?_,h2⟩
   unfold cl
   rw [Sem.run_bind,bC rfl (by simp)]
   simp [binOp,Op.intDiv,h1]
 ·rename_i k m k' n
  cases hk:decide (k=k') with
  | false=>rw [hk] at h;exact h.elim
  | true=>
   rw [hk] at h
   obtain rfl:=of_decide_eq_true hk
   obtain⟨h1,h2⟩:=h
   refine⟨_,fun w'=>?_,h2⟩
   unfold cl
   rw [Sem.run_bind,bC rfl (by simp)]
   simp [binOp,Op.intDiv,h1]
 ·obtain⟨h1,h2⟩:=h
  refine⟨_,fun w'=>?_,h2⟩
  unfold cl
  rw [Sem.run_bind,bC rfl (by simp)]
  simp [binOp,Op.shift,Int.not_lt.2 h1]
 ·obtain⟨h1,h2⟩:=h
  refine⟨_,fun w'=>?_,h2⟩
  unfold cl
  rw [Sem.run_bind,bC rfl (by simp)]
  simp [binOp,Op.shift,Int.not_lt.2 h1]
 ·rename_i m n
  obtain⟨h1,h2⟩:=h
  refine⟨_,fun w'=>?_,h2⟩
  unfold cl
  rw [Sem.run_bind,bC rfl (by simp)]
  have: ¬(IntKind.i64.max < ((m.size+n.size:Nat):Int)):=by
   have e:IntKind.i64.max=9223372036854775807:=by decide
   rw [e];omega
  simp only [binOp,Op.stringOp,Result.andThen_ok,gt_iff_lt,if_neg this,Sem.run_pure]
 ·exact h.elim
end Go.Den
end

section
namespace Go.Den
abbrev Env:=List (Nat×Option Value)
abbrev dv:=List (Nat×List (Nat×Bool)×Value)
def gt:Env->Nat->Option (Option Value)
 | [],_=>none
 | (j,v) :: r,t=>cond (Nat.beq j t) (some v) (gt r t)
def MU (G F:List (Nat×Bool)):Bool:=G.all fun g=>F.any fun f=>Nat.beq g.1 f.1 && (g.2 ==f.2)
def y9 (F:List (Nat×Bool)):dv->Nat->Option Value
 | [],_=>none
 | (d,G,v) :: r,t=>cond (Nat.beq d t) (cond (MU G F) (some v) none) (y9 F r t)
def look (l:Env) (fl:dv) (F:List (Nat×Bool)):Operand->Option Value
 | .tmp t=>match gt l t with
  | some (some v)=>some v
  | some none=>y9 F fl t
  | none=>none
 | .const v=>some v
 | .global g=>some (.pointer (some ⟨g,0,none⟩))
 | .func f=>some (.func (.func f) #[] #[])
def qF (ρ:Operand->Option Value):List Operand->Option (List Value)
 | []=>some []
 | x :: r=>match ρ x,qF ρ r with
  | some v,some vs=>some (v :: vs)
  | _,_=>none
def isConst:Operand->Bool
 | .const _=>true
 | _=>false
def nB (P:Program) (op:Op) (ty:TypeId) (ρ:Operand->Option Value) (ρ':Nat->Bool->Operand->Option Value):Option Value:=
 match op with
 | .move x=>ρ x
 | .assign x=>ρ x
 | .pick (.tmp c) a b=>
  match ρ (.tmp c),ρ' c true a,ρ' c false b with
  | some (.bool cv),some (.bool x),some (.bool y)=>some (.bool (cond cv x y))
  | some (.bool true),va,_=>va
  | some (.bool false),_,vb=>vb
  | _,_,_=>none
 | .binOp o t x y _=>
  match ρ x,ρ y with
  | some a,some b=>tc P o t (isConst y) a b
  | _,_=>none
 | .unOp o _ x=>
  match o,ρ x with
  | .not,some (.bool b)=>some (.bool (!b))
  | .neg,some (.int k n)=>some (.int k (k.wrap (0 - n)))
  | .xor,some (.int k n)=>some (.int k (k.wrap ((BitVec.ofInt k.bits (if k.signed then -1 else k.max) ^^^ BitVec.ofInt k.bits n).toNat:Nat)))
  | _,_=>none
 | .extract x i=>
  match ρ x with
  | some (.tuple vs)=>vs.toList[i]?
  | _=>none
 | .call c=>
  match c.callee,c.args.toList,c.argTypes.toList with
  | .builtin .len,[x],[t]=>
   match P.underlying t,ρ x with
   | some (.slice _),some (.slice _ n _)=>some (.int .i64 n)
   | some .string,some (.string s)=>some (.int .i64 s.size)
   | _,_=>none
  | .builtin .cap,[x],[t]=>
   match P.underlying t,ρ x with
   | some (.slice _),some (.slice _ _ n)=>some (.int .i64 n)
   | _,_=>none
  | .builtin .min,[x,y],_=>
   match ρ x,ρ y with
   | some (.int k a),some (.int _ b)=>some (.int k (if b < a then b else a))
   | _,_=>none
  | .builtin .max,[x,y],_=>
   match ρ x,ρ y with
   | some (.int k a),some (.int _ b)=>some (.int k (if b > a then b else a))
   | _,_=>none
  | _,_,_=>none
 | .convert src dst x=>
  match P.underlying src,P.underlying dst,ρ x with
  | some _,some (.int k),some (.int _ n)=>some (.int k (k.wrap n))
  | some .string,some .string,some (.string s)=>some (.string s)
  | _,_,_=>none
 | .makeInterface t x=>
  match P.underlying t,ρ x with
  | some (.interface _),_=>none
  | some _,some v=>some (.iface t v)
  | _,_=>none
 | .makeFunc fn first captured=>
  match qF ρ first.toList,qF ρ captured.toList with
  | some fs,some cs=>some (.func fn fs.toArray cs.toArray)
  | _,_=>none
 | .field t x f=>
  match P.underlying t,ρ x with
  | some (.struct fs),some (.agg cs)=>
   match fs[f]? with
   | some fd=>match P.underlying fd.type,P.info? fd.type with
    | some d,some i=>cond (lB d) (some (.agg ((cs.toList.drop fd.offset).take i.size).toArray)) cs.toList[fd.offset]?
    | _,_=>none
   | none=>none
  | _,_=>none
 | _=>none
section
variable {P:Program} {e:Operand->Value} {ρ:Operand->Option Value} {ρ':Nat->Bool->Operand->Option Value} {w:World}
theorem jW (hρ: ∀x v,ρ x=some v->e x=v): ∀{xs:List Operand} {vs:List Value},qF ρ xs=some vs->xs.map e=vs
 | [],vs,h=>by simp only [qF,afy] at h;subst h;rfl
 | x :: r,vs,h=>by
  simp only [qF] at h
  cases h1:ρ x with
  | none=>simp [h1] at h
  | some v=>
   cases h2:qF ρ r with
   | none=>simp [h1,h2] at h
   | some ws=>
    simp only [h1,h2,afy] at h
    subst h
    simp [hρ x v h1,jW hρ h2]
theorem nC {α:Type} {a:Array α} {x:α} (h:a.toList= [x]):a=#[x]:=agM (by simpa using h)
theorem wJ {α:Type} {a:Array α} {x y:α} (h:a.toList= [x,y]):a=#[x,y]:=agM (by simpa using h)
theorem gR {t:TypeId} {d:TypeDesc} (h:P.underlying t=some d):(isAgg t).run P w=.ok (lB d) w:=by
 simp only [isAgg,Sem.run_bind,run_underlying h,Result.andThen_ok]
 cases d <;> rfl
theorem lC (hρ: ∀x v,ρ x=some v->e x=v) (E9: ∀c b x v,e (.tmp c)=.bool b->ρ' c b x=some v->e x=v)
  {op:Op} {ty:TypeId} {v:Value} (h:nB P op ty ρ ρ'=some v) (dst:Option Tmp) (pos:String) (after:Array Edge) (g:Option (Nat×Bool)):
  (execOp e ⟨dst,op,ty,pos,after,g⟩).run P w=.ok (.value v) w:=by
 unfold nB at h
 split at h
 ·have:=hρ _ _ h;simp [execOp,this]
 ·have:=hρ _ _ h;simp [execOp,this]
 ·rename_i c a b
  split at h
  ·rename_i cv x y h1 h2 h3
   simp only [afy] at h
   subst h
   have e1:=hρ _ _ h1
   cases cv with
   | true=>have e2:=E9 c true a _ e1 h2;simp [execOp,asBool,e1,e2]
   | false=>have e2:=E9 c false b _ e1 h3;simp [execOp,asBool,e1,e2]
  ·rename_i h1 _
   have e1:=hρ _ _ h1
   have e2:=E9 c true a _ e1 h;simp [execOp,asBool,e1,e2]
  ·rename_i h1 _
   have e1:=hρ _ _ h1
   have e2:=E9 c false b _ e1 h;simp [execOp,asBool,e1,e2]
  ·cases h
 ·rename_i o t x y Q9
  split at h
  ·rename_i a b h1 h2
   have e1:=hρ _ _ h1
   have e2:=hρ _ _ h2
   have hr:=tJ (w:=w) (x:=x) (y:=y) h
   unfold cl at hr
   simp only [execOp,e1,e2]
   rw [Sem.run_bind]
   rw [hr];rfl
  ·cases h
 ·rename_i o t x
  split at h
  ·rename_i b h1
   simp only [afy] at h;subst h
   simp [execOp,Op.unary,hρ _ _ h1]
  ·rename_i k n h1
   simp only [afy] at h;subst h
   simp [execOp,Op.unary,Op.intArith,hρ _ _ h1]
  ·rename_i k n h1
   simp only [afy] at h;subst h
   simp [execOp,Op.unary,Op.intBits,hρ _ _ h1]
  ·cases h
 ·rename_i x i
  split at h
  ·rename_i vs h1
   have e1:=hρ _ _ h1
   have:vs[i]? =some v:=by simpa using h
   simp [execOp,Instr.extract,e1,this]
  ·cases h
 ·rename_i c
  obtain⟨callee,args,argTypes⟩:=c
  simp only at h
  split at h
  ·rename_i x t ha ht
   obtain rfl:=nC ha
   obtain rfl:=nC ht
   split at h
   ·rename_i e' a n c' hu h1
    simp only [afy] at h;subst h
    have e1:=hρ _ _ h1
    simp [execOp,Go.resolve,invoke,builtin,Builtin.len_,run_underlying hu,e1,goInt]
   ·rename_i s hu h1
    simp only [afy] at h;subst h
    have e1:=hρ _ _ h1
    simp [execOp,Go.resolve,invoke,builtin,Builtin.len_,run_underlying hu,e1,goInt]
   ·cases h
  ·rename_i x t ha ht
   obtain rfl:=nC ha
   obtain rfl:=nC ht
   split at h
   ·rename_i e' a n c' hu h1
    simp only [afy] at h;subst h
    have e1:=hρ _ _ h1
    simp [execOp,Go.resolve,invoke,builtin,Builtin.cap_,run_underlying hu,e1,goInt]
   ·cases h
  ·rename_i x y ha
   obtain rfl:=wJ ha
   split at h
   ·rename_i k a k' b h1 h2
    simp only [afy] at h;subst h
    have e1:=hρ _ _ h1
    have e2:=hρ _ _ h2
    simp [execOp,Go.resolve,invoke,builtin,Builtin.min_,Builtin.min2,e1,e2]
   ·cases h
  ·rename_i x y ha
   obtain rfl:=wJ ha
   split at h
   ·rename_i k a k' b h1 h2
    simp only [afy] at h;subst h
    have e1:=hρ _ _ h1
    have e2:=hρ _ _ h2
    simp [execOp,Go.resolve,invoke,builtin,Builtin.max_,Builtin.max2,e1,e2]
   ·cases h
  ·cases h
 ·rename_i src V4 x
  split at h
  ·rename_i d k k' n hs hd h1
   simp only [afy] at h;subst h
   have e1:=hρ _ _ h1
   simp [execOp,convert,run_underlying hs,run_underlying hd,e1,Conv.intToInt]
  ·rename_i s hs hd h1
   simp only [afy] at h;subst h
   have e1:=hρ _ _ h1
   simp [execOp,convert,run_underlying hs,run_underlying hd,e1]
  ·cases h
 ·rename_i t x
  split at h
  ·cases h
  ·rename_i d v' aR hu h1
   simp only [afy] at h;subst h
   have e1:=hρ _ _ h1
   simp only [execOp,Instr.makeInterface,Sem.run_bind,run_underlying hu,Result.andThen_ok,e1]
   cases d <;> first | rfl | exact(aR _ rfl).elim
  ·cases h
 ·rename_i fn first captured
  split at h
  ·rename_i fs cs h1 h2
   simp only [afy] at h;subst h
   have e1:=jW hρ h1
   have e2:=jW hρ h2
   have a1:first.map e=fs.toArray:=agM (by simp [e1])
   have a2:captured.map e=cs.toArray:=agM (by simp [e2])
   simp [execOp,Instr.makeFunc,a1,a2]
  ·cases h
 ·rename_i t x f
  split at h
  ·rename_i fs cs hu h1
   have e1:=hρ _ _ h1
   split at h
   ·rename_i fd hf
    split at h
    ·rename_i d i hd hi
     simp only [execOp,Instr.field,Sem.run_bind,run_underlying hu,Result.andThen_ok,e1,hf,asAgg,Sem.run_pure,part,gR hd]
     cases hb:lB d with
     | true=>
      rw [hb] at h
      simp only [cond_true,afy] at h
      subst h
      simp only [if_true,Sem.run_bind,sizeOf,typeInfo,run_program,Result.andThen_ok,hi,Sem.run_pure]
      congr 3
      apply agM
      simp [List.extract_eq_take_drop]
     | false=>
      rw [hb] at h
      simp only [cond_false] at h
      have:cs[fd.offset]? =some v:=by simpa using h
      simp [this]
    ·cases h
   ·cases h
  ·cases h
 ·cases h
end
end Go.Den
end

section
namespace Go.Den
def fT (P:Program) (ty:TypeId):List Sh:=
 match P.underlying ty with
 | some (.tuple es)=>es.toList.map (shapeOf P)
 | _=> [shapeOf P ty]
def gp (mu:List Sh) (P:Program) (I7:Sem Value) (w:World) (R:Fn (mc mu) (World->Prop)):Prop:=
 ∃v,(∀w',Ext w w'->I7.run P w'=.ok v w') /\ eM mu v R w
def za (P:Program) (s:TypeId) (f:Nat):Option Nat:=
 match P.underlying s with
 | some (.struct fs)=>match fs[f]? with
  | some fd=>cond (Nat.beq (P.cellsOf fd.type) 0) none (some fd.offset)
  | none=>none
 | _=>none
def zb (P:Program) (t:TypeId) (w:World) (a:Addr) (K:Value->Prop):Prop:=
 match P.underlying t with
 | some d=>cond (lB d)
   (cond (Nat.beq (P.cellsOf t) (lA P 16 t).length) (VY w a (lA P 16 t) 0 fun vs=>K (.agg vs.toArray)) False)
   (Ld (lz d) w a fun x=>K ((lz d).inj x))
 | none=>False
def oh (v:Option Operand) (ρ:Operand->Option Value) (d:Int) (K:Int->Prop):Prop:=
 match v with
 | none=>K d
 | some x=>match ρ x with
  | some (.int _ n)=>K n
  | _=>False
def kJ (P:Program) (t:TypeId):Bool:=
 match P.underlying t with
 | some (.int _)=>true
 | some .bool=>true
 | some .string=>true
 | _=>false
def tK (P:Program) (t:TypeId):Bool:=
 match P.underlying t with
 | some (.interface _)=>true
 | some (.func _ _ _)=>true
 | some (.struct _)=>true
 | some (.array _ _)=>true
 | _=>false
def xX (P:Program) (c:Call):Bool:=
 match c.callee,c.argTypes.toList with
 | .builtin .len,[t]=>match P.underlying t with
  | some (.map _ _)=>true
  | _=>false
 | _,_=>false
def ia (P:Program) (src dst:TypeId):Bool:=
 match P.underlying src,P.underlying dst with
 | some (.slice e),some .string=>(match P.underlying e with
  | some (.int .u8)=>true
  | _=>false)
 | _,_=>false
def RQ (P:Program) (op:Op) (ty:TypeId) (ρ:Operand->Option Value) (ρ':Nat->Bool->Operand->Option Value) (w:World) (K:Value->Prop):Prop:=
 match op with
 | .nilCheck x=>
  match ρ x with
  | some (.pointer p)=>NN p fun a=>K (.pointer (some a))
  | some (.func (.func f) fs cs)=>K (.func (.func f) fs cs)
  | _=>False
 | .fieldAddr s x f=>
  match za P s f,ρ x with
  | some off,some (.pointer p)=>NN p fun a=>K (.pointer (some (a.add off)))
  | _,_=>False
 | .load t x=>
  match ρ x with
  | some (.pointer p)=>NN p fun a=>zb P t w a K
  | _=>False
 | .indexAddr t x ix=>
  match P.underlying t,ρ x,ρ ix with
  | some (.slice el),some (.slice s len _),some (.int _ i)=>match P.info? el with
   | some inf=>Ix s len i inf.size fun a=>K (.pointer (some a))
   | none=>False
  | some (.array len el),some (.pointer p),some (.int _ i)=>match P.info? el with
   | some inf=>NN p fun a=>RP a len i inf.size fun a=>K (.pointer (some a))
   | none=>False
  | _,_,_=>False
 | .index t x ix=>
  match P.underlying t,ρ x,ρ ix with
  | some .string,some (.string s),some (.int _ i)=>ZW s i fun b=>K (.int .u8 b)
  | _,_,_=>False
 | .slice t x lo hi mx=>
  match P.underlying t,ρ x with
  | some (.slice el),some (.slice a len cap)=>match P.info? el with
   | some inf=>cond (mx.isSome && hi.isNone) False
     (oh mx ρ cap fun m=>oh hi ρ len fun h=>oh lo ρ 0 fun l=>
      Cut ⟨a,len,cap⟩ l h m inf.size fun s=>K (.slice s.a s.len s.cap))
   | none=>False
  | some (.array n el),some (.pointer p)=>match P.info? el with
   | some inf=>cond (mx.isSome && hi.isNone) False
     (NN p fun a=>oh mx ρ n fun m=>oh hi ρ n fun h=>oh lo ρ 0 fun l=>
      V0 a n l h m inf.size fun s=>K (.slice s.a s.len s.cap))
   | none=>False
  | some .string,some (.string s)=>cond mx.isSome False
    (oh hi ρ s.size fun h=>oh lo ρ 0 fun l=>V1 s l h fun r=>K (.string r))
  | _,_=>False
 | .binOp o t x y _=>
  match ρ x,ρ y with
  | some a,some b=>cond (tK P t) (hZ .b P (cl o t x y a b) w fun r=>K (.bool r))
    (match tc P o t (isConst y) a b with
    | some v=>K v
    | none=>cond (kJ P t) (Fx o a b K) (hZ .b P (cl o t x y a b) w fun r=>K (.bool r)))
  | _,_=>False
 | .build t parts=>
  match P.underlying t,P.info? t,qF ρ (parts.toList.map (·.2)) with
  | some (.struct fs),some inf,some vs=>match inf.zero with
   | some z=>cond (fs.toList.all fun f=>(P.info? f.type).isSome)
     (rQ P (fs.toList.map fun f=>(f.offset,P.cellsOf f.type,f.type)) z.cells.toList ((parts.toList.map (·.1)).zip vs) fun cs=>K (.agg cs.toArray)) False
   | none=>False
  | some (.array n el),some inf,some vs=>match inf.zero with
   | some z=>cond (P.info? el).isNone False <| rQ P ((List.range n).map fun i=>(i*P.cellsOf el,P.cellsOf el,el)) z.cells.toList ((parts.toList.map (·.1)).zip vs) fun cs=>K (.agg cs.toArray)
   | none=>False
  | _,_,_=>False
 | .lookup t x ix ok=>
  match ρ x,ρ ix with
  | some m,some k=>gp (fT P ty) P (Instr.lookup t m k ok) w (curry _ fun cs _=>K (iP (gQ (fT P ty) cs)))
  | _,_=>False
 | .typeAssert x xt A1 ok=>
  match ρ x with
  | some v=>gp (fT P ty) P (Instr.typeAssert v xt A1 ok) w (curry _ fun cs _=>K (iP (gQ (fT P ty) cs)))
  | _=>False
 | .call c=>cond (xX P c)
   (match qF ρ c.args.toList with
   | some vs=>hZ (.i .i64) P (Builtin.len_ c.argTypes ty vs.toArray) w fun n=>K (.int .i64 n)
   | none=>False)
   (match nB P (.call c) ty ρ ρ' with
   | some v=>K v
   | none=>False)
 | .convert src dst x=>match ia P src dst with
  | true=>match ρ x with
   | some (.slice a len cap)=>Bh w ⟨a,len,cap⟩ fun b=>K (.string b)
   | _=>False
  | false=>match nB P (.convert src dst x) ty ρ ρ' with
   | some v=>K v
   | none=>False
 | op=>match nB P op ty ρ ρ' with
  | some v=>K v
  | none=>False
def cr (P:Program):Op->Bool
 | .load _ _=>true
 | .convert src dst _=>ia P src dst
 | _=>false
def wl (P:Program) (op:Op):Bool:=
 match op with
 | .load _ _ | .lookup _ _ _ _ | .typeAssert _ _ _ _=>false
 | .convert src dst _=> !ia P src dst
 | .binOp _ t _ y _=>kJ P t
 | .call c=> !xX P c
 | _=>true
def gS (a:Addr):List Value->Nat->List (Addr×Value)
 | [],_=> []
 | v :: vs,i=>(a.add i,v) :: gS a vs (i+1)
def I9 (P:Program) (t:TypeId) (a:Addr) (v:Value):List (Addr×Value):=
 match P.underlying t with
 | some d=>cond (lB d) (match v with
  | .agg cs=>gS a cs.toList 0
  | _=> []) [(a,v)]
 | none=> []
def qG (P:Program) (ρ:Operand->Option Value) (op:Op) (v:Value):List xT:=
 match op with
 | .load t x=>match ρ x with
  | some (.pointer (some a))=>(I9 P t a v).map fun x=>.cell x.1 x.2
  | _=> []
 | .convert src dst x=>match ia P src dst with
  | true=>match ρ x,v with
   | some (.slice a len cap),.string b=> [.bytes ⟨a,len,cap⟩ b]
   | _,_=> []
  | false=> []
 | _=> []
def gq (P:Program) (op:Op):Bool:=
 match op with
 | .move _ | .assign _ | .pick _ _ _ | .nilCheck _ | .fieldAddr _ _ _ | .load _ _ | .indexAddr _ _ _ | .index _ _ _ | .slice _ _ _ _ _ | .binOp _ _ _ _ _ | .build _ _ | .typeAssert _ _ _ _
 | .unOp _ _ _ | .extract _ _ | .makeInterface _ _ | .makeFunc _ _ _ | .field _ _ _=>true
 | .convert src dst _=>match P.underlying src,P.underlying dst with
  | some (.int _),some (.int _)=>true
  | some .string,some .string=>true
  | _,_=>ia P src dst
 | .lookup _ _ _ _=>true
 | .call c=>match c.callee with
  | .builtin .len | .builtin .cap | .builtin .min | .builtin .max=>true
  | _=>false
 | _=>false
section
variable {P:Program} {e:Operand->Value} {ρ:Operand->Option Value} {ρ':Nat->Bool->Operand->Option Value} {w:World}
theorem pz {p:Option Addr} {K:Addr->Prop} (h:NN p K): ∃a,p=some a /\ K a:=by
 cases p with
 | none=>exact h.elim
 | some a=>exact⟨a,rfl,h⟩
theorem oG {t:TypeId} {i:TypeInfo} (h:P.info? t=some i):P.cellsOf t=i.size:=by simp [Program.cellsOf,h]
theorem tL {t:TypeId} {n:Nat} (h:P.cellsOf t=n) (hn:n≠0): ∃i,P.info? t=some i /\ i.size=n:=by
 unfold Program.cellsOf at h
 cases hi:P.info? t with
 | none=>simp [hi] at h;omega
 | some i=>exact⟨i,rfl,by simpa [hi] using h⟩
theorem info_of_underlying {t:TypeId} {d:TypeDesc} (h:P.underlying t=some d): ∃i,P.info? t=some i:=by
 unfold Program.underlying at h
 cases hi:P.info? t with
 | none=>simp [hi] at h
 | some i=>exact⟨i,rfl⟩
theorem om {a:Addr}: ∀{vs:List Value} {i:Nat} {x:Addr×Value},x∈gS a vs i-> ∃j v,vs[j]? =some v /\ x=(a.add (i+j),v)
 | [],i,x,h=>by cases h
 | v :: vs,i,x,h=>by
  rcases af1.1 h with rfl | h
  ·exact⟨0,v,rfl,rfl⟩
  ·obtain⟨j,u,h1,rfl⟩:=om h
   exact⟨j+1,u,by simpa using h1,by rw [show i+1+j=i+(j+1) by omega]⟩
theorem oo {a:Addr}: ∀{vs:List Value} {i j:Nat} {v:Value},vs[j]? =some v->(a.add (i+j),v)∈gS a vs i
 | [],i,j,v,h=>by simp at h
 | u :: vs,i,0,v,h=>by simp only [afJ,afy] at h;subst h;simp [gS]
 | u :: vs,i,j+1,v,h=>by
  have:=oo (a:=a) (vs:=vs) (i:=i+1) (j:=j) (v:=v) (by simpa using h)
  rw [show i+1+j=i+(j+1) by omega] at this
  simp [gS,this]
theorem zc {t:TypeId} {a:Addr} {K:Value->Prop} (h:zb P t w a K):
  ∃v,(∀x∈I9 P t a v,w.cell? x.1=some x.2) /\ (∀w',(∀x∈I9 P t a v,w'.cell? x.1=some x.2)->(loadVar t a).run P w'=.ok v w') /\ K v:=by
 unfold zb at h
 split at h
 ·rename_i d hd
  cases hb:lB d with
  | false=>
   rw [hb] at h
   obtain⟨x,hx,hK⟩:=h
   have vT:I9 P t a ((lz d).inj x)= [(a,(lz d).inj x)]:=by simp [I9,hd,hb]
   refine⟨_,by rw [vT];simpa using hx,fun w' he=>?_,hK⟩
   rw [vT] at he
   have hc:=he (a,(lz d).inj x) (by simp)
   simp only at hc
   simp [loadVar,gR hd,hb,hc]
  | true=>
   rw [hb] at h
   simp only [cond_true] at h
   cases hn:Nat.beq (P.cellsOf t) (lA P 16 t).length with
   | false=>rw [hn] at h;exact h.elim
   | true=>
    rw [hn] at h
    obtain⟨vs,hl,hc,hK⟩:=Fv h
    obtain⟨i,hi⟩:=info_of_underlying hd
    have dw:i.size=vs.length:=by rw [hl,<-afS hn,oG hi]
    have vT:I9 P t a (.agg vs.toArray)=gS a vs 0:=by simp [I9,hd,hb]
    refine⟨_,?_,fun w' he=>?_,hK⟩
    ·rw [vT]
     intro x hx
     obtain⟨j,v,h1,rfl⟩:=om hx
     exact hc j v (by simpa using h1)
    ·have:=run_loadCells_list (P:=P) w' a vs (fun j v hj=>by
      have:=he (a.add (0+j),v) (by rw [vT];exact oo (by simpa using hj))
      simpa using this)
     simp [loadVar,gR hd,hb,sizeOf,typeInfo,hi,dw,this]
 ·exact h.elim
theorem ib {v:Option Operand} {d:Int} {K:Int->Prop} (hρ: ∀x v,ρ x=some v->e x=v) (h:oh v ρ d K):
  ∃n,((v.map e=none /\ n=d) \/ ∃k,v.map e=some (.int k n)) /\ K n:=by
 unfold oh at h
 split at h
 ·exact⟨d,.inl ⟨rfl,rfl⟩,h⟩
 ·rename_i x
  split at h
  ·rename_i k n hx
   exact⟨n,.inr ⟨k,by simp [hρ _ _ hx]⟩,h⟩
  ·exact h.elim
theorem iI {b:Bool} {len cap:Nat} {lo hi mx:Option Value} {l h m:Int}
  (hm:(mx=none /\ m=cap) \/ ∃k,mx=some (.int k m)) (hh:(hi=none /\ h=len) \/ ∃k,hi=some (.int k h)) (hl:(lo=none /\ l=0) \/ ∃k,lo=some (.int k l))
  (hc:mx.isSome=true->hi.isSome=true) (h1:0<=l) (h2:l<=h) (h3:h<=m) (h4:m<=cap):
  (Instr.sliceBounds b len cap lo hi mx).run P w=.ok (l.toNat,h.toNat,m.toNat) w:=by
 have em:((m.toNat:Nat):Int)=m:=by omega
 have eh:((h.toNat:Nat):Int)=h:=by omega
 rcases hm with ⟨rfl,rfl⟩ | ⟨km,rfl⟩ <;> rcases hh with ⟨rfl,rfl⟩ | ⟨kh,rfl⟩ <;> rcases hl with ⟨rfl,rfl⟩ | ⟨kl,rfl⟩ <;>
  first
  | (simp at hc;done)
  | (simp [Instr.sliceBounds,Instr.sliceBound,asIntOf,em,eh,h1,h2,h3,h4,Int.le_trans h1 h2,Int.le_trans (Int.le_trans h1 h2) h3];done)
theorem isSome_map {α β:Type} (o:Option α) (f:α->β):(o.map f).isSome=o.isSome:=by cases o <;> rfl
theorem nD {F F':Nat->Option (Nat×Nat)} (hF: ∀i x,F i=some x->F' i=some x): ∀{parts:List (Nat×Value)} {c cs:Array Value},
  Instr.fill F c parts=some cs->Instr.fill F' c parts=some cs
 | [],c,cs,h=>h
 | (i,v) :: rest,c,cs,h=>by
  simp only [Instr.fill] at h ⊢
  cases hi:F i with
  | none=>simp [hi] at h
  | some x=>
   obtain⟨off,size⟩:=x
   simp only [hi] at h
   simp only [hF i _ hi]
   split
   ·rename_i hc;rw [if_pos hc] at h;cases h
   ·rename_i hc;rw [if_neg hc] at h;exact nD hF h
theorem xY {src dst:TypeId} {w:World} {s:Sl} {b:ByteArray} (hb:ia P src dst=true) (h:nz w s b):
  (convert src dst (.slice s.a s.len s.cap)).run P w=.ok (.string b) w:=by
 unfold ia at hb
 split at hb
 ·rename_i e hs hd
  split at hb
  ·rename_i he
   rw [run_convert_bytes_string w src dst e _ _ _ hs he hd]
   obtain⟨hl,⟨ha,h0⟩ | ⟨a,ha,hc⟩⟩:=h
   ·rw [ha]
    have:b=ByteArray.empty:=by
     rw [h0] at hl
     apply ByteArray.ext
     apply agM
     rw [af7 hl]
     rfl
    rw [this]
    simp [Conv.bytesToString]
   ·rw [ha]
    have ei:(loadCells a s.len).run P w=.ok ((b.data.toList.map fun x=>(x.toNat:Int)).map (Value.int .u8)).toArray w:=by
     have:=run_loadCells_list (P:=P) w a ((b.data.toList.map fun x=>(x.toNat:Int)).map (Value.int .u8)) (fun j v hj=>by
      rw [afC,afC] at hj
      cases hx:b.data.toList[j]? with
      | none=>rw [hx] at hj;cases hj
      | some y=>
       rw [hx] at hj
       simp only [agy,afy] at hj
       subst hj
       exact hc j y hx)
     rw [afP,afP,hl] at this
     exact this
    rw [run_bytesToString w a s.len s.cap _ ei,foldl_push_bytes]
    congr 2
    apply ByteArray.ext
    apply agM
    simp [ByteArray.empty,ByteArray.emptyWithCapacity]
    conv=>rhs;rw [<-List.map_id b.data.toList]
    apply ahu
    intro y _
    simp
  ·cases hb
 ·cases hb
theorem Fz {op:Op} {v:Value} (h:cr P op=false):qG P ρ op v= []:=by
 cases op <;> first | rfl | (simp [cr] at h;done) | (simp only [cr] at h;unfold qG;simp only [h])
theorem MV (hρ: ∀x v,ρ x=some v->e x=v) (E9: ∀c b x v,e (.tmp c)=.bool b->ρ' c b x=some v->e x=v)
  {op:Op} {ty:TypeId} {K:Value->Prop} (h:RQ P op ty ρ ρ' w K)
  (dst:Option Tmp) (pos:String) (after:Array Edge) (g:Option (Nat×Bool)):
  ∃v,(∀x∈qG P ρ op v,dA w x) /\ (∀w',(wl P op=true \/ (cr P op=false /\ Ext w w') \/ (cr P op=true /\ ∀x∈qG P ρ op v,dA w' x))->(execOp e ⟨dst,op,ty,pos,after,g⟩).run P w'=.ok (.value v) w') /\ K v:=by
 unfold RQ at h
 split at h
 ·rename_i x
  split at h
  ·rename_i p h1
   obtain⟨a,rfl,hK⟩:=pz h
   exact⟨_,(fun _ hx=>(by cases hx)),fun w' he=>by simp [execOp,hρ _ _ h1],hK⟩
  ·rename_i f fs cs h1
   exact⟨_,(fun _ hx=>(by cases hx)),fun w' he=>by simp [execOp,hρ _ _ h1],h⟩
  ·exact h.elim
 ·rename_i s x f
  split at h
  ·rename_i off p h1 h2
   obtain⟨a,rfl,hK⟩:=pz h
   unfold za at h1
   split at h1
   ·rename_i fs hu
    split at h1
    ·rename_i fd hf
     cases hz:Nat.beq (P.cellsOf fd.type) 0 with
     | true=>rw [hz] at h1;cases h1
     | false=>
      rw [hz] at h1
      simp only [cond_false,afy] at h1
      subst h1
      obtain⟨i,hi,hs⟩:=tL (P:=P) (t:=fd.type) rfl (by intro h0;rw [h0] at hz;cases hz)
      have qy:i.size≠0:=by rw [hs];intro h0;rw [h0] at hz;cases hz
      exact⟨_,(fun _ hx=>(by cases hx)),fun w' he=>by simp [execOp,Instr.fieldAt,run_underlying hu,hf,hρ _ _ h2,Instr.sureAddr,fieldPlace,sizeOf,typeInfo,hi,qy],hK⟩
    ·cases h1
   ·cases h1
  ·exact h.elim
 ·rename_i t x
  split at h
  ·rename_i p h1
   obtain⟨a,rfl,hK⟩:=pz h
   obtain⟨v,vT,hr,hv⟩:=zc hK
   refine⟨v,?_,fun w' he=>?_,hv⟩
   ·intro x hx
    simp only [qG,h1,afQ] at hx
    obtain⟨y,hy,rfl⟩:=hx
    exact vT y hy
   have jP: ∀x∈I9 P t a v,w'.cell? x.1=some x.2:=by
    rcases he with he | ⟨he,_⟩ | ⟨_,he⟩
    ·cases he
    ·cases he
    ·intro x hx
     exact he (.cell x.1 x.2) (by simp only [qG,h1,afQ];exact⟨x,hx,rfl⟩)
   simp [execOp,Instr.loadAt,Instr.sureAddr,hρ _ _ h1,hr w' jP]
  ·exact h.elim
 ·rename_i t x ix
  split at h
  ·rename_i el s len cap k i hu h1 h2
   split at h
   ·rename_i inf hi
    obtain⟨h3,h4,h5⟩:=h
    obtain⟨a,rfl,hK⟩:=pz h5
    exact⟨_,(fun _ hx=>(by cases hx)),fun w' he=>by simp [execOp,Instr.indexAt,run_underlying hu,hρ _ _ h1,hρ _ _ h2,asIntOf,h3,h4,sizeOf,typeInfo,hi],hK⟩
   ·exact h.elim
  ·rename_i len el p k i hu h1 h2
   split at h
   ·rename_i inf hi
    obtain⟨a,rfl,h3,h4,hK⟩:=pz h
    exact⟨_,(fun _ hx=>(by cases hx)),fun w' he=>by simp [execOp,Instr.indexAt,run_underlying hu,hρ _ _ h1,hρ _ _ h2,asIntOf,h3,h4,sizeOf,typeInfo,hi,Instr.sureAddr],hK⟩
   ·exact h.elim
  ·exact h.elim
 ·rename_i t x ix
  split at h
  ·rename_i s k i hu h1 h2
   obtain⟨h3,b,hb,hK⟩:=h
   exact⟨_,(fun _ hx=>(by cases hx)),fun w' he=>by simp [execOp,Instr.index,run_underlying hu,hρ _ _ h1,hρ _ _ h2,asIntOf,h3,hb],hK⟩
  ·exact h.elim
 ·rename_i t x lo hi mx
  split at h
  ·rename_i el a len cap hu h1
   split at h
   ·rename_i inf ic
    cases hb:(mx.isSome && hi.isNone) with
    | true=>rw [hb] at h;exact h.elim
    | false=>
     rw [hb] at h
     simp only [cond_false] at h
     obtain⟨m,a1,ha⟩:=ib hρ h
     obtain⟨h',a2,iV⟩:=ib hρ ha
     obtain⟨l,a3,c1,c2,c3,c4,hK⟩:=ib hρ iV
     simp only at c4
     have MW:=fun w'=>iI (P:=P) (w:=w') (b:=true) a1 a2 a3 (by
      rw [isSome_map,isSome_map];intro hm;rw [hm] at hb;cases hi <;> simp_all) c1 c2 c3 c4
     refine⟨_,(fun _ hx=>(by cases hx)),fun w' he=>?_,hK⟩
     simp only [execOp,Instr.sliceAt,Instr.slice,Sem.run_bind,run_underlying hu,Result.andThen_ok,hρ _ _ h1,MW,sizeOf,typeInfo,run_program,ic,Sem.run_pure]
   ·exact h.elim
  ·rename_i n el p hu h1
   split at h
   ·rename_i inf ic
    cases hb:(mx.isSome && hi.isNone) with
    | true=>rw [hb] at h;exact h.elim
    | false=>
     rw [hb] at h
     simp only [cond_false] at h
     obtain⟨a,rfl,hn⟩:=pz h
     obtain⟨m,a1,ha⟩:=ib hρ hn
     obtain⟨h',a2,iV⟩:=ib hρ ha
     obtain⟨l,a3,c1,c2,c3,c4,hK⟩:=ib hρ iV
     have MW:=fun w'=>iI (P:=P) (w:=w') (b:=false) a1 a2 a3 (by
      rw [isSome_map,isSome_map];intro hm;rw [hm] at hb;cases hi <;> simp_all) c1 c2 c3 c4
     refine⟨_,(fun _ hx=>(by cases hx)),fun w' he=>?_,hK⟩
     simp only [execOp,Instr.sliceAt,Sem.run_bind,run_underlying hu,Result.andThen_ok,hρ _ _ h1,Instr.sureAddr,MW,sizeOf,typeInfo,run_program,ic,Sem.run_pure]
   ·exact h.elim
  ·rename_i s hu h1
   cases hb:mx.isSome with
   | true=>rw [hb] at h;exact h.elim
   | false=>
    rw [hb] at h
    simp only [cond_false] at h
    obtain rfl:mx=none:=by simpa using hb
    obtain⟨h',a2,iV⟩:=ib hρ h
    obtain⟨l,a3,c1,c2,c3,hK⟩:=ib hρ iV
    have MW:=fun w'=>iI (P:=P) (w:=w') (b:=false) (mx:=none) (m:=s.size) (.inl ⟨rfl,rfl⟩) a2 a3 (by simp) c1 c2 c3 (agr _)
    refine⟨_,(fun _ hx=>(by cases hx)),fun w' he=>?_,hK⟩
    simp [execOp,Instr.sliceAt,Instr.slice,run_underlying hu,hρ _ _ h1,MW]
  ·exact h.elim
 ·rename_i o t x y Q9
  split at h
  ·rename_i a b h1 h2
   have e1:=hρ _ _ h1
   have e2:=hρ _ _ h2
   have fin: ∀v w',(cl o t x y a b).run P w'=.ok v w'->(execOp e ⟨dst,.binOp o t x y Q9,ty,pos,after,g⟩).run P w'=.ok (.value v) w':=by
    intro v w' hr
    unfold cl at hr
    simp only [execOp,e1,e2]
    rw [Sem.run_bind,hr];rfl
   have ext:kJ P t=false-> ∀w',(wl P (.binOp o t x y Q9)=true \/ (cr P (.binOp o t x y Q9)=false /\ Ext w w') \/ (cr P (.binOp o t x y Q9)=true /\ ∀z∈qG P ρ (.binOp o t x y Q9) (.bool true),dA w' z))->Ext w w':=by
    intro hp w' he
    rcases he with he | ⟨_,he⟩ | ⟨he,_⟩
    ·simp [wl,hp] at he
    ·exact he
    ·cases he
   cases hb:tK P t with
   | true=>
    rw [hb] at h
    obtain⟨r,hr,hK⟩:=h
    have hp:kJ P t=false:=by
     unfold tK at hb
     unfold kJ
     split at hb <;> simp_all
    exact⟨_,(fun _ hx=>(by cases hx)),fun w' he=>fin _ w' (hr w' (ext hp w' he)),hK⟩
   | false=>
    rw [hb] at h
    simp only [cond_false] at h
    split at h
    ·rename_i v hv
     exact⟨v,(fun _ hx=>(by cases hx)),fun w' _=>fin v w' (tJ hv),h⟩
    ·cases hp:kJ P t with
     | true=>
      rw [hp] at h
      obtain⟨v,hr,hK⟩:=Fy (P:=P) (t:=t) (x:=x) (y:=y) h
      exact⟨v,(fun _ hx=>(by cases hx)),fun w' _=>fin v w' (hr w'),hK⟩
     | false=>
      rw [hp] at h
      obtain⟨r,hr,hK⟩:=h
      exact⟨_,(fun _ hx=>(by cases hx)),fun w' he=>fin _ w' (hr w' (ext hp w' he)),hK⟩
  ·exact h.elim
 ·rename_i t parts
  have hz: ∀(kg:List (Nat×Nat×TypeId)) (vs:List Value) (z:Value) (F:Nat->Option (Nat×Nat)),qF ρ (parts.toList.map (·.2))=some vs->
    (∀i,F i=(kg[i]?).map fun x=>(x.1,x.2.1))->
    rQ P kg z.cells.toList ((parts.toList.map (·.1)).zip vs) (fun cs=>K (.agg cs.toArray))->
    ∃cs:Array Value,Instr.fill F z.cells (parts.map fun(i,x)=>(i,e x)).toList=some cs /\ K (.agg cs):=by
   intro kg vs z F hm hF hd
   obtain⟨cs,hc,hK⟩:=pw hd
   refine⟨cs,?_,by simpa using hK⟩
   have e1:=jW hρ hm
   have:(parts.map fun(i,x)=>(i,e x)).toList=(parts.toList.map (·.1)).zip vs:=by
    rw [<-e1]
    simp only [aif,ahy]
    generalize parts.toList=ps
    induction ps with
    | nil=>rfl
    | cons p ps ih=>simp [ih]
   rw [this,<-hc]
   congr 1
   funext i
   exact hF i
  split at h
  ·rename_i fs inf vs hu hi hm
   split at h
   ·rename_i z V5
    cases hb:(fs.toList.all fun f=>(P.info? f.type).isSome) with
    | false=>rw [hb] at h;exact h.elim
    | true=>
     rw [hb] at h
     simp only [cond_true] at h
     have bF: ∀f∈fs.toList,∃i,P.info? f.type=some i:=fun f hf=>agL.1 (agw.1 hb f hf)
     have V6: ∀w,(fs.mapM fun f=>(do pure (f.offset,<-sizeOf f.type):Sem (Nat×Nat))).run P w=.ok (fs.map fun f=>(f.offset,P.cellsOf f.type)) w:=by
      intro w
      have key: ∀(l:List Field),(∀f∈l,∃i,P.info? f.type=some i)->
        (l.mapM fun f=>(do pure (f.offset,<-sizeOf f.type):Sem (Nat×Nat))).run P w=.ok (l.map fun f=>(f.offset,P.cellsOf f.type)) w:=by
       intro l
       induction l with
       | nil=>intro _;simp
       | cons f l ih=>
        intro cW
        obtain⟨i,fK⟩:=cW f (by simp)
        have MX:=ih (fun f' wK=>cW f' (by simp [wK]))
        have hs:(sizeOf f.type).run P w=.ok i.size w:=by simp [sizeOf,typeInfo,fK]
        simp only [List.mapM_cons,Sem.run_bind,hs,Result.andThen_ok,Sem.run_pure,MX,agl,oG fK]
      rw [Array.mapM_eq_mapM_toList,Sem.run_map,key _ bF]
      simp only [Result.andThen_ok]
      congr 1
      apply agM
      simp
     obtain⟨cs,hc,hK⟩:=hz _ vs z (fun i=>(fs.map fun f=>(f.offset,P.cellsOf f.type))[i]?) hm (fun i=>by simp;cases fs[i]? <;> rfl) h
     refine⟨_,(fun _ hx=>(by cases hx)),fun w' he=>?_,hK⟩
     simp only [execOp,Instr.build,Sem.run_bind,zeroValue,typeInfo,run_program,Result.andThen_ok,hi,Sem.run_pure,V5,run_underlying hu,V6,hc]
   ·exact h.elim
  ·rename_i n el inf vs hu hi hm
   split at h
   ·rename_i z V5
    cases hb:(P.info? el).isNone with
    | true=>rw [hb] at h;exact h.elim
    | false=>
     rw [hb] at h
     simp only [cond_false] at h
     obtain⟨ie,ZX⟩: ∃i,P.info? el=some i:=by
      cases he:P.info? el with
      | none=>simp [he] at hb
      | some i=>exact⟨i,rfl⟩
     obtain⟨cs,hc,hK⟩:=hz _ vs z _ hm (fun i=>rfl) h
     have MY:=nD (F':=fun i=>some (i*ie.size,ie.size)) (by
      intro i x hx
      simp only [af2] at hx
      obtain⟨y,hy,rfl⟩:=hx
      simp only [afC,af2] at hy
      obtain⟨j,hj,rfl⟩:=hy
      have:=aft.1 hj
      obtain⟨ar,dI⟩:=this
      simp only [List.getElem_range] at dI
      subst dI
      simp [oG ZX]) hc
     refine⟨_,(fun _ hx=>(by cases hx)),fun w' he=>?_,hK⟩
     simp only [execOp,Instr.build,Sem.run_bind,zeroValue,typeInfo,run_program,Result.andThen_ok,hi,Sem.run_pure,V5,run_underlying hu,sizeOf,ZX,MY]
   ·exact h.elim
  ·exact h.elim
 ·rename_i t x ix ok
  split at h
  ·rename_i m k h1 h2
   obtain⟨v,hr,hv⟩:=h
   obtain⟨cs,hK,he⟩:=cO hv
   rw [he] at hK
   refine⟨v,(fun _ hx=>(by cases hx)),fun w' he=>?_,hK⟩
   have jP:Ext w w':=by
    rcases he with he | ⟨_,he⟩ | ⟨he,_⟩
    ·cases he
    ·exact he
    ·cases he
   simp [execOp,hρ _ _ h1,hρ _ _ h2,hr w' jP]
  ·exact h.elim
 ·rename_i x xt A1 ok
  split at h
  ·rename_i v0 h1
   obtain⟨v,hr,hv⟩:=h
   obtain⟨cs,hK,he⟩:=cO hv
   rw [he] at hK
   refine⟨v,(fun _ hx=>(by cases hx)),fun w' he=>?_,hK⟩
   have jP:Ext w w':=by
    rcases he with he | ⟨_,he⟩ | ⟨he,_⟩
    ·cases he
    ·exact he
    ·cases he
   simp [execOp,hρ _ _ h1,hr w' jP]
  ·exact h.elim
 ·rename_i c
  cases hb:xX P c with
  | true=>
   rw [hb] at h
   simp only [cond_true] at h
   split at h
   ·rename_i vs hm
    obtain⟨n,hr,hK⟩:=h
    have e1:=jW hρ hm
    have a1:c.args.map e=vs.toArray:=agM (by simp [e1])
    refine⟨_,(fun _ hx=>(by cases hx)),fun w' he=>?_,hK⟩
    have jP:Ext w w':=by
     rcases he with he | ⟨_,he⟩ | ⟨he,_⟩
     ·simp [wl,hb] at he
     ·exact he
     ·cases he
    obtain⟨callee,args,argTypes⟩:=c
    unfold xX at hb
    simp only at hb a1 hr
    split at hb
    ·simp only [execOp,Go.resolve,invoke,builtin,a1,Sem.run_bind,Sem.run_pure,Result.andThen_ok,hr w' jP,Kd.inj]
    ·cases hb
   ·exact h.elim
  | false=>
   rw [hb] at h
   simp only [cond_false] at h
   split at h
   ·rename_i v hv
    exact⟨v,(fun _ hx=>(by cases hx)),fun w' _=>lC hρ E9 hv dst pos after g,h⟩
   ·exact h.elim
 ·rename_i src dt x
  cases hb:ia P src dt with
  | true=>
   rw [hb] at h
   simp only at h
   split at h
   ·rename_i a len cap h1
    obtain⟨b,hB,hK⟩:=h
    refine⟨.string b,?_,fun w' he=>?_,hK⟩
    ·intro y hy
     simp only [qG,hb,h1,afF] at hy
     subst hy
     exact hB
    ·have vU:nz w' ⟨a,len,cap⟩ b:=by
      rcases he with he | ⟨he,_⟩ | ⟨_,he⟩
      ·simp [wl,hb] at he
      ·simp [cr,hb] at he
      ·exact he (.bytes ⟨a,len,cap⟩ b) (by simp [qG,hb,h1])
     have hr:=xY hb vU
     simp [execOp,hρ _ _ h1,hr]
   ·exact h.elim
  | false=>
   rw [hb] at h
   simp only at h
   split at h
   ·rename_i v hv
    exact⟨v,(fun y hy=>(by simp [qG,hb] at hy)),fun w' _=>lC hρ E9 hv dst pos after g,h⟩
   ·exact h.elim
 ·split at h
  ·rename_i v hv
   exact⟨v,(fun x hx=>(by rw [Fz (by cases op <;> first | rfl | (exfalso;simp_all))] at hx;cases hx)),fun w' _=>lC hρ E9 hv dst pos after g,h⟩
  ·exact h.elim
end
end Go.Den
end

section
namespace Go.Den
structure yT (P:Program):Prop where
 mixed:P.follows .mixedOrders=true
 names : (P.funcs.toList.all fun f => f.name != "runtime.NumGoroutine") = true
def mA (z:List Value):Nat->List Value
 | 0=> []
 | n+1=>z++mA z n
def Mk (z:List Value) (el:TypeId) (bytes:Nat) (l c:Int) (w:World) (K:Sl->World->Prop):Prop:=
 0<=l /\ l<=c /\ c<=281474976710656 /\ bytes*c<=281474976710656 /\
  Nw (.cells (mA z c.toNat).toArray el) w fun a w'=>K ⟨some a,l.toNat,c.toNat⟩ w'
def FA (P:Program) (v:Value) (args:List Value) (mu:List Sh) (w:World) (R:Fn (mc mu) (World->Prop)):Prop:=
 ∃f first captured,v=.func (.func f) first captured /\ (∃fn,P.funcs[f]? =some fn /\ fn.body.isSome=true) /\ av P f (first.toList++args++captured.toList) mu w R
def V7 (P:Program) (v:Value) (ty:TypeId) (w:World) (K0:World->Prop) (K1:Value->Value->World->Prop):Prop:=
 ∃u w',(Instr.next v false ty).run P w=.ok u w' /\ ((u=.tuple #[.bool false] /\ K0 w') \/ ∃k x,u=.tuple #[.bool true,k,x] /\ K1 k x w')
def V8 (P:Program) (v:Value) (w:World) (K:Value->Value->World->Prop):Prop:=
 ∃k x,(Instr.entry v).run P w=.ok (.tuple #[k,x]) w /\ K k x w
def CP (P:Program) (f:FuncId) (args:List Value) (mu:List Sh) (w:World) (R:Fn (mc mu) (World->Prop)):Prop:=
 ∃v w',(callFunc f args.toArray).run P w=.ok (.value v) w' /\ eM mu v R w'
def MZ (P:Program) (op:Op) (ty:TypeId) (ρ:Operand->Option Value) (w:World) (K:Value->World->Prop):Prop:=
 match op with
 | .alloc el=>
  match P.info? el with
  | some i=>match i.zero with
   | some z=>Nw (.cells z.cells el) w fun a w'=>K (.pointer (some a)) w'
   | none=>False
  | none=>False
 | .box el x=>
  match ρ x with
  | some v=>qE P el v fun cs=>Nw (.cells cs.toArray el) w fun a w'=>K (.pointer (some a)) w'
  | none=>False
 | .buildSlice t len parts=>
  match P.underlying t,qF ρ (parts.toList.map (·.2)) with
  | some (.slice el),some vs=>match P.info? el with
   | some inf=>match inf.zero with
    | some z=>cond (Nat.beq len 0) (match parts.toList with
      | []=>Nw (.cells #[] el) w fun a w'=>K (.slice (some a) 0 0) w'
      | _=>False) <| cond (Nat.ble (len*inf.size) 1000000 && Nat.beq z.cells.size inf.size && !Nat.beq (len*inf.size) 0)
      (rQ P ((List.range len).map fun i=>(i*inf.size,inf.size,el)) (mA z.cells.toList len) ((parts.toList.map (·.1)).zip vs) fun cs=>
       Nw (.cells cs.toArray el) w fun a w'=>K (.slice (some a) len len) w') False
    | none=>False
   | none=>False
  | _,_=>False
 | .store t x y=>
  match ρ x,ρ y with
  | some (.pointer p),some v=>NN p fun a=>qE P t v fun cs=>cond (Nat.beq cs.length (P.cellsOf t) && !Nat.beq (P.cellsOf t) 0) (VZ a cs 0 w fun w'=>K undef w') False
  | _,_=>False
 | .makeSlice t x y=>
  match P.underlying t,ρ x,ρ y with
  | some (.slice el),some (.int _ l),some (.int _ c)=>match P.info? el with
   | some inf=>match inf.zero with
    | some z=>cond (Nat.beq z.cells.size inf.size && !Nat.beq inf.size 0)
      (Mk z.cells.toList el inf.bytes l c w fun s w'=>K (.slice s.a s.len s.cap) w') False
    | none=>False
   | none=>False
  | _,_,_=>False
 | .makeMap t r=>
  match r with
  | none=>Nw (.map #[] 0) w fun a w'=>K (.map (some a.block)) w'
  | some x=>match P.underlying t,ρ x with
   | some (.map _ _),some (.int _ _)=>Nw (.map #[] 0) w fun a w'=>K (.map (some a.block)) w'
   | _,_=>False
 | .mapUpdate t m k x=>
  match ρ m,ρ k,ρ x with
  | some m,some k,some x=>sN P (Instr.mapUpdate t m k x) w fun w'=>K undef w'
  | _,_,_=>False
 | .insert t m k x=>
  match ρ m,ρ k,ρ x with
  | some m,some k,some x=>sN P (Instr.mapUpdate t m k x) w fun w'=>K undef w'
  | _,_,_=>False
 | .range t x=>
  match ρ x with
  | some v=>bZ .p P (Instr.range t v) w fun p w'=>K (.pointer p) w'
  | none=>False
 | .next it isStr=>
  match ρ it with
  | some v=>cond isStr (V3 (fT P ty) P (Instr.next v isStr ty) w (curry _ fun cs w'=>K (iP (gQ (fT P ty) cs)) w'))
    (V7 P v ty w (fun w'=>K (.tuple #[.bool false]) w') fun k x w'=>K (.tuple #[.bool true,k,x]) w')
  | none=>False
 | .entry it=>
  match ρ it with
  | some v=>V8 P v w fun k x w'=>K (.tuple #[k,x]) w'
  | none=>False
 | .convert src dst x=>
  match P.underlying dst,ρ x with
  | some d,some v=>bZ (lz d) P (convert src dst v) w fun r w'=>K ((lz d).inj r) w'
  | _,_=>False
 | .call c=>
  match qF ρ c.args.toList with
  | none=>False
  | some vs=>
   match c.callee with
   | .value (.func f)=>match P.funcs[f]? with
    | some fn=>cond fn.body.isSome
      (av P f vs (fn.resultTypes.toList.map (shapeOf P)) w (curry _ fun cs w'=>K (iP (gQ (fn.resultTypes.toList.map (shapeOf P)) cs)) w'))
      (CP P f vs (fn.resultTypes.toList.map (shapeOf P)) w (curry _ fun cs w'=>K (iP (gQ (fn.resultTypes.toList.map (shapeOf P)) cs)) w'))
    | none=>False
   | .value x=>match ρ x with
    | some v=>FA P v vs (fT P ty) w (curry _ fun cs w'=>K (iP (gQ (fT P ty) cs)) w')
    | none=>False
   | .builtin .append=>bZ .sl P (Builtin.append_ c.argTypes ty vs.toArray) w fun s w'=>K (.slice s.a s.len s.cap) w'
   | .builtin .copy=>bZ (.i .i64) P (Builtin.copy_ c.argTypes ty vs.toArray) w fun n w'=>K (.int .i64 n) w'
   | .builtin .delete=>bZ .v P (Builtin.delete_ c.argTypes ty vs.toArray) w fun v w'=>K v w'
   | .builtin .clear=>bZ .v P (Builtin.clear_ c.argTypes ty vs.toArray) w fun v w'=>K v w'
   | _=>False
 | _=>False
def dM:Op->Bool
 | .alloc _ | .box _ _ | .buildSlice _ _ _ | .makeSlice _ _ _ | .makeMap _ _=>true
 | _=>false
section
variable {P:Program} {a:Act} {ρ:Operand->Option Value} {w:World} {Q:Exit->Act->World->Prop}
theorem pA {f:FuncId} {fn:Func} {args:Array Value} (hP:yT P) (hf:P.funcs[f]? =some fn) (hb:fn.body.isSome=true):
  (callFunc f args).run P w=.ok (.enter f args) w:=by
 have hn : fn.name ≠ "runtime.NumGoroutine" := by
  have:=agw.1 hP.names fn (by
   obtain⟨h1,h2⟩:=afL.1 hf
   rw [<-h2];simp)
  simpa using this
 obtain⟨c,hc⟩:=agL.1 hb
 simp [callFunc,hf,hn,hc]
theorem pB {z:List Value}: ∀(n i:Nat),i < n*z.length->(mA z n)[i]? =z[i % z.length]?
 | 0,i,h=>by simp at h
 | n+1,i,h=>by
  simp only [mA]
  rw [ahw,ah9] at h
  by_cases hi:i < z.length
  ·rw [afx hi,Nat.mod_eq_of_lt hi]
  ·rw [afv (by omega),pB n (i - z.length) (by omega)]
   congr 1
   have:i=(i - z.length)+z.length:=by omega
   conv=>rhs;rw [this]
   simp
theorem rR {z:List Value}: ∀n,(mA z n).length=n*z.length
 | 0=>by simp [mA]
 | n+1=>by simp [mA,rR n,ahw];omega
theorem xZ {z:Array Value} (n:Nat):(Array.range (n*z.size)).map (fun i=>z[i % z.size]!)=(mA z.toList n).toArray:=by
 apply agM
 apply agd
 intro i
 simp only [aif,Array.toList_range,afC]
 by_cases hi:i < n*z.size
 ·rw [agV hi,pB n i (by simpa using hi)]
  have hz:0 < z.size:=by
   rcases agY z.size with h | h
   ·rw [h] at hi;simp at hi
   ·exact h
  have hm:=Nat.mod_lt i hz
  simp [hm]
 ·have h1:(List.range (n*z.size))[i]? =none:=by simp;omega
  have h2:(mA z.toList n)[i]? =none:=by simp [rR];omega
  rw [h1];simp [h2]
theorem run_makeSlice {t el:TypeId} {inf:TypeInfo} {z:Value} {k k':IntKind} {l c:Int} (hu:P.underlying t=some (.slice el)) (hi:P.info? el=some inf) (hz:inf.zero=some z)
  (hs:z.cells.size=inf.size) (qH:inf.size≠0) (h1:0<=l) (h2:l<=c) (h3:c<=281474976710656) (h4:inf.bytes*c<=281474976710656):
  (Instr.makeSlice t (.int k l) (.int k' c)).run P w=.ok (.slice (some ⟨w.heap.size,0,none⟩) l.toNat c.toNat) (w.alloc (.cells (mA z.cells.toList c.toNat).toArray el)):=by
 have w1:IntKind.i64.wrap l=l:=by simp only [IntKind.wrap,IntKind.bits,IntKind.signed,agW,decide_eq_true_eq,ge_iff_le];split <;> omega
 have w2:IntKind.i64.wrap c=c:=by simp only [IntKind.wrap,IntKind.bits,IntKind.signed,agW,decide_eq_true_eq,ge_iff_le];split <;> omega
 have ei:=xZ (z:=z.cells) c.toNat
 rw [hs] at ei
 have e48:(2:Int) ^ 48=281474976710656:=by decide
 simp only [Instr.makeSlice,Sem.run_bind,run_underlying hu,Result.andThen_ok,asInt,asIntOf,Sem.run_pure,typeInfo,run_program,hi,w1,w2,e48]
 have hA:(c < 0 || decide (inf.bytes*c > 281474976710656))=false:=by simp;omega
 have hB:decide (l < 0)=false:=by simp;omega
 have hC:decide (l > c)=false:=by simp;omega
 simp only [hA,hB,hC,Bool.or_self,agD,if_false,Sem.run_bind,run_askRoom,Result.andThen_ok,sizeOf,typeInfo,run_program,hi,Sem.run_pure]
 by_cases hc:c.toNat*inf.size=0
 ·have ya:c.toNat=0:=by
   rcases Nat.mul_eq_zero.1 hc with h | h
   ·exact h
   ·exact absurd h qH
  have e0:Array.range 0=#[]:=rfl
  simp [hc,ya,newRow,mA,e0]
 ·simp only [if_neg hc,Sem.run_bind,zeroValue,typeInfo,run_program,Result.andThen_ok,hi,Sem.run_pure,hz,newRow,run_newObj]
  simp only [hs,ei,World.alloc_eq]
theorem Ja (hP:yT P) (hρ: ∀x v,ρ x=some v->a.eval x=v) {op:Op} {ty:TypeId} {K:Value->World->Prop} (h:MZ P op ty ρ w K)
  (dst:Option Tmp) (pos:String) (after:Array Edge) (g:Option (Nat×Bool)):
  (⟨dst,op,ty,pos,after,g⟩:Oper).wp P a w (fun a' w'=> ∃v,a'=a.put dst v /\ K v w' /\ (dM op=true->Ext w w')) Q:=by
 have val: ∀{v w'},(execOp a.eval ⟨dst,op,ty,pos,after,g⟩).run P w=.ok (.value v) w'->(dM op=true->Ext w w')->K v w'->
   (⟨dst,op,ty,pos,after,g⟩:Oper).wp P a w (fun a' w'=> ∃v,a'=a.put dst v /\ K v w' /\ (dM op=true->Ext w w')) Q:=by
  intro v w' hr hx hK
  unfold Oper.wp
  rw [hr]
  exact⟨v,rfl,hK,hx⟩
 have V9: ∀{w'},(execOp a.eval ⟨dst,op,ty,pos,after,g⟩).run P w=.ok .skip w'->(dM op=true->Ext w w')->K undef w'->
   (⟨dst,op,ty,pos,after,g⟩:Oper).wp P a w (fun a' w'=> ∃v,a'=a.put dst v /\ K v w' /\ (dM op=true->Ext w w')) Q:=by
  intro w' hr hx hK
  unfold Oper.wp
  rw [hr]
  exact⟨undef,rfl,hK,hx⟩
 unfold MZ at h
 split at h
 ·rename_i el
  split at h
  ·rename_i i hi
   split at h
   ·rename_i z hz
    refine val (v:=.pointer (some ⟨w.heap.size,0,none⟩)) (w':=w.alloc (.cells z.cells el)) ?_ (fun _=>Ext.alloc _ _) h
    simp [execOp,Instr.alloc,zeroValue,typeInfo,hi,hz,newVar,newRow]
   ·exact h.elim
  ·exact h.elim
 ·rename_i el x
  split at h
  ·rename_i v hv
   have h1:=nA h
   refine val (v:=.pointer (some ⟨w.heap.size,0,none⟩)) (w':=w.alloc (.cells v.cells.toList.toArray el)) ?_ (fun _=>Ext.alloc _ _) h1
   simp [execOp,Instr.box,newVar,newRow,hρ _ _ hv]
  ·exact h.elim
 ·rename_i t len parts
  split at h
  ·rename_i el vs hu hm
   split at h
   ·rename_i inf hi
    split at h
    ·rename_i z hz
     cases qI:Nat.beq len 0 with
     | true=>
      rw [qI] at h
      simp only [cond_true] at h
      obtain rfl:=afS qI
      split at h
      ·rename_i hp
       have tM:parts=#[]:=agM (by simpa using hp)
       subst tM
       refine val (v:=.slice (some ⟨w.heap.size,0,none⟩) 0 0) (w':=w.alloc (.cells #[] el)) ?_ (fun _=>Ext.alloc _ _) h
       have e0:Array.range 0=#[]:=rfl
       simp [execOp,Instr.buildSlice,run_underlying hu,sizeOf,typeInfo,hi,Instr.fill,newRow,e0]
      ·exact h.elim
     | false=>
     rw [qI] at h
     simp only [cond_false] at h
     cases hb:(Nat.ble (len*inf.size) 1000000 && Nat.beq z.cells.size inf.size && !Nat.beq (len*inf.size) 0) with
     | false=>rw [hb] at h;exact h.elim
     | true=>
      rw [hb] at h
      simp only [cond_true] at h
      simp only [afW,agb] at hb
      obtain⟨⟨lr,eU⟩,pC⟩:=hb
      have hle:len*inf.size<=1000000:=ahB lr
      have dw:z.cells.size=inf.size:=afS eU
      have Wa:len*inf.size≠0:=by intro h0;rw [h0] at pC;cases pC
      obtain⟨cs,hc,hK⟩:=pw h
      have MY:=nD (F':=fun i=>some (i*inf.size,inf.size)) (by
       intro i x hx
       simp only [af2] at hx
       obtain⟨y,hy,rfl⟩:=hx
       simp only [afC,af2] at hy
       obtain⟨j,hj,rfl⟩:=hy
       obtain⟨ar,dI⟩:=aft.1 hj
       simp only [List.getElem_range] at dI
       subst dI
       rfl) hc
      have e1:=jW hρ hm
      have mB:(parts.map fun(i,x)=>(i,a.eval x)).toList=(parts.toList.map (·.1)).zip vs:=by
       rw [<-e1]
       simp only [aif,ahy]
       generalize parts.toList=ps
       induction ps with
       | nil=>rfl
       | cons p ps ih=>simp [ih]
      have ei:=xZ (z:=z.cells) len
      rw [dw] at ei
      refine val (v:=.slice (some ⟨w.heap.size,0,none⟩) len len) (w':=w.alloc (.cells cs.toList.toArray el)) ?_ (fun _=>Ext.alloc _ _) hK
      have Wb: ¬(len*inf.size > 2 ^ 24):=by
       have:(2:Nat) ^ 24=16777216:=by decide
       omega
      simp only [execOp,Instr.buildSlice,Sem.run_bind,run_underlying hu,Result.andThen_ok,sizeOf,typeInfo,run_program,hi,Sem.run_pure,if_neg Wb,if_neg Wa,zeroValue,hz,dw,ei,mB,MY,newRow,
       run_newObj,World.alloc_eq,Array.toArray_toList]
    ·exact h.elim
   ·exact h.elim
  ·exact h.elim
 ·rename_i t x y
  split at h
  ·rename_i p v h1 h2
   obtain⟨ad,rfl,h3⟩:=pz h
   have h4:=nA h3
   cases hb:(Nat.beq v.cells.toList.length (P.cellsOf t) && !Nat.beq (P.cellsOf t) 0) with
   | false=>rw [hb] at h4;exact h4.elim
   | true=>
    rw [hb] at h4
    simp only [afW,agb] at hb
    obtain⟨w',hr,hK⟩:=Fw (P:=P) h4
    have hn:v.cells.size=P.cellsOf t:=by simpa using afS hb.1
    obtain⟨i,hi,vW⟩:=tL (P:=P) (t:=t) rfl (by intro h0;rw [h0] at hb;exact absurd hb.2 (by decide))
    refine V9 (w':=w') ?_ (fun h=>by cases h) hK
    have:v.cells.size=i.size:=by rw [hn,vW]
    simp [execOp,Instr.storeAt,Instr.sureAddr,hρ _ _ h1,hρ _ _ h2,storeVar,sizeOf,typeInfo,hi,this,hr]
  ·exact h.elim
 ·rename_i t x y
  split at h
  ·rename_i el k l k' c hu h1 h2
   split at h
   ·rename_i inf hi
    split at h
    ·rename_i z hz
     cases hb:(Nat.beq z.cells.size inf.size && !Nat.beq inf.size 0) with
     | false=>rw [hb] at h;exact h.elim
     | true=>
      rw [hb] at h
      simp only [cond_true] at h
      simp only [afW,agb] at hb
      obtain⟨c1,c2,c3,c4,hK⟩:=h
      refine val (v:=.slice (some ⟨w.heap.size,0,none⟩) l.toNat c.toNat) (w':=w.alloc (.cells (mA z.cells.toList c.toNat).toArray el)) ?_ (fun _=>Ext.alloc _ _) hK
      have:=run_makeSlice (P:=P) (w:=w) (k:=k) (k':=k') hu hi hz (afS hb.1) (by intro h0;rw [h0] at hb;exact absurd hb.2 (by decide)) c1 c2 c3 c4
      simp [execOp,hρ _ _ h1,hρ _ _ h2,this]
    ·exact h.elim
   ·exact h.elim
  ·exact h.elim
 ·rename_i t r
  split at h
  ·refine val (v:=.map (some w.heap.size)) (w':=w.alloc (.map #[] 0)) ?_ (fun _=>Ext.alloc _ _) h
   simp [execOp,Instr.makeMap]
  ·rename_i x
   split at h
   ·rename_i k el kk n hu h1
    refine val (v:=.map (some w.heap.size)) (w':=w.alloc (.map #[] 0)) ?_ (fun _=>Ext.alloc _ _) h
    simp [execOp,Instr.makeMap,run_underlying hu,hρ _ _ h1,asInt,asIntOf]
   ·exact h.elim
 ·rename_i t m k x
  split at h
  ·rename_i m' k' x' h1 h2 h3
   obtain⟨w',hr,hK⟩:=h
   exact V9 (by simp [execOp,hρ _ _ h1,hρ _ _ h2,hρ _ _ h3,hr]) (fun h=>by cases h) hK
  ·exact h.elim
 ·rename_i t m k x
  split at h
  ·rename_i m' k' x' h1 h2 h3
   obtain⟨w',hr,hK⟩:=h
   exact V9 (by simp [execOp,hρ _ _ h1,hρ _ _ h2,hρ _ _ h3,hr]) (fun h=>by cases h) hK
  ·exact h.elim
 ·rename_i t x
  split at h
  ·rename_i v h1
   obtain⟨p,w',hr,hK⟩:=h
   exact val (by simp only [execOp,hρ _ _ h1,Sem.run_bind,hr,Result.andThen_ok,Sem.run_pure,Kd.inj]) (fun h=>by cases h) hK
  ·exact h.elim
 ·rename_i it isStr
  split at h
  ·rename_i v0 h1
   cases isStr with
   | true=>
    obtain⟨v,w',hr,hv⟩:=h
    obtain⟨cs,hK,he⟩:=cO hv
    rw [he] at hK
    exact val (by simp [execOp,hρ _ _ h1,hr]) (fun h=>by cases h) hK
   | false=>
    obtain⟨v,w',hr,hv⟩:=h
    rcases hv with ⟨he,hK⟩ | ⟨k,x,he,hK⟩
    ·rw [<-he] at hK
     exact val (by simp [execOp,hρ _ _ h1,hr]) (fun h=>by cases h) hK
    ·rw [<-he] at hK
     exact val (by simp [execOp,hρ _ _ h1,hr]) (fun h=>by cases h) hK
  ·exact h.elim
 ·rename_i it
  split at h
  ·rename_i v0 h1
   obtain⟨k,x,hr,hK⟩:=h
   exact val (by simp [execOp,hρ _ _ h1,hr]) (fun h=>by cases h) hK
  ·exact h.elim
 ·rename_i src V4 x
  split at h
  ·rename_i d v hd h1
   obtain⟨r,w',hr,hK⟩:=h
   exact val (by simp [execOp,hρ _ _ h1,hr]) (fun h=>by cases h) hK
  ·exact h.elim
 ·rename_i c
  split at h
  ·exact h.elim
  ·rename_i vs hm
   have e1:=jW hρ hm
   obtain⟨callee,args,argTypes⟩:=c
   simp only at h hm e1
   have a1:args.map a.eval=vs.toArray:=agM (by simp [e1])
   split at h
   ·rename_i f
    split at h
    ·rename_i fn hf
     cases hb:fn.body.isSome with
     | false=>
      rw [hb] at h
      simp only [cond_false] at h
      obtain⟨v,w',hr,hv⟩:=h
      obtain⟨cs,hK,he⟩:=cO hv
      rw [he] at hK
      exact val (by simp [execOp,Go.resolve,Act.eval,Deferred.ofValue,invoke,a1,hr]) (fun h=>by cases h) hK
     | true=>
      rw [hb] at h
      simp only [cond_true] at h
      unfold Oper.wp
      have hr:(execOp a.eval ⟨dst,.call ⟨.value (.func f),args,argTypes⟩,ty,pos,after,g⟩).run P w=.ok (.enter f vs.toArray) w:=by
       simp [execOp,Go.resolve,Act.eval,Deferred.ofValue,invoke,a1,pA hP hf hb]
      rw [hr]
      refine Calls.mono h ?_
      rintro e w' ⟨v,rfl,hv⟩
      obtain⟨cs,hK,he⟩:=cO hv
      rw [he] at hK
      exact⟨v,rfl,hK,fun h=>by cases h⟩
    ·exact h.elim
   ·rename_i x hx
    split at h
    ·rename_i v h1
     obtain⟨f,first,captured,rfl,⟨fn,hf,hb⟩,RR⟩:=h
     unfold Oper.wp
     have hr:(execOp a.eval ⟨dst,.call ⟨.value x,args,argTypes⟩,ty,pos,after,g⟩).run P w=.ok (.enter f (first.toList++vs++captured.toList).toArray) w:=by
      have:=pA (w:=w) (args:=(first++vs.toArray++captured)) hP hf hb
      have e2:(first.toList++vs++captured.toList).toArray=first++vs.toArray++captured:=agM (by simp)
      rw [e2]
      simp [execOp,Go.resolve,hρ _ _ h1,Deferred.ofValue,invoke,a1]
      simpa using this
     rw [hr]
     refine Calls.mono RR ?_
     rintro e w' ⟨v,rfl,hv⟩
     obtain⟨cs,hK,he⟩:=cO hv
     rw [he] at hK
     exact⟨v,rfl,hK,fun h=>by cases h⟩
    ·exact h.elim
   ·obtain⟨s,w',hr,hK⟩:=h
    exact val (by simp only [execOp,Go.resolve,invoke,builtin,a1,Sem.run_bind,Sem.run_pure,Result.andThen_ok,hr,Kd.inj]) (fun h=>by cases h) hK
   ·obtain⟨s,w',hr,hK⟩:=h
    exact val (by simp only [execOp,Go.resolve,invoke,builtin,a1,Sem.run_bind,Sem.run_pure,Result.andThen_ok,hr,Kd.inj]) (fun h=>by cases h) hK
   ·obtain⟨s,w',hr,hK⟩:=h
    exact val (by simp only [execOp,Go.resolve,invoke,builtin,a1,Sem.run_bind,Sem.run_pure,Result.andThen_ok,hr,Kd.inj]) (fun h=>by cases h) hK
   ·obtain⟨s,w',hr,hK⟩:=h
    exact val (by simp only [execOp,Go.resolve,invoke,builtin,a1,Sem.run_bind,Sem.run_pure,Result.andThen_ok,hr,Kd.inj]) (fun h=>by cases h) hK
   ·exact h.elim
 ·exact h.elim
end
end Go.Den
end

section
namespace Go.Den
def eV (fl:dv) (d:Nat):Bool:=fl.all fun x=> !(Nat.beq x.1 d) && x.2.1.all fun g=> !(Nat.beq g.1 d)
def tN (N:Nat) (fl:dv) (dst:Option Nat) (l:Env) (v:Value) (K:Env->Prop):Prop:=
 match dst with
 | none=>K l
 | some d=>cond (Nat.blt d N && eV fl d) (K ((d,some v) :: l)) False
abbrev de:=List (Nat×xT)
structure It where
 o:Oper
 idx:Nat
 eB:Option Nat
def jt (it:It) (fp:List xT) (C:de):de:=
 match it.eB with
 | none=>C
 | some _=>fp.map (fun x=>(it.idx,x))++C
def zd (m:Nat) (w:World) (K:Prop):de->Prop
 | []=>K
 | (k,h) :: r=>cond (Nat.testBit m k) (zd m w K r) (dA w h /\ zd m w K r)
def FB (it:It) (C:de) (w:World) (K:Prop):Prop:=
 match it.eB with
 | none=>K
 | some m=>cond (dM it.o.op) K (zd m w K C)
def mC (it:It) (C:de):de:=
 match it.eB with
 | none=>C
 | some m=>C.filter fun x=> !Nat.testBit m x.1
def M0 (P:Program) (op:Op) (ty:TypeId) (ρ:Operand->Option Value) (ρ':Nat->Bool->Operand->Option Value) (w:World) (K:Value->List xT->Prop):Prop:=
 match op with
 | .load t x=>match ρ x with
  | some (.pointer p)=>NN p fun a=>zb P t w a fun v=>K v ((I9 P t a v).map fun x=>.cell x.1 x.2)
  | _=>False
 | op=>RQ P op ty ρ ρ' w fun v=>K v (qG P ρ op v)
theorem Jb {P:Program} {e:Operand->Value} {ρ:Operand->Option Value} {ρ':Nat->Bool->Operand->Option Value} {w:World}
  (hρ: ∀x v,ρ x=some v->e x=v) (E9: ∀c b x v,e (.tmp c)=.bool b->ρ' c b x=some v->e x=v)
  {op:Op} {ty:TypeId} {K:Value->List xT->Prop} (h:M0 P op ty ρ ρ' w K)
  (dst:Option Tmp) (pos:String) (after:Array Edge) (g:Option (Nat×Bool)):
  ∃v fp,(cr P op=false->fp= []) /\ (∀x∈fp,dA w x) /\ (∀w',(wl P op=true \/ (cr P op=false /\ Ext w w') \/ (cr P op=true /\ ∀x∈fp,dA w' x))->(execOp e ⟨dst,op,ty,pos,after,g⟩).run P w'=.ok (.value v) w') /\ K v fp:=by
 have key:RQ P op ty ρ ρ' w (fun v=>K v (qG P ρ op v)):=by
  unfold M0 at h
  split at h
  ·rename_i t x
   split at h
   ·rename_i p h1
    obtain⟨a,rfl,hK⟩:=pz h
    simp only [RQ,h1,NN,qG]
    exact hK
   ·exact h.elim
  ·exact h
 obtain⟨v,h1,h2,h3⟩:=MV hρ E9 key dst pos after g
 exact⟨v,_,fun hl=>Fz hl,h1,h2,h3⟩
def Wc (P:Program) (o:Oper) (w:World) (v:Value) (K:Value->Prop):Prop:=
 match o.op with
 | .extract _ _=>eM [shapeOf P o.type] v (curry _ fun cs _=>K (iP (gQ [shapeOf P o.type] cs))) w
 | _=>K v
theorem M1 {P:Program} {o:Oper} {w:World} {v:Value} {K:Value->Prop} (h:Wc P o w v K):K v:=by
 unfold Wc at h
 split at h
 ·obtain⟨cs,hK,he⟩:=cO h
  rw [he] at hK;exact hK
 ·exact h
def rS (P:Program) (N:Nat) (it:It) (l:Env) (fl:dv) (C:de) (w:World) (K:Env->de->World->Prop):Prop:=
 cond (gq P it.o.op)
  (M0 P it.o.op it.o.type (look l fl []) (fun c b=>look l fl [(c,b)]) w fun v fp=>Wc P it.o w v fun v=>tN N fl it.o.dst l v fun l'=>K l' (jt it fp C) w)
  (MZ P it.o.op it.o.type (look l fl []) w fun v w'=>FB it C w' (tN N fl it.o.dst l v fun l'=>K l' (mC it C) w'))
def fU:dv->Nat->Option (List (Nat×Bool))
 | [],_=>none
 | (d,G,_) :: r,t=>cond (Nat.beq d t) (some G) (fU r t)
def flagsOf (l:Env) (fl:dv) (g:Nat):Option (List (Nat×Bool)):=
 match gt l g with
 | some (some _)=>some []
 | some none=>fU fl g
 | none=>none
def mD (P:Program) (N:Nat) (ops:Array Oper) (split:Bool) (it:It) (l:Env) (fl:dv) (C:de) (w:World) (G:Env->dv->de->World->Prop):Prop:=
  match it.o.guard with
  | none=>rS P N it l fl C w fun l' C' w'=>G l' fl C' w'
  | some (j,want)=>
   match (ops[j]?).bind (·.dst) with
   | none=>False
   | some g=>
    match split with
    | true=>
     match gt l g with
     | some (some (.bool c))=>
      if c=true then
       cond want (rS P N it ((g,some (.bool true)) :: l) fl C w fun l' C' w'=>G l' fl C' w')
        (tN N fl it.o.dst ((g,some (.bool true)) :: l) undef fun l'=>G l' fl C w)
      else
       cond want (tN N fl it.o.dst ((g,some (.bool false)) :: l) undef fun l'=>G l' fl C w)
        (rS P N it ((g,some (.bool false)) :: l) fl C w fun l' C' w'=>G l' fl C' w')
     | some (some (.tuple _))=>tN N fl it.o.dst l undef fun l'=>G l' fl C w
     | _=>False
    | false=>
     match flagsOf l fl g with
     | none=>False
     | some G'=>
      match nB P it.o.op it.o.type (look l fl ((g,want) :: G')) (fun c b=>look l fl ((c,b) :: (g,want) :: G')),it.o.dst with
      | some v,some d=>cond (Nat.blt d N && eV fl d && ((g,want) :: G').all fun x=> !(Nat.beq x.1 d))
        (G ((d,none) :: l) ((d,(g,want) :: G',v) :: fl) C w) False
      | _,_=>False
def FC (P:Program) (N:Nat) (ops:Array Oper) (split:Bool):List It->Env->dv->de->World->(Env->World->Prop)->Prop
 | [],l,_,_,w,K=>K l w
 | it :: rest,l,fl,C,w,K=>mD P N ops split it l fl C w fun l' kK C' w'=>FC P N ops split rest l' kK C' w' K
variable {ds:List Deferred}
structure bP (ds:List Deferred) (N:Nat) (a:Act) (l:Env):Prop where
 size:a.tmps.size=N
 defers:a.defers=ds
 A1: ∀t v,gt l t=some (some v)->a.tmps[t]? =some v
def holds (a:Act) (F:List (Nat×Bool)):Prop:= ∀g∈F,a.tmps[g.1]? =some (.bool g.2)
def iJ (a:Act) (fl:dv):Prop:= ∀x∈fl,(holds a x.2.1->a.tmps[x.1]? =some x.2.2) /\ (¬holds a x.2.1->a.tmps[x.1]? =some undef)
def kL (ws:List Nat) (a a':Act):Prop:= ∀t,t ∉ ws->a'.tmps[t]? =a.tmps[t]?
theorem kL.refl (ws:List Nat) (a:Act):kL ws a a:=fun _ _=>rfl
theorem kL.trans {ws:List Nat} {a b c:Act} (h:kL ws a b) (h':kL ws b c):kL ws a c:=fun t ht=>(h' t ht).trans (h t ht)
theorem kL.mono {ws ZY:List Nat} {a b:Act} (h:kL ws a b) (hs: ∀t,t∈ws->t∈ZY):kL ZY a b:=fun t ht=>h t fun hm=>ht (hs t hm)
theorem fL {a:Act} {d t:Nat} {v:Value}:(a.put (some d) v).tmps[t]? =if t=d then (if d < a.tmps.size then some v else none) else a.tmps[t]? :=by
 simp only [Act.put,Array.getElem?_setIfInBounds]
 by_cases h:d=t
 ·subst h;simp
 ·have h':t≠d:=fun e=>h e.symm
  simp [h,h']
theorem Bj {a:Act} {G F:List (Nat×Bool)} (h:MU G F=true) (hF:holds a F):holds a G:=by
 intro g hg
 have:=agw.1 h g hg
 obtain⟨f,hf,he⟩:=ahK.1 this
 simp only [afW,beq_iff_eq] at he
 have h1:=hF f hf
 rw [afS he.1,he.2]
 exact h1
theorem ze {a:Act} {F:List (Nat×Bool)} (hF:holds a F): ∀{fl:dv} {t:Nat} {v:Value},iJ a fl->y9 F fl t=some v->a.tmps[t]? =some v
 | [],_,_,_,h=>by simp [y9] at h
 | (d,G,u) :: r,t,v,ee,h=>by
  simp only [y9] at h
  cases hb:Nat.beq d t with
  | true=>
   rw [hb] at h
   cases hs:MU G F with
   | true=>
    rw [hs] at h
    simp only [cond_true,afy] at h
    subst h
    have:=(ee (d,G,u) (by simp)).1 (Bj hs hF)
    rw [<-afS hb];exact this
   | false=>rw [hs] at h;simp at h
  | false=>
   rw [hb] at h
   exact ze hF (fun x hx=>ee x (by simp [hx])) h
theorem nE {N:Nat} {a:Act} {l:Env} {fl:dv} {F:List (Nat×Bool)} (hl:bP ds N a l) (ee:iJ a fl) (hF:holds a F) (x:Operand) (v:Value)
  (h:look l fl F x=some v):a.eval x=v:=by
 cases x with
 | tmp t=>
  simp only [look] at h
  have key:a.tmps[t]? =some v:=by
   split at h
   ·rename_i u hu
    simp only [afy] at h;subst h
    exact hl.A1 _ _ hu
   ·exact ze hF ee h
   ·cases h
  simp [Act.eval,key]
 | const u=>simp only [look,afy] at h;subst h;rfl
 | «global» g => simp only [look, afy] at h; subst h; rfl
 | func f=>simp only [look,afy] at h;subst h;rfl
theorem oq {a:Act} {c:Nat} {b:Bool} (h:a.eval (.tmp c)=.bool b):a.tmps[c]? =some (.bool b):=by
 simp only [Act.eval,ah1] at h
 cases hc:a.tmps[c]? with
 | none=>rw [hc] at h;simp [undef] at h
 | some v=>rw [hc] at h;simp at h;rw [h]
theorem kM {a:Act}:holds a []:=fun _ h=>by cases h
theorem oH {a:Act} {g:Nat} {b:Bool} {F:List (Nat×Bool)} (h:a.tmps[g]? =some (.bool b)) (hF:holds a F):holds a ((g,b) :: F):=by
 intro x hx
 rcases af1.1 hx with rfl | hx
 ·exact h
 ·exact hF x hx
theorem wL {fl:dv} {d:Nat} (h:eV fl d=true): ∀x∈fl,x.1≠d /\ ∀g∈x.2.1,g.1≠d:=by
 intro x hx
 have:=agw.1 h x hx
 simp only [afW,agb] at this
 refine⟨fun e=>by rw [e] at this;simp at this,fun g hg e=>?_⟩
 have h2:=agw.1 this.2 g hg
 rw [e] at h2;simp at h2
theorem qJ {a:Act} {F:List (Nat×Bool)} {d:Nat} {v:Value} (h: ∀g∈F,g.1≠d):holds (a.put (some d) v) F↔holds a F:=by
 constructor
 ·intro hh g hg
  have:=hh g hg
  rw [fL,if_neg (h g hg)] at this
  exact this
 ·intro hh g hg
  rw [fL,if_neg (h g hg)]
  exact hh g hg
theorem iJ.put {a:Act} {fl:dv} {d:Nat} {v:Value} (h:iJ a fl) (hf:eV fl d=true):iJ (a.put (some d) v) fl:=by
 intro x hx
 obtain⟨h1,h2⟩:=wL hf x hx
 rw [fL,if_neg h1,qJ h2]
 exact h x hx
theorem bP.put {N:Nat} {a:Act} {l:Env} {d:Nat} {v:Value} (h:bP ds N a l) (hd:d < N):bP ds N (a.put (some d) v) ((d,some v) :: l):=by
 refine⟨by simp [Act.put,h.size],by simp [Act.put,h.defers],fun t u hu=>?_⟩
 rw [fL]
 simp only [gt] at hu
 by_cases ht:t=d
 ·subst ht
  rw [if_pos rfl,if_pos (by rw [h.size];exact hd)]
  have:Nat.beq t t=true:=by simp
  rw [this] at hu
  simpa using hu
 ·rw [if_neg ht]
  have:Nat.beq d t=false:=by
   cases hb:Nat.beq d t with
   | false=>rfl
   | true=>exact absurd (afS hb).symm ht
  rw [this] at hu
  exact h.A1 t u hu
theorem bP.CQ {N:Nat} {a:Act} {l:Env} {d:Nat} {v:Value} (h:bP ds N a l):bP ds N (a.put (some d) v) ((d,none) :: l):=by
 refine⟨by simp [Act.put,h.size],by simp [Act.put,h.defers],fun t u hu=>?_⟩
 rw [fL]
 simp only [gt] at hu
 by_cases ht:t=d
 ·subst ht
  have:Nat.beq t t=true:=by simp
  rw [this] at hu
  simp at hu
 ·rw [if_neg ht]
  have:Nat.beq d t=false:=by
   cases hb:Nat.beq d t with
   | false=>rfl
   | true=>exact absurd (afS hb).symm ht
  rw [this] at hu
  exact h.A1 t u hu
theorem bP.known {N:Nat} {a:Act} {l:Env} {g:Nat} {v:Value} (h:bP ds N a l) (hg:a.tmps[g]? =some v):bP ds N a ((g,some v) :: l):=by
 refine⟨h.size,h.defers,fun t u hu=>?_⟩
 simp only [gt] at hu
 cases hb:Nat.beq g t with
 | true=>
  rw [hb] at hu
  simp only [cond_true,afy] at hu
  subst hu
  rw [<-afS hb];exact hg
 | false=>rw [hb] at hu;exact h.A1 t u hu
theorem pD {N:Nat} {fl:dv} {dst:Option Nat} {a:Act} {l:Env} {v:Value} {K:Env->Prop} (hl:bP ds N a l) (ee:iJ a fl) (h:tN N fl dst l v K):
  ∃l',bP ds N (a.put dst v) l' /\ iJ (a.put dst v) fl /\ K l':=by
 unfold tN at h
 split at h
 ·exact⟨l,hl,ee,h⟩
 ·rename_i d
  cases hb:(Nat.blt d N && eV fl d) with
  | false=>rw [hb] at h;exact h.elim
  | true=>
   rw [hb] at h
   simp only [afW] at hb
   exact⟨_,hl.put (by simpa using hb.1),ee.put hb.2,h⟩
section
variable {P:Program} {N:Nat} {ops:Array Oper}
def tO (it:It) (C:de) (w:World):Prop:=
 match it.eB with
 | none=>True
 | some m=> ∀x∈C,Nat.testBit m x.1=false->dA w x.2
theorem tP {m:Nat} {w:World} {K:Prop}: ∀{C:de},zd m w K C->(∀x∈C,Nat.testBit m x.1=false->dA w x.2) /\ K
 | [],h=>⟨fun _ hx=>(by cases hx),h⟩
 | (k,hd) :: r,h=>by
  simp only [zd] at h
  cases hb:Nat.testBit m k with
  | true=>
   rw [hb] at h
   obtain⟨h1,h2⟩:=tP h
   refine⟨fun x hx hm=>?_,h2⟩
   rcases af1.1 hx with rfl | hx
   ·rw [hb] at hm;cases hm
   ·exact h1 x hx hm
  | false=>
   rw [hb] at h
   obtain⟨h0,h⟩:=h
   obtain⟨h1,h2⟩:=tP h
   refine⟨fun x hx hm=>?_,h2⟩
   rcases af1.1 hx with rfl | hx
   ·exact h0
   ·exact h1 x hx hm
theorem FD {it:It} {C:de} {w:World} {K:Prop} (h:FB it C w K):(dM it.o.op=false->tO it C w) /\ K:=by
 obtain⟨o,idx,eB⟩:=it
 cases eB with
 | none=>exact⟨fun _=>trivial,h⟩
 | some m=>
  simp only [FB] at h
  cases hb:dM o.op with
  | true=>rw [hb] at h;exact⟨fun hh=>(by cases hh),h⟩
  | false=>
   rw [hb] at h
   obtain⟨h1,h2⟩:=tP h
   exact⟨fun _=>h1,h2⟩
def FE (P:Program) (op:Op) (fp:List xT) (w w':World):Prop:=
 wl P op=true \/ (cr P op=false /\ Ext w w') \/ (cr P op=true /\ ∀x∈fp,dA w' x)
inductive Step (ds:List Deferred) (P:Program) (N:Nat) (ops:Array Oper) (it:It) (a:Act) (C:de) (w:World) (G:Env->dv->de->World->Prop):Prop
 | val (v:Value) (l:Env) (fl:dv) (fp:List xT) (vT:cr P it.o.op=false->fp= []) (h1:Region.wanted it.o (yielded ops a.tmps)=true) (h0: ∀x∈fp,dA w x)
   (h2: ∀w',FE P it.o.op fp w w'->(execOp a.eval it.o).run P w'=.ok (.value v) w')
   (h3:bP ds N (a.put it.o.dst v) l) (h4:iJ (a.put it.o.dst v) fl) (h5:G l fl (jt it fp C) w)
 | skip (l:Env) (fl:dv) (h1:Region.wanted it.o (yielded ops a.tmps)=false) (h3:bP ds N (a.put it.o.dst undef) l) (h4:iJ (a.put it.o.dst undef) fl) (h5:G l fl C w)
 | Jc (h0:gq P it.o.op=false) (h1:Region.wanted it.o (yielded ops a.tmps)=true)
   (h2: ∀Q,it.o.wp P a w (fun a' w'=>(dM it.o.op=true->Ext w w') /\ (dM it.o.op=false->tO it C w') /\ ∃v l fl,a'=a.put it.o.dst v /\ bP ds N a' l /\ iJ a' fl /\ G l fl (mC it C) w') Q)
theorem oI (hP:yT P) {it:It} {a:Act} {l:Env} {fl:dv} {C:de} {w:World} {G:Env->dv->de->World->Prop} (hl:bP ds N a l) (ee:iJ a fl)
  (hw:Region.wanted it.o (yielded ops a.tmps)=true) (h:rS P N it l fl C w fun l' C' w'=>G l' fl C' w'):Step ds P N ops it a C w G:=by
 have hρ: ∀x v,look l fl [] x=some v->a.eval x=v:=fun x v hx=>nE hl ee kM x v hx
 have E9: ∀c b x v,a.eval (.tmp c)=.bool b->look l fl [(c,b)] x=some v->a.eval x=v:=fun c b x v hc hx=>
  nE hl ee (oH (oq hc) kM) x v hx
 unfold rS at h
 obtain⟨⟨dst,op,ty,pos,after,guard⟩,idx,eB⟩:=it
 cases hb:gq P op with
 | true=>
  simp only [hb,cond_true] at h
  obtain⟨v,fp,vT,h0,hr,hK⟩:=Jb hρ E9 h dst pos after guard
  obtain⟨l',h1,h2,h3⟩:=pD hl ee (M1 hK)
  exact .val v l' fl fp vT hw h0 hr h1 h2 h3
 | false=>
  simp only [hb,cond_false] at h
  refine .Jc hb hw fun Q=>?_
  refine Oper.wp_mono ?_ (Ja (Q:=Q) hP hρ h dst pos after guard)
  rintro a' w' ⟨v,rfl,hK,hx⟩
  obtain⟨hk,hK⟩:=FD hK
  obtain⟨l',h1,h2,h3⟩:=pD hl ee hK
  exact⟨hx,hk,v,l',fl,rfl,h1,h2,h3⟩
theorem Bk {a:Act} {j g:Nat} (hg:(ops[j]?).bind (·.dst)=some g):yielded ops a.tmps j=match a.tmps[g]? with | some (.bool b)=>some b | _=>none:=by
 unfold yielded
 rw [hg];rfl
theorem pE {split:Bool} (hP:yT P) {it:It} {a:Act} {l:Env} {fl:dv} {C:de} {w:World} {G:Env->dv->de->World->Prop} (hl:bP ds N a l) (ee:iJ a fl)
  (h:mD P N ops split it l fl C w G):Step ds P N ops it a C w G:=by
 unfold mD at h
 split at h
 ·rename_i hg
  exact oI hP hl ee (by simp [Region.wanted,hg]) h
 ·rename_i j want hg
  split at h
  ·exact h.elim
  ·rename_i g Ra
   have hy:=Bk (a:=a) Ra
   split at h
   ·split at h
    ·rename_i c hc
     have fy:=hl.A1 _ _ hc
     rw [fy] at hy
     simp only at hy
     have CR:Region.wanted it.o (yielded ops a.tmps)=(some c ==some want):=by simp [Region.wanted,hg,hy]
     split at h
     ·rename_i M3
      subst M3
      have cW:=hl.known fy
      cases want with
      | true=>exact oI hP cW ee (by rw [CR];rfl) h
      | false=>
       simp only [cond_false] at h
       obtain⟨l',h1,h2,h3⟩:=pD cW ee h
       exact .skip l' fl (by rw [CR];rfl) h1 h2 h3
     ·rename_i M3
      have hcf:c=false:=by simpa using M3
      subst hcf
      have cW:=hl.known fy
      cases want with
      | true=>
       simp only [cond_true] at h
       obtain⟨l',h1,h2,h3⟩:=pD cW ee h
       exact .skip l' fl (by rw [CR];rfl) h1 h2 h3
      | false=>exact oI hP cW ee (by rw [CR];rfl) h
    ·rename_i vs hc
     have fy:=hl.A1 _ _ hc
     rw [fy] at hy
     simp only at hy
     obtain⟨l',h1,h2,h3⟩:=pD hl ee h
     exact .skip l' fl (by simp [Region.wanted,hg,hy]) h1 h2 h3
    ·exact h.elim
   ·split at h
    ·exact h.elim
    ·rename_i G hG
     split at h
     ·rename_i v d hv hd
      cases hb:(Nat.blt d N && eV fl d && ((g,want) :: G).all fun x=> !(Nat.beq x.1 d)) with
      | false=>rw [hb] at h;exact h.elim
      | true=>
       rw [hb] at h
       simp only [cond_true] at h
       simp only [afW] at hb
       obtain⟨⟨lr,eU⟩,pC⟩:=hb
       have ZZ:d < N:=by simpa using lr
       have aR: ∀x∈((g,want) :: G),x.1≠d:=by
        intro x hx e
        have:=agw.1 pC x hx
        rw [e] at this;simp at this
       -- the guard's flags hold where it says 'wanted'
       have hgG:a.tmps[g]? =some (.bool want)->holds a G:=by
        intro fy
        unfold flagsOf at hG
        split at hG
        ·simp only [afy] at hG;subst hG;exact kM
        ·have key: ∀(fl:dv),iJ a fl->fU fl g=some G->holds a G:=by
          intro fl
          induction fl with
          | nil=>intro _ hh;simp [fU] at hh
          | cons x r ih=>
           intro ee hh
           obtain⟨d',G',u⟩:=x
           simp only [fU] at hh
           cases vX:Nat.beq d' g with
           | true=>
            rw [vX] at hh
            simp only [cond_true,afy] at hh
            subst hh
            have h2:=(ee (d',G',u) (by simp)).2
            rw [afS vX] at h2
            exact Classical.byContradiction fun hn=>by
             have:=h2 hn
             rw [fy] at this
             simp [undef] at this
           | false=>
            rw [vX] at hh
            exact ih (fun x hx=>ee x (by simp [hx])) hh
         exact key fl ee hG
        ·cases hG
       have dh:a.put it.o.dst=a.put (some d):=by rw [hd]
       by_cases fy:a.tmps[g]? =some (.bool want)
       ·have hF:holds a ((g,want) :: G):=oH fy (hgG fy)
        have hw:Region.wanted it.o (yielded ops a.tmps)=true:=by
         rw [fy] at hy
         simp [Region.wanted,hg,hy]
        obtain⟨⟨dst,op,ty,pos,after,guard⟩,idx,eB⟩:=it
        have hr:=fun(w':World)=>lC (w:=w') (fun x v hx=>nE hl ee hF x v hx)
         (fun c b x v hc hx=>nE hl ee (oH (oq hc) hF) x v hx) hv dst pos after guard
        refine .val v _ _ [] (fun _=>rfl) hw (fun _ hx=>(by cases hx)) (fun w' _=>hr w') ?_ ?_ (by cases eB <;> exact h)
        ·rw [dh];exact hl.CQ
        ·rw [dh]
         intro x hx
         rcases af1.1 hx with rfl | hx
         ·refine⟨fun _=>by rw [fL,if_pos rfl,if_pos (by rw [hl.size];exact ZZ)],fun hn=>absurd ((qJ aR).2 hF) hn⟩
         ·exact ee.put eU x hx
       ·have hw:Region.wanted it.o (yielded ops a.tmps)=false:=by
         simp only [Region.wanted,hg,hy]
         split
         ·rename_i b vX
          cases b <;> cases want <;> first | rfl | exact absurd vX fy
         ·rfl
        refine .skip _ _ hw ?_ ?_ h
        ·rw [dh];exact hl.CQ
        ·rw [dh]
         intro x hx
         rcases af1.1 hx with rfl | hx
         ·refine⟨fun hh=>?_,fun _=>by rw [fL,if_pos rfl,if_pos (by rw [hl.size];exact ZZ)]⟩
          have:=(qJ aR).1 hh
          exact absurd (this (g,want) (by simp)) fy
         ·exact ee.put eU x hx
     ·exact h.elim
def dstsOf (os:List Oper):List Nat:=os.filterMap (·.dst)
def kj (os:List It):List Nat:=os.filterMap (·.o.dst)
theorem jX {it:It} {rest:List It} {a:Act} {v:Value}:kL (kj (it :: rest)) a (a.put it.o.dst v):=by
 intro t ht
 cases hd:it.o.dst with
 | none=>rfl
 | some d=>
  rw [fL,if_neg]
  intro e
  subst e
  exact ht (by simp [kj,hd])
theorem ig {it:It} {rest:List It} {a b:Act} (h:kL (kj rest) a b):kL (kj (it :: rest)) a b:=
 h.mono fun t ht=>by
  simp only [kj,ah6] at ht ⊢
  obtain⟨x,hx,hd⟩:=ht
  exact⟨x,by simp [hx],hd⟩
theorem wM {split:Bool} (hP:yT P) {Q:Exit->Act->World->Prop}: ∀(os:List It) {l:Env} {fl:dv} {C:de} {w:World} {a:Act} {K:Env->World->Prop},
  bP ds N a l->iJ a fl->FC P N ops split os l fl C w K->
  (∀a' l' w',kL (kj os) a a'->bP ds N a' l'->K l' w'->Q .normal a' w')->wpList P ops Q (os.map (·.o)) a w
 | [],l,fl,C,w,a,K,hl,ee,h,hK=>hK a l w (kL.refl _ _) hl h
 | it :: rest,l,fl,C,w,a,K,hl,ee,h,hK=>by
  have ih:=fun{l fl C w a}=>wM (split:=split) hP (Q:=Q) rest (l:=l) (fl:=fl) (C:=C) (w:=w) (a:=a) (K:=K)
  simp only [agl]
  rcases pE hP hl ee h with ⟨v,l',kK,fp,vT,h1,h0,h2,h3,h4,h5⟩ | ⟨l',kK,h1,h3,h4,h5⟩ | ⟨h0,h1,h2⟩
  ·unfold wpList
   rw [if_pos h1]
   refine .inl ?_
   unfold Oper.wp
   rw [h2 w (by unfold FE;cases hb:cr P it.o.op <;> simp [Ext.refl];right;exact fun a hx=>h0 a hx)]
   exact ih h3 h4 h5 fun a' l' w' ho=>hK a' l' w' (jX.trans (ig ho))
  ·unfold wpList
   rw [if_neg (by rw [h1];simp)]
   exact ih h3 h4 h5 fun a' l' w' ho=>hK a' l' w' (jX.trans (ig ho))
  ·unfold wpList
   rw [if_pos h1]
   refine .inl (Oper.wp_mono ?_ (h2 Q))
   rintro a' w' ⟨_,_,v,l',kK,rfl,h3,h4,h5⟩
   exact ih h3 h4 h5 fun a' l' w' ho=>hK a' l' w' (jX.trans (ig ho))
def fP (P:Program) (o:Oper):Bool:=gq P o.op || dM o.op
def ko (P:Program) (ops:Array Oper) (i:Nat):Bool:=
 match ops[i]? with
 | some o=>fP P o
 | none=>false
def Gd (P:Program) (ops:Array Oper) (as:List Nat) (C:de) (i:Nat) (w w':World):Prop:=
 (ko P ops i=true->Ext w w') /\ ∀x∈C,(as.getD i 0).testBit x.1=false->dA w x.2->dA w' x.2
theorem Gd.refl {as:List Nat} {C:de} {i:Nat} {w:World}:Gd P ops as C i w w:=⟨fun _=>Ext.refl w,fun _ _ _ h=>h⟩
def cm (P:Program) (md:Region.Mode) (ops:Array Oper) (as:List Nat) (Q:Exit->Act->World->Prop) (C:de):Nat->Array Bool->Act->World->Prop
 | 0,cz,a,w=>Region.ready md ops cz= [] /\ Q .normal a w
 | fuel+1,cz,a,w=>
  (Region.ready md ops cz= []->Q .normal a w) /\
  ∀i∈Region.ready md ops cz,wpOp P ops Q i (fun a' w'=>Gd P ops as C i w w' /\ cm P md ops as Q C fuel (cz.setIfInBounds i true) a' w') a w
theorem lD {md:Region.Mode} {as:List Nat} {C:de} {Q:Exit->Act->World->Prop}: ∀(fuel:Nat) (cz:Array Bool) (a:Act) (w:World),cm P md ops as Q C fuel cz a w->wpAny P md ops Q fuel cz a w
 | 0,_,_,_,h=>h
 | fuel+1,_,_,_,h=>⟨h.1,fun i hi=>wpOp_mono (fun a' w' h'=>lD fuel _ a' w' h'.2) (h.2 i hi)⟩
theorem eW {md:Region.Mode} {as:List Nat} {C C':de} (hC: ∀x∈C,x∈C') {Q:Exit->Act->World->Prop}: ∀(fuel:Nat) (cz:Array Bool) (a:Act) (w:World),
  cm P md ops as Q C' fuel cz a w->cm P md ops as Q C fuel cz a w
 | 0,_,_,_,h=>h
 | fuel+1,_,_,_,h=>⟨h.1,fun i hi=>wpOp_mono (fun a' w' h'=>⟨⟨h'.1.1,fun x hx=>h'.1.2 x (hC x hx)⟩,eW hC fuel _ a' w' h'.2⟩) (h.2 i hi)⟩
theorem jY {md:Region.Mode} {as:List Nat} {C C2:de} {Q:Exit->Act->World->Prop} (_:True): ∀(fuel:Nat) (cz:Array Bool) (a:Act) (w:World),
  (∀y∈C,y∈C2 \/ ∀i,cz.getD i true=false->ko P ops i=true \/ (as.getD i 0).testBit y.1=true)->
  cm P md ops as Q C2 fuel cz a w->cm P md ops as Q C fuel cz a w
 | 0,_,_,_,_,h=>h
 | fuel+1,cz,a,w,hC,h=>⟨h.1,fun i hi=>wpOp_mono (fun a' w' h'=>⟨⟨h'.1.1,fun y hy hb hc=>by
   rcases hC y hy with h1 | h1
   ·exact h'.1.2 y h1 hb hc
   ·rcases h1 i (mem_ready.1 hi).1 with h2 | h2
    ·exact(h'.1.1 h2).hold hc
    ·rw [hb] at h2;cases h2⟩,
   jY trivial fuel _ a' w' (fun y hy=>(hC y hy).imp id fun h1 k hk=>by
    by_cases Fa:i=k
    ·subst Fa;exact h1 i (mem_ready.1 hi).1
    ·rw [getD_set_ne true Fa] at hk;exact h1 k hk) h'.2⟩) (h.2 i hi)⟩
theorem lE {md:Region.Mode} {as:List Nat} {C:de} {Q:Exit->Act->World->Prop} {S:World->Prop} {i:Nat} {oi:Oper} {v:Value} (L:Array Bool) (hi:ops[i]? =some oi)
  (RS: ∀(j:Nat) (o:Oper) cs b,ops[j]? =some o->o.op≠ .select cs b)
  (hQ: ∀c a w,Q (.panic c) (a.put oi.dst v) w->Q (.panic c) a w) (Wd: ∀j∈Region.ready md ops L,j=i) (dw:L.size=ops.size):
  ∀(fuel:Nat) (cz:Array Bool) (a:Act) (w:World),
   (∀j oj,ops[j]? =some oj->j≠i->cz.getD j true=false->(∀e∈oj.after,Region.binds md e=true->e.on≠i)->oi.apart ops oj=true)->
   (∀j,cz.getD j false=true->L.getD j false=true)->(∀j,cz.getD j true=false->L.getD j true=true-> ∀w w',Gd P ops as C j w w'->S w->S w')->
   i∈Region.ready md ops cz->YieldsIf P ops S oi v a->S w->
   cm P md ops as Q C fuel (cz.setIfInBounds i true) (a.put oi.dst v) w->cm P md ops as Q C (fuel+1) cz a w:=by
 intro fuel
 induction fuel with
 | zero=>
  intro cz a w _ _ _ hr hy hS H
  refine⟨fun h=>(by rw [h] at hr;cases hr),fun j hj=>?_⟩
  by_cases CS:j=i
  ·subst CS;exact hy.wpOp hi hS ⟨Gd.refl,H⟩
  ·have:=ready_mono hj CS
   rw [H.1] at this
   cases this
 | succ fuel ih=>
  intro cz a w tQ sR pF hr hy hS H
  refine⟨fun h=>(by rw [h] at hr;cases hr),fun j hj=>?_⟩
  by_cases CS:j=i
  ·subst CS;exact hy.wpOp hi hS ⟨Gd.refl,H⟩
  ·have h1:=H.2 j (ready_mono hj CS)
   obtain⟨M4,oj,RT,bF⟩:=mem_ready.1 hj
   have We: ∀e∈oj.after,Region.binds md e=true->e.on≠i:=fun e he hb heq=>by
    have h1:=bF e he hb
    have h0:=(mem_ready.1 hr).1
    rw [heq] at h1
    rcases ahY i cz.size with h' | h'
    ·simp [h'] at h0 h1;rw [h0] at h1;cases h1
    ·simp [Array.getElem?_eq_none h'] at h1
   have Wf:L.getD j true=true:=by
    cases A2:L.getD j true with
    | true=>rfl
    | false=>
     have:j∈Region.ready md ops L:=mem_ready.2 ⟨A2,oj,RT,fun e he hb=>sR _ (bF e he hb)⟩
     exact absurd (Wd j this) CS
   have dB:j < L.size:=by rw [dw];exact(afL.1 RT).1
   have Wg:L.getD j false=true:=by simp [dB] at Wf ⊢;exact Wf
   have Z0:=pF j M4 Wf
   have h2:=wpOp_putIf RT (tQ j oj RT CS M4 We) (fun cs b=>RS i oi cs b hi) (fun cs b=>RS j oj cs b RT) hQ hy h1
   have M5: ∀k ok,ops[k]? =some ok->k≠i->(cz.setIfInBounds j true).getD k true=false->
     (∀e∈ok.after,Region.binds md e=true->e.on≠i)->oi.apart ops ok=true:=fun k ok hk Fb ot da=>by
    refine tQ k ok hk Fb ?_ da
    by_cases kN:j=k
    ·subst kN;exact M4
    ·rw [getD_set_ne true kN] at ot;exact ot
   have M6: ∀k,(cz.setIfInBounds j true).getD k true=false->L.getD k true=true-> ∀w w',Gd P ops as C k w w'->S w->S w':=fun k ot hL=>by
    by_cases kN:j=k
    ·subst kN;exact Z0
    ·rw [getD_set_ne true kN] at ot;exact pF k ot hL
   have RU: ∀k,(cz.setIfInBounds j true).getD k false=true->L.getD k false=true:=fun k hk=>by
    by_cases kN:j=k
    ·subst kN;exact Wg
    ·rw [getD_set_ne false kN] at hk;exact sR k hk
   refine wpOp_mono (fun a' w' h3=>⟨h3.2.1,ih (cz.setIfInBounds j true) a' w' M5 RU M6 (ready_mono hr (Ne.symm CS)) h3.1 (Z0 _ _ h3.2.1 hS) ?_⟩) h2
   rw [Array.setIfInBounds_comm _ _ CS]
   exact h3.2.2
def eF (acc:List Nat) (es:List Edge):Nat:=es.foldl (fun s e=>cond (Region.binds .any e) (s ||| 2 ^ e.on ||| acc.getD e.on 0) s) 0
def rT (es:List Edge):Nat:=es.foldl (fun s e=>cond (Region.binds .any e) (s ||| 2 ^ e.on) s) 0
def gf:List Oper->List Nat->List Nat
 | [],acc=>acc
 | o :: r,acc=>gf r (acc++ [eF acc o.after.toList])
structure Row where
 o:Oper
 idx:Nat
 eB:Nat
 dir:Nat
 ro:Bool
 hd:Bool
def rowsOf (P:Program):Nat->List Oper->List Nat->List Row
 | i,o :: r,m :: ms=>⟨o,i,m,rT o.after.toList,gq P o.op,fP P o⟩ :: rowsOf P (i+1) r ms
 | _,_,_=> []
def canon (LQ:List Row):List Row->List Row
 | []=>LQ
 | e :: es=>LQ.filter (fun r=> !(e :: es).any fun x=>Nat.testBit r.eB x.idx)++e :: canon (LQ.filter fun r=>(e :: es).any fun x=>Nat.testBit r.eB x.idx) es
def pG (rows:List Row):List Row:=canon (rows.filter (·.ro)) (rows.filter fun r=> !r.ro)
def dJ (x:Row):It:=⟨x.o,x.idx,some x.eB⟩
def Jd (P:Program) (ops:Array Oper):List It:=(pG (rowsOf P 0 ops.toList (gf ops.toList []))).map dJ
def nF:Nat->List Oper->List It
 | _,[]=> []
 | i,o :: r=>⟨o,i,none⟩ :: nF (i+1) r
def lF (P:Program) (ops:Array Oper) (x:Row):List Row->Bool
 | []=>true
 | y :: r=>(match x.ro with
  | true=>(Nat.testBit y.dir x.idx || x.o.apart ops y.o) && (wl P x.o.op || cr P x.o.op || Nat.testBit y.eB x.idx || y.hd)
  | false=>Nat.testBit y.eB x.idx && Nat.beq (x.eB ||| y.eB) y.eB) && lF P ops x r
def qK (P:Program) (ops:Array Oper):Nat->List Row->Bool
 | done,[]=>(List.range ops.size).all fun i=>Nat.testBit done i
 | done,x :: r=>Nat.beq (x.eB ||| done) done && !Nat.testBit done x.idx && lF P ops x r && qK P ops (done ||| 2 ^ x.idx) r
def FF (P:Program) (ops:Array Oper):Bool:=
 Region.noSelect ops && Nat.beq (pG (rowsOf P 0 ops.toList (gf ops.toList []))).length ops.size && qK P ops 0 (pG (rowsOf P 0 ops.toList (gf ops.toList [])))
theorem mE: ∀(os:List Oper) (acc:List Nat),∃t,gf os acc=acc++t /\ t.length=os.length
 | [],acc=>⟨[],by simp [gf],rfl⟩
 | o :: r,acc=>by
  obtain⟨t,ht,hl⟩:=mE r (acc++ [eF acc o.after.toList])
  exact⟨eF acc o.after.toList :: t,by simp [gf,ht],by simp [hl]⟩
theorem ij: ∀(os:List Oper) (acc:List Nat) (j:Nat) (o:Oper),os[j]? =some o->(gf os acc)[acc.length+j]? =some (eF ((gf os acc).take (acc.length+j)) o.after.toList)
 | [],acc,j,o,h=>by simp at h
 | x :: r,acc,0,o,h=>by
  simp only [afJ,afy] at h
  subst h
  obtain⟨t,ht,hl⟩:=mE r (acc++ [eF acc x.after.toList])
  simp [gf,ht]
 | x :: r,acc,j+1,o,h=>by
  have:=ij r (acc++ [eF acc x.after.toList]) j o (by simpa using h)
  simp only [afw,ahi] at this
  simp only [gf]
  rw [show acc.length+(j+1)=acc.length+1+j by omega]
  exact this
theorem mF {s a b k:Nat}:(s ||| a ||| b).testBit k=(s.testBit k || a.testBit k || b.testBit k):=by simp [agj]
theorem gT {acc:List Nat} {k:Nat}: ∀(es:List Edge) (s:Nat),(es.foldl (fun s e=>cond (Region.binds .any e) (s ||| 2 ^ e.on ||| acc.getD e.on 0) s) s).testBit k=true->
  s.testBit k=true \/ ∃e∈es,Region.binds .any e=true /\ (e.on=k \/ (acc.getD e.on 0).testBit k=true)
 | [],s,h=>.inl h
 | e :: es,s,h=>by
  simp only [ahn] at h
  rcases gT es _ h with h1 | ⟨e',jP,h2⟩
  ·cases hb:Region.binds .any e with
   | false=>rw [hb] at h1;exact .inl h1
   | true=>
    rw [hb] at h1
    simp only [cond_true,mF,agu,agt,decide_eq_true_eq] at h1
    rcases h1 with (h1 | h1) | h1
    ·exact .inl h1
    ·exact .inr ⟨e,by simp,hb,.inl h1⟩
    ·exact .inr ⟨e,by simp,hb,.inr h1⟩
  ·exact .inr ⟨e',by simp [jP],h2⟩
theorem gU {acc:List Nat} {e:Edge} (hb:Region.binds .any e=true): ∀(es:List Edge) (s:Nat),(e∈es \/ s.testBit e.on=true)->
  (es.foldl (fun s e=>cond (Region.binds .any e) (s ||| 2 ^ e.on ||| acc.getD e.on 0) s) s).testBit e.on=true
 | [],s,h=>by rcases h with h | h;cases h;exact h
 | x :: es,s,h=>by
  simp only [ahn]
  refine gU hb es _ ?_
  rcases h with h | h
  ·rcases af1.1 h with rfl | h
   ·right;rw [hb];simp [mF]
   ·exact .inl h
  ·right
   cases Region.binds .any x <;> simp [mF,h]
theorem nG {k:Nat}: ∀(es:List Edge) (s:Nat),(es.foldl (fun s e=>cond (Region.binds .any e) (s ||| 2 ^ e.on) s) s).testBit k=true->
  s.testBit k=true \/ ∃e∈es,Region.binds .any e=true /\ e.on=k
 | [],s,h=>.inl h
 | e :: es,s,h=>by
  simp only [ahn] at h
  rcases nG es _ h with h1 | ⟨e',jP,h2⟩
  ·cases hb:Region.binds .any e with
   | false=>rw [hb] at h1;exact .inl h1
   | true=>
    rw [hb] at h1
    simp only [cond_true,agj,agu,agt,decide_eq_true_eq] at h1
    rcases h1 with h1 | h1
    ·exact .inl h1
    ·exact .inr ⟨e,by simp,hb,h1⟩
  ·exact .inr ⟨e',by simp [jP],h2⟩
def ck (n d:Nat):Array Bool:=((List.range n).map fun j=>d.testBit j).toArray
theorem aI {n k j:Nat} {d:Bool}:(ck n k).getD j d=if j < n then k.testBit j else d:=by
 simp only [ck,ah1,List.getElem?_toArray,afC]
 by_cases h:j < n
 ·simp [h]
 ·have:(List.range n)[j]? =none:=by simp;omega
  simp [this,h]
theorem gV {n d k:Nat}:(ck n d).setIfInBounds k true=ck n (d ||| 2 ^ k):=by
 apply agM
 apply agd
 intro i
 simp only [Array.toList_setIfInBounds,ck,agm,afP,aht,afC,agj,agt]
 by_cases h:i < n
 ·by_cases hk:k=i
  ·subst hk;simp [h]
  ·simp [hk,h]
 ·have hn:(List.range n)[i]? =none:=by simp;omega
  by_cases hk:k=i
  ·subst hk;simp [hn,h]
  ·simp [hk,hn]
theorem oJ {n:Nat}:ck n 0=Array.replicate n false:=by
 apply agM
 simp [ck,List.map_const']
def jZ (as:List Nat) (n k:Nat):Array Bool:=((List.range n).map fun j=> !decide (j=k) && !(as.getD j 0).testBit k).toArray
theorem cp {as:List Nat} {n k j:Nat} {d:Bool}:(jZ as n k).getD j d=if j < n then (!decide (j=k) && !(as.getD j 0).testBit k) else d:=by
 simp only [jZ,ah1,List.getElem?_toArray,afC]
 by_cases h:j < n
 ·simp [h]
 ·have:(List.range n)[j]? =none:=by simp;omega
  simp [this,h]
theorem gW {P:Program}: ∀{os:List Oper} {ms:List Nat} {i:Nat} {x:Row},x∈rowsOf P i os ms->
  ∃j,os[j]? =some x.o /\ ms[j]? =some x.eB /\ x.idx=i+j /\ x.dir=rT x.o.after.toList /\ x.ro=gq P x.o.op /\ x.hd=fP P x.o
 | [],ms,i,x,h=>by cases ms <;> cases h
 | o :: os,[],i,x,h=>by cases h
 | o :: os,m :: ms,i,x,h=>by
  rcases af1.1 h with rfl | h
  ·exact⟨0,rfl,rfl,rfl,rfl,rfl,rfl⟩
  ·obtain⟨j,h1,h2,h3,h4⟩:=gW h
   exact⟨j+1,by simpa using h1,by simpa using h2,by omega,h4⟩
theorem wN: ∀{es LQ:List Row} {x:Row},x∈canon LQ es->x∈LQ \/ x∈es
 | [],LQ,x,h=>.inl h
 | e :: es,LQ,x,h=>by
  simp only [canon,afB,agv,af1] at h
  rcases h with h | h | h
  ·exact .inl h.1
  ·exact .inr (by simp [h])
  ·rcases wN h with h | h
   ·exact .inl (agv.1 h).1
   ·exact .inr (by simp [h])
theorem rU {rows:List Row} {x:Row} (h:x∈pG rows):x∈rows:=by
 rcases wN h with h | h
 ·exact(agv.1 h).1
 ·exact(agv.1 h).1
theorem dN {P:Program} {x:Row}: ∀{ys:List Row} {y:Row},lF P ops x ys=true->y∈ys->
  (match x.ro with
  | true=>(Nat.testBit y.dir x.idx || x.o.apart ops y.o) && (wl P x.o.op || cr P x.o.op || Nat.testBit y.eB x.idx || y.hd)
  | false=>Nat.testBit y.eB x.idx && Nat.beq (x.eB ||| y.eB) y.eB)=true
 | [],y,_,h=>by cases h
 | z :: ys,y,hm,h=>by
  simp only [lF,afW] at hm
  rcases af1.1 h with rfl | h
  ·exact hm.1
  ·exact dN hm.2 h
theorem rV {P:Program}: ∀{rs:List Row} {done:Nat},qK P ops done rs=true-> ∀j,j < ops.size->done.testBit j=false-> ∃y∈rs,y.idx=j
 | [],done,h,j,hj,hd=>by
  have:=agw.1 h j (agC.2 hj)
  rw [hd] at this;cases this
 | x :: r,done,h,j,hj,hd=>by
  simp only [qK,afW] at h
  by_cases hx:x.idx=j
  ·exact⟨x,by simp,hx⟩
  ·obtain⟨y,hy,he⟩:=rV h.2 j hj (by simp [agj,hd,agt,hx])
   exact⟨y,by simp [hy],he⟩
theorem cJ {a d k:Nat} (h:a ||| d=d) (hk:a.testBit k=true):d.testBit k=true:=by
 rw [<-h];simp [agj,hk]
theorem zf {split:Bool} (hP:yT P) (hs:Region.noSelect ops=true) {Q:Exit->Act->World->Prop} (hQ: ∀c a w,¬Q (.panic c) a w)
  (as:List Nat) (has:as=gf ops.toList []):
  ∀(rs:List Row) (done:Nat) {l:Env} {fl:dv} {C:de} {w:World} {a:Act} {K:Env->World->Prop},
  (∀x∈rs,x∈rowsOf P 0 ops.toList as)->(∀j,done.testBit j=true->j < ops.size /\ as.getD j 0 ||| done=done)->(∀x∈C,dA w x.2)->qK P ops done rs=true->
  bP ds N a l->iJ a fl->FC P N ops split (rs.map dJ) l fl C w K->
  (∀a' l' w',kL (kj (rs.map dJ)) a a'->bP ds N a' l'->K l' w'->Q .normal a' w')->cm P .any ops as Q C rs.length (ck ops.size done) a w
 | [],done,l,fl,C,w,a,K,UP,eX,hC,hB,hl,ee,h,hK=>by
  refine⟨?_,hK a l w (kL.refl _ _) hl h⟩
  refine ag6.2 fun j hj=>?_
  obtain⟨h1,oj,h2,_⟩:=mem_ready.1 hj
  have ar:=(afL.1 h2).1
  rw [aI,if_pos ar] at h1
  have:=agw.1 hB j (agC.2 ar)
  rw [h1] at this;cases this
 | x :: rs,done,l,fl,C,w,a,K,UP,eX,hC,hB,hl,ee,h,hK=>by
  have cq:=rV hB
  simp only [qK,afW,agb] at hB
  obtain⟨⟨⟨lr,qI⟩,eU⟩,vU⟩:=hB
  have sR:x.eB ||| done=done:=afS lr
  have j5: ∀y∈rowsOf P 0 ops.toList as,ops[y.idx]? =some y.o /\ as[y.idx]? =some y.eB /\ y.dir=rT y.o.after.toList /\ y.ro=gq P y.o.op /\ y.hd=fP P y.o:=by
   intro y hy
   obtain⟨j,h1,h2,h3,h4⟩:=gW hy
   rw [agH] at h3
   rw [h3]
   exact⟨by simpa using h1,h2,h4⟩
  obtain⟨h0,RW,RY,zg,RZ⟩:=j5 x (UP x (by simp))
  have qL:as.getD x.idx 0=x.eB:=by simp [RW]
  have yb:x.idx < ops.size:=(afL.1 h0).1
  have ik: ∀j oj,ops[j]? =some oj->as[j]? =some (eF (as.take j) oj.after.toList):=by
   intro j oj hj
   have:=ij ops.toList [] j oj (by simpa using hj)
   rw [has]
   simpa using this
  have rW: ∀j oj,ops[j]? =some oj->as.getD j 0=eF (as.take j) oj.after.toList:=fun j oj hj=>by simp [ik j oj hj]
  have mG:x.idx∈Region.ready .any ops (ck ops.size done):=by
   refine mem_ready.2 ⟨by rw [aI,if_pos yb];exact qI,x.o,h0,fun e he kO=>?_⟩
   have h2:x.eB.testBit e.on=true:=by
    rw [<-qL,rW _ _ h0]
    exact gU kO _ _ (.inl (by simpa using he))
   have h3:=cJ sR h2
   rw [aI,if_pos (eX _ h3).1]
   exact h3
  have iK: ∀j oj,j≠x.idx->ops[j]? =some oj->done.testBit j=false-> ∃y∈rs,y.idx=j /\ y.o=oj /\ y.eB=as.getD j 0 /\ y.dir=rT oj.after.toList /\ y.hd=fP P oj:=by
   intro j oj aR hj ot
   have dB:=(afL.1 hj).1
   obtain⟨y,hy,he⟩:=cq j dB ot
   rcases af1.1 hy with rfl | hy
   ·exact absurd he.symm aR
   ·obtain⟨g1,g2,g3,g4,g5⟩:=j5 y (UP y (by simp [hy]))
    rw [he] at g1 g2
    have:y.o=oj:=afK (g1.symm.trans hj)
    exact⟨y,hy,he,this,by simp [g2],by rw [g3,this],by rw [g5,this]⟩
  have Bl: ∀j,(done ||| 2 ^ x.idx).testBit j=true->j < ops.size /\ as.getD j 0 ||| (done ||| 2 ^ x.idx)=done ||| 2 ^ x.idx:=by
   intro j hj
   simp only [agj,agu,agt,decide_eq_true_eq] at hj
   rcases hj with hj | hj
   ·obtain⟨g1,g2⟩:=eX j hj
    exact⟨g1,by rw [<-ahz,g2]⟩
   ·subst hj
    exact⟨yb,by rw [qL,<-ahz,sR]⟩
  have ih:=fun{l fl C w a}=>zf (split:=split) hP hs (Q:=Q) hQ as has rs (done ||| 2 ^ x.idx) (l:=l) (fl:=fl) (C:=C) (w:=w) (a:=a) (K:=K) (fun y hy=>UP y (by simp [hy])) Bl
  have bO:=pE hP hl ee h
  -- where a set of bits holds whom an operation waits for
  have through: ∀i oi,ops[i]? =some oi->(as.getD i 0).testBit x.idx=true-> ∃e∈oi.after,Region.binds .any e=true /\ (e.on=x.idx \/ (as.getD e.on 0).testBit x.idx=true):=by
   intro i oi hi hb
   rw [rW i oi hi] at hb
   rcases gT _ _ hb with h5 | ⟨e,he,kO,h5⟩
   ·simp at h5
   ·refine⟨e,by simpa using he,kO,h5.imp id fun h6=>?_⟩
    have h7:(as.take i).getD e.on 0=as.getD e.on 0 \/ (as.take i).getD e.on 0=0:=by
     simp only [afO,agc]
     split
     ·exact .inl rfl
     ·exact .inr rfl
    rcases h7 with h7 | h7
    ·rw [h7] at h6;exact h6
    ·rw [h7] at h6;simp at h6
  cases yc:gq P x.o.op with
  | true=>
   have il:x.ro=true:=zg.trans yc
   have go: ∀(v:Value) (S:World->Prop) (C':de),(∀j,j < ops.size->j≠x.idx->done.testBit j=false->(as.getD j 0).testBit x.idx=false-> ∀w w',Gd P ops as C' j w w'->S w->S w')->
     YieldsIf P ops S x.o v a->S w->cm P .any ops as Q C' rs.length (ck ops.size (done ||| 2 ^ x.idx)) (a.put x.o.dst v) w->
     cm P .any ops as Q C' (rs.length+1) (ck ops.size done) a w:=by
    intro v S C' zh hy hS tR
    refine lE (S:=S) (jZ as ops.size x.idx) h0 (Region.noSelect_spec hs) (fun c a w hq=>absurd hq (hQ c _ w)) ?_ (by simp [jZ]) _ _ _ _ ?_ ?_ ?_ mG hy hS (by rw [gV];exact tR)
    ·intro j hj
     obtain⟨h1,oj,h2,h3⟩:=mem_ready.1 hj
     have dB:=(afL.1 h2).1
     rw [cp,if_pos dB] at h1
     by_cases kN:j=x.idx
     ·exact kN
     ·simp only [kN,decide_false,ahb,agW,Bool.not_eq_false'] at h1
      obtain⟨e,he,kO,h5⟩:=through j oj h2 h1
      have h6:=h3 e he kO
      rw [cp] at h6
      split at h6
      ·simp only [afW,agb,decide_eq_false_iff_not] at h6
       rcases h5 with h5 | h5
       ·exact absurd h5 h6.1
       ·rw [h6.2] at h5;cases h5
      ·cases h6
    ·intro j oj hj kN ot da
     have dB:=(afL.1 hj).1
     rw [aI,if_pos dB] at ot
     obtain⟨y,td,e1,e2,e3,e4,e5⟩:=iK j oj kN hj ot
     have jQ:=dN eU td
     rw [il] at jQ
     simp only [afW,agu] at jQ
     rcases jQ.1 with h1 | h1
     ·rw [e4] at h1
      rcases nG _ _ h1 with h2 | ⟨e,he,kO,h2⟩
      ·simp at h2
      ·exact absurd h2 (da e (by simpa using he) kO)
     ·rw [e2] at h1;exact h1
    ·intro j hj
     rw [aI] at hj
     split at hj
     ·rename_i dB
      rw [cp,if_pos dB]
      have aR:j≠x.idx:=by intro e;rw [e,qI] at hj;cases hj
      have:(as.getD j 0).testBit x.idx=false:=by
       cases kp:(as.getD j 0).testBit x.idx with
       | false=>rfl
       | true=>
        have:=cJ (eX j hj).2 kp
        rw [qI] at this;cases this
      simp only [aR,decide_false,ahb,agW,agb,this]
     ·cases hj
    ·intro j hj A2
     rw [aI] at hj
     split at hj
     ·rename_i dB
      rw [cp,if_pos dB] at A2
      simp only [afW,agb,decide_eq_false_iff_not] at A2
      exact zh j dB A2.1 hj A2.2
     ·cases hj
   rcases bO with ⟨v,l',kK,fp,vT,h1,zi,h2,h3,h4,h5⟩ | ⟨l',kK,h1,h3,h4,h5⟩ | ⟨hn,h1,h2⟩
   ·have R0: ∀y∈C,y∈jt (dJ x) fp C:=fun y hy=>by simp [jt,dJ,hy]
    refine eW R0 _ _ _ _ ?_
    refine go v (FE P x.o.op fp w) _ ?_ (.inl ⟨h1,h2⟩) ?_ (ih ?_ vU h3 h4 h5 fun a' l' w' ho=>hK a' l' w' (jX.trans (ig ho)))
    ·intro j dB kN ot rX w1 w2 hg bK
     rcases bK with bK | ⟨bK,hx⟩ | ⟨bK,hc⟩
     ·exact .inl bK
     ·have dI:ops[j]? =some ops[j]:=by simp [dB]
      obtain⟨y,td,e1,e2,e3,e4,e5⟩:=iK j ops[j] kN dI ot
      have jQ:=dN eU td
      rw [il] at jQ
      simp only [afW,agu] at jQ
      rcases jQ.2 with ((h7 | h7) | h7) | h7
      ·exact .inl h7
      ·rw [bK] at h7;cases h7
      ·rw [e3,rX] at h7;cases h7
      ·refine .inr (.inl ⟨bK,hx.trans (hg.1 ?_)⟩)
       simp only [ko,dI]
       rw [<-e5];exact h7
     ·refine .inr (.inr ⟨bK,fun z hz=>?_⟩)
      exact hg.2 (x.idx,z) (by simp [jt,dJ,hz]) rX (hc z hz)
    ·unfold FE
     cases hb:cr P x.o.op with
     | true=>exact .inr (.inr ⟨rfl,zi⟩)
     | false=>exact .inr (.inl ⟨rfl,Ext.refl w⟩)
    ·intro y hy
     simp only [jt,dJ,afB,afQ] at hy
     rcases hy with ⟨z,hz,rfl⟩ | hy
     ·exact zi z hz
     ·exact hC y hy
   ·exact go undef (fun _=>True) C (fun _ _ _ _ _ _ _ _ _=>trivial) (.inr ⟨h1,rfl⟩) trivial (ih hC vU h3 h4 h5 fun a' l' w' ho=>hK a' l' w' (jX.trans (ig ho)))
   ·have kq:gq P x.o.op=false:=hn
    rw [yc] at kq;cases kq
  | false=>
   have il:x.ro=false:=zg.trans yc
   refine⟨fun h1=>(by rw [h1] at mG;cases mG),fun i hi=>?_⟩
   have Fa:i=x.idx:=by
    obtain⟨h1,oi,h2,h3⟩:=mem_ready.1 hi
    have n8:=(afL.1 h2).1
    rw [aI,if_pos n8] at h1
    by_cases aR:i=x.idx
    ·exact aR
    ·exfalso
     obtain⟨y,td,e1,e2,e3,e4,e5⟩:=iK i oi aR h2 h1
     have jQ:=dN eU td
     rw [il] at jQ
     simp only [afW] at jQ
     have R1:=jQ.1
     rw [e3] at R1
     obtain⟨e,he,kO,h5⟩:=through i oi h2 R1
     have h6:=h3 e he kO
     rw [aI] at h6
     split at h6
     ·rcases h5 with h5 | h5
      ·rw [h5,qI] at h6;cases h6
      ·have:=cJ (eX _ h6).2 h5
       rw [qI] at this;cases this
     ·cases h6
   subst Fa
   unfold wpOp
   simp only [h0]
   rw [gV]
   rcases bO with ⟨v,l',kK,fp,vT,h1,zi,h2,h3,h4,h5⟩ | ⟨l',kK,h1,h3,h4,h5⟩ | ⟨hn,h1,h2⟩
   ·have rY:Region.wanted x.o (yielded ops a.tmps)=true:=h1
    rw [if_pos rY]
    refine .inl ?_
    unfold Oper.wp
    have IT:(execOp a.eval x.o).run P w=.ok (.value v) w:=h2 w (by
     unfold FE
     cases hb:cr P (dJ x).o.op with
     | true=>exact .inr (.inr ⟨rfl,zi⟩)
     | false=>exact .inr (.inl ⟨rfl,Ext.refl w⟩))
    rw [IT]
    refine⟨Gd.refl,?_⟩
    refine eW (C':=jt (dJ x) fp C) (fun y hy=>by simp [jt,dJ,hy]) _ _ _ _ (ih ?_ vU h3 h4 h5 fun a' l' w' ho=>hK a' l' w' (jX.trans (ig ho)))
    intro y hy
    simp only [jt,dJ,afB,afQ] at hy
    rcases hy with ⟨z,hz,rfl⟩ | hy
    ·exact zi z hz
    ·exact hC y hy
   ·have rY:Region.wanted x.o (yielded ops a.tmps)=false:=h1
    rw [if_neg (by rw [rY];simp)]
    exact⟨Gd.refl,ih hC vU h3 h4 h5 fun a' l' w' ho=>hK a' l' w' (jX.trans (ig ho))⟩
   ·have rY:Region.wanted x.o (yielded ops a.tmps)=true:=h1
    rw [if_pos rY]
    refine .inl (Oper.wp_mono ?_ (h2 Q))
    rintro a' w' ⟨qz,R2,v,l',kK,rfl,h3,h4,h5⟩
    have gr: ∀y∈C,(as.getD x.idx 0).testBit y.1=false->dA w' y.2:=by
     intro y hy hb
     cases gI:dM x.o.op with
     | true=>exact(qz gI).hold (hC y hy)
     | false=>
      have:=R2 gI
      simp only [tO,dJ] at this
      exact this y hy (by rw [<-qL];exact hb)
    refine⟨⟨fun hh=>qz ?_,fun y hy hb _=>gr y hy hb⟩,?_⟩
    ·have:fP P x.o=true:=by simpa [ko,h0] using hh
     have kq:gq P x.o.op=false:=hn
     simp only [fP,kq,aid] at this
     exact this
    ·refine jY (C2:=mC (dJ x) C) trivial _ _ _ _ ?_ (ih ?_ vU h3 h4 h5 fun a' l' w' ho=>hK a' l' w' (jX.trans (ig ho)))
     ·intro y hy
      cases hb:x.eB.testBit y.1 with
      | false=>exact .inl (by simp [mC,dJ,hy,hb])
      | true=>
       refine .inr fun i hi=>?_
       rw [aI] at hi
       split at hi
       ·rename_i n8
        simp only [agj,ahF,agt,decide_eq_false_iff_not] at hi
        have fK:ops[i]? =some ops[i]:=by simp [n8]
        obtain⟨z,hz,e1,e2,e3,e4,e5⟩:=iK i ops[i] (fun e=>hi.2 e.symm) fK hi.1
        have jQ:=dN eU hz
        rw [il] at jQ
        simp only [afW] at jQ
        right
        rw [<-e3]
        exact cJ (afS jQ.2) hb
       ·cases hi
     ·intro y hy
      simp only [mC,dJ,agv,agb] at hy
      exact gr y hy.1 (by rw [qL];exact hy.2)
end
end Go.Den
end

section
namespace Go.Den
variable {ds:List Deferred}
inductive Tr where
 | nil
 | row (i:Nat) (t:Tr)
 | both (a b:Tr)
def Rb (P:Program) (N:Nat) (ops:Array Oper) (split:Bool) (rows:List Row):Tr->Env->dv->de->World->(Env->World->Prop)->Prop
 | .nil,l,_,_,w,K=>K l w
 | .row i t,l,fl,C,w,K=>match rows[i]? with
  | some x=>mD P N ops split (dJ x) l fl C w fun l' kK C' w'=>Rb P N ops split rows t l' kK C' w' K
  | none=>False
 | .both a b,l,fl,C,w,K=>Rb P N ops split rows a l fl C w K /\ Rb P N ops split rows b l fl C w K
def Tr.rZ:Tr->List Nat
 | .nil=> []
 | .row i _=> [i]
 | .both a b=>a.rZ++b.rZ
def Tr.depth:Tr->Nat
 | .nil=>0
 | .row _ t=>t.depth+1
 | .both a b=>Nat.max a.depth b.depth
def rest (rows:List Row) (done i:Nat):List Row:=rows.filter fun y=> !Nat.testBit done y.idx && !Nat.beq y.idx i
def cover (rows:List Row) (done:Nat) (hs:List Nat):Bool:=
 rows.all fun y=>Nat.testBit done y.idx || (hs.any fun h=>Nat.beq h y.idx) || !Nat.beq (y.eB ||| done) done
def iW (P:Program) (rows:List Row):Nat:=rows.foldl (fun s x=>cond (cr P x.o.op) (s ||| 2 ^ x.idx) s) 0
def FG (lm:Nat) (x:Row) (ys:List Row):Bool:=ys.all fun y=>y.hd || Nat.beq ((x.eB &&& lm) ||| y.eB) y.eB
def pH (P:Program) (ops:Array Oper) (rows:List Row):Tr->Bool->Nat->Bool
 | .nil,c,done=>c && (List.range ops.size).all fun i=>Nat.testBit done i
 | .row i t,c,done=>match rows[i]? with
  | none=>false
  | some x=>Nat.beq (x.eB ||| done) done && !Nat.testBit done i &&
    (match x.ro with
    | true=>c && lF P ops x (rest rows done i)
    | false=>(!c || cover rows done [i]) && FG (iW P rows) x (rest rows done i)) && pH P ops rows t true (done ||| 2 ^ i)
 | .both a b,c,done=>(!c || cover rows done (a.rZ++b.rZ)) && pH P ops rows a false done && pH P ops rows b false done
def FH:List Tr->Tr
 | []=>.nil
 | [t]=>t
 | t :: r=>.both t (FH r)
def M7 (rows:List Row):Nat->Nat->Tr
 | 0,_=>.nil
 | f+1,done=>match rows.filter (fun x=> !Nat.testBit done x.idx && Nat.beq (x.eB ||| done) done) with
  | []=>.nil
  | xs=>match xs.find? (·.ro) with
   | some x=>.row x.idx (M7 rows f (done ||| 2 ^ x.idx))
   | none=>FH (xs.map fun x=>.row x.idx (M7 rows f (done ||| 2 ^ x.idx)))
def yd (P:Program) (ops:Array Oper):List Row:=rowsOf P 0 ops.toList (gf ops.toList [])
def Je (P:Program) (ops:Array Oper):Tr:=M7 (yd P ops) ops.size 0
def Bm (P:Program) (ops:Array Oper):Bool:=
 Region.noSelect ops && Nat.ble (Je P ops).depth ops.size && pH P ops (yd P ops) (Je P ops) true 0
section
variable {P:Program} {N:Nat} {ops:Array Oper}
theorem lG {o:Oper} {a:Act} {v:Value} (ho:o∈ops.toList):kL (dstsOf ops.toList) a (a.put o.dst v):=by
 intro t ht
 cases hd:o.dst with
 | none=>rfl
 | some d=>
  rw [fL,if_neg]
  intro e
  subst e
  exact ht (by simp only [dstsOf,ah6];exact⟨o,ho,hd⟩)
theorem fD (P:Program): ∀(os:List Oper) (ms:List Nat) (i:Nat),os.length=ms.length->(rowsOf P i os ms).length=os.length
 | [],ms,i,h=>by cases ms <;> simp [rowsOf]
 | o :: os,[],i,h=>by simp at h
 | o :: os,m :: ms,i,h=>by simp [rowsOf,fD P os ms (i+1) (by simpa using h)]
theorem ju (P:Program): ∀(os:List Oper) (ms:List Nat) (i j:Nat) (x:Row),(rowsOf P i os ms)[j]? =some x->x.idx=i+j
 | [],ms,i,j,x,h=>by cases ms <;> simp [rowsOf] at h
 | o :: os,[],i,j,x,h=>by simp [rowsOf] at h
 | o :: os,m :: ms,i,0,x,h=>by simp [rowsOf] at h;subst h;rfl
 | o :: os,m :: ms,i,j+1,x,h=>by
  have:=ju P os ms (i+1) j x (by simpa [rowsOf] using h)
  omega
theorem pI (os:List Oper):(gf os []).length=os.length:=by
 obtain⟨t,h1,h2⟩:=mE os []
 rw [h1];simp [h2]
theorem r7 {rows:List Row} {done:Nat}: ∀{t:Tr},pH P ops rows t false done=true->0 < t.depth /\ ∃i x,rows[i]? =some x /\ Nat.beq (x.eB ||| done) done=true /\ done.testBit i=false
 | .nil,h=>by simp [pH] at h
 | .row i t,h=>by
  simp only [pH] at h
  cases kr:rows[i]? with
  | none=>rw [kr] at h;cases h
  | some x=>
   rw [kr] at h
   simp only [afW,agb] at h
   exact⟨by simp [Tr.depth],i,x,kr,h.1.1.1,h.1.1.2⟩
 | .both a b,h=>by
  simp only [pH,afW] at h
  obtain⟨h1,h2⟩:=r7 h.1.2
  exact⟨ahh h1 (by simp only [Tr.depth];exact Nat.le_max_left _ _),h2⟩
theorem dC {as:List Nat} {rows:List Row} (bc:rows=rowsOf P 0 ops.toList as) {i:Nat} {x:Row} (kr:rows[i]? =some x):x.idx=i /\ ops[i]? =some x.o /\ as[i]? =some x.eB:=by
 have hm:x∈rowsOf P 0 ops.toList as:=by rw [<-bc];exact afz kr
 obtain⟨j,h1,h2,h3,h4⟩:=gW hm
 have:x.idx=i:=by
  rw [bc] at kr
  have:=ju P _ _ _ _ _ kr
  omega
 rw [agH] at h3
 rw [h3] at this
 subst this
 exact⟨h3,by simpa using h1,h2⟩
theorem FJ {as:List Nat} (has:as=gf ops.toList []) {rows:List Row} (bc:rows=rowsOf P 0 ops.toList as) {done:Nat} (eX: ∀j,done.testBit j=true->j < ops.size /\ as.getD j 0 ||| done=done)
  {i:Nat} {x:Row} (kr:rows[i]? =some x) (lr:Nat.beq (x.eB ||| done) done=true) (qI:done.testBit i=false): ∃i,i∈Region.ready .any ops (ck ops.size done):=by
 obtain⟨hx,h0,ha⟩:=dC bc kr
 have sR:x.eB ||| done=done:=afS lr
 have yb:i < ops.size:=(afL.1 h0).1
 have ik:as[i]? =some (eF (as.take i) x.o.after.toList):=by
  have:=ij ops.toList [] i x.o (by simpa using h0)
  rw [has]
  simpa using this
 refine⟨i,mem_ready.2 ⟨by rw [aI,if_pos yb];exact qI,x.o,h0,fun e he kO=>?_⟩⟩
 have h2:x.eB.testBit e.on=true:=by
  rw [afK (ha.symm.trans ik)]
  exact gU kO _ _ (.inl (by simpa using he))
 have h3:=cJ sR h2
 rw [aI,if_pos (eX _ h3).1]
 exact h3
theorem j6 {rows:List Row} {x:Row} (hx:x∈rows) (hl:cr P x.o.op=true):(iW P rows).testBit x.idx=true:=by
 have key: ∀(rows:List Row) (s:Nat),(x∈rows \/ s.testBit x.idx=true)->(rows.foldl (fun s x=>cond (cr P x.o.op) (s ||| 2 ^ x.idx) s) s).testBit x.idx=true:=by
  intro rows
  induction rows with
  | nil=>intro s h;rcases h with h | h;cases h;exact h
  | cons y rows ih=>
   intro s h
   simp only [ahn]
   refine ih _ ?_
   rcases h with h | h
   ·rcases af1.1 h with rfl | h
    ·right;rw [hl];simp [agj]
    ·exact .inl h
   ·right
    cases cr P y.o.op <;> simp [agj,h]
 exact key rows 0 (.inl hx)
theorem pJ {Q:Exit->Act->World->Prop} (hP:yT P) (as:List Nat) (has:as=gf ops.toList []) (rows:List Row) (bc:rows=rowsOf P 0 ops.toList as) {done n:Nat} {C:de} {a:Act} {w:World} {hs:List Nat}
  (eX: ∀j,done.testBit j=true->j < ops.size /\ as.getD j 0 ||| done=done) (qM:cover rows done hs=true) (aR: ∃i,i∈Region.ready .any ops (ck ops.size done))
  (h: ∀i∈hs,∀m,n=m+1->wpOp P ops Q i (fun a' w'=>Gd P ops as C i w w' /\ cm P .any ops as Q C m ((ck ops.size done).setIfInBounds i true) a' w') a w) (hn:0 < n):
  cm P .any ops as Q C n (ck ops.size done) a w:=by
 obtain⟨m,rfl⟩: ∃m,n=m+1:=⟨n - 1,by omega⟩
 obtain⟨i0,DN⟩:=aR
 refine⟨fun h1=>(by rw [h1] at DN;cases DN),fun i hi=>h i ?_ m rfl⟩
 obtain⟨h1,oi,h2,h3⟩:=mem_ready.1 hi
 have n8:=(afL.1 h2).1
 rw [aI,if_pos n8] at h1
 have R3:i < rows.length:=by
  rw [bc,fD P _ _ _ (by rw [has,pI])];simpa using n8
 obtain⟨y,hy⟩: ∃y,rows[i]? =some y:=⟨_,afD R3⟩
 obtain⟨hyi,hyo,hya⟩:=dC bc hy
 have hc:=agw.1 qM y (afz hy)
 rw [hyi] at hc
 simp only [agu,agb] at hc
 rcases hc with (hc | hc) | hc
 ·rw [h1] at hc;cases hc
 ·obtain⟨k,hk,he⟩:=ahK.1 hc
  rw [<-afS he];exact hk
 ·exfalso
  have ik:as[i]? =some (eF (as.take i) oi.after.toList):=by
   have:=ij ops.toList [] i oi (by simpa using h2)
   rw [has]
   simpa using this
  have Wh:y.eB=eF (as.take i) oi.after.toList:=afK (hya.symm.trans ik)
  have:y.eB ||| done=done:=by
   apply ahp
   intro k
   rw [agj]
   cases hk:y.eB.testBit k with
   | false=>simp
   | true=>
    rw [Wh] at hk
    rcases gT _ _ hk with h5 | ⟨e,he,kO,h5⟩
    ·simp at h5
    ·have h6:=h3 e (by simpa using he) kO
     rw [aI] at h6
     split at h6
     ·have R4:done.testBit k=true:=by
       rcases h5 with h5 | h5
       ·rw [<-h5];exact h6
       ·have h7:(as.take i).getD e.on 0=as.getD e.on 0 \/ (as.take i).getD e.on 0=0:=by
         simp only [afO,agc]
         split
         ·exact .inl rfl
         ·exact .inr rfl
        rcases h7 with h7 | h7
        ·rw [h7] at h5
         exact cJ (eX _ h6).2 h5
        ·rw [h7] at h5;simp at h5
      simp [R4]
     ·cases h6
  rw [this] at hc
  have hrf:Nat.beq done done=true:=by simp
  rw [hrf] at hc;cases hc
theorem te {split:Bool} (hP:yT P) (hs:Region.noSelect ops=true) {Q:Exit->Act->World->Prop} (hQ: ∀c a w,¬Q (.panic c) a w)
  (as:List Nat) (has:as=gf ops.toList []) (rows:List Row) (bc:rows=rowsOf P 0 ops.toList as) {a0:Act} {K:Env->World->Prop}
  (hK: ∀a' l' w',kL (dstsOf ops.toList) a0 a'->bP ds N a' l'->K l' w'->Q .normal a' w'):
  ∀(t:Tr) (c:Bool) (done n:Nat) {l:Env} {fl:dv} {C:de} {w:World} {a:Act},t.depth<=n->
  (∀j,done.testBit j=true->j < ops.size /\ as.getD j 0 ||| done=done)->(∀x∈C,dA w x.2 /\ (iW P rows).testBit x.1=true)->pH P ops rows t c done=true->
  bP ds N a l->iJ a fl->kL (dstsOf ops.toList) a0 a->Rb P N ops split rows t l fl C w K->
  (c=true->cm P .any ops as Q C n (ck ops.size done) a w) /\
  (c=false-> ∀i∈t.rZ,∀m,n=m+1->wpOp P ops Q i (fun a' w'=>Gd P ops as C i w w' /\ cm P .any ops as Q C m ((ck ops.size done).setIfInBounds i true) a' w') a w)
 | .nil,c,done,n,l,fl,C,w,a,hn,eX,hC,hB,hl,ee,eY,h=>by
  simp only [pH,afW] at hB
  have hr:Region.ready .any ops (ck ops.size done)= []:=by
   refine ag6.2 fun j hj=>?_
   obtain⟨h1,oj,h2,_⟩:=mem_ready.1 hj
   have ar:=(afL.1 h2).1
   rw [aI,if_pos ar] at h1
   have:=agw.1 hB.2 j (agC.2 ar)
   rw [h1] at this;cases this
  refine⟨fun _=>?_,fun hc=>by rw [hc] at hB;cases hB.1⟩
  cases n with
  | zero=>exact⟨hr,hK a l w eY hl h⟩
  | succ n=>exact⟨fun _=>hK a l w eY hl h,fun i hi=>by rw [hr] at hi;cases hi⟩
 | .both t1 t2,c,done,n,l,fl,C,w,a,hn,eX,hC,hB,hl,ee,eY,h=>by
  simp only [pH,afW] at hB
  obtain⟨⟨qM,UQ⟩,Z1⟩:=hB
  simp only [Tr.depth] at hn
  have tU:t1.depth<=n:=ag3 (Nat.le_max_left _ _) hn
  have Jf:t2.depth<=n:=ag3 (Nat.le_max_right _ _) hn
  have i1:=(te hP hs hQ as has rows bc hK t1 false done n tU eX hC UQ hl ee eY h.1).2 rfl
  have i2:=(te hP hs hQ as has rows bc hK t2 false done n Jf eX hC Z1 hl ee eY h.2).2 rfl
  have bF: ∀i∈(Tr.both t1 t2).rZ,∀m,n=m+1->wpOp P ops Q i (fun a' w'=>Gd P ops as C i w w' /\ cm P .any ops as Q C m ((ck ops.size done).setIfInBounds i true) a' w') a w:=by
   intro i hi m hm
   simp only [Tr.rZ,afB] at hi
   exact hi.elim (fun h=>i1 i h m hm) (fun h=>i2 i h m hm)
  refine⟨fun hc=>?_,fun _=>bF⟩
  subst hc
  simp only [ah2,aid] at qM
  have R5:pH P ops rows (.both t1 t2) false done=true:=by simp [pH,UQ,Z1]
  obtain⟨h1,i,x,kr,lr,qI⟩:=r7 R5
  exact pJ hP as has rows bc eX qM (FJ has bc eX kr lr qI) bF (by simp only [Tr.depth] at h1;omega)
 | .row i t,c,done,n,l,fl,C,w,a,hn,eX,hC,hB,hl,ee,eY,h=>by
  simp only [pH] at hB
  simp only [Rb] at h
  cases kr:rows[i]? with
  | none=>rw [kr] at h;exact h.elim
  | some x=>
  rw [kr] at h hB
  simp only [afW,agb] at hB
  simp only at h
  have hxi:x.idx=i:=by
   rw [bc] at kr
   have:=ju P _ _ _ _ _ kr
   omega
  subst hxi
  obtain⟨⟨⟨lr,qI⟩,eU⟩,vU⟩:=hB
  have sR:x.eB ||| done=done:=afS lr
  have j5: ∀y∈rowsOf P 0 ops.toList as,ops[y.idx]? =some y.o /\ as[y.idx]? =some y.eB /\ y.dir=rT y.o.after.toList /\ y.ro=gq P y.o.op /\ y.hd=fP P y.o:=by
   intro y hy
   obtain⟨j,h1,h2,h3,h4⟩:=gW hy
   rw [agH] at h3
   rw [h3]
   exact⟨by simpa using h1,h2,h4⟩
  obtain⟨h0,RW,RY,zg,RZ⟩:=j5 x (by rw [<-bc];exact afz kr)
  have qL:as.getD x.idx 0=x.eB:=by simp [RW]
  have yb:x.idx < ops.size:=(afL.1 h0).1
  have ik: ∀j oj,ops[j]? =some oj->as[j]? =some (eF (as.take j) oj.after.toList):=by
   intro j oj hj
   have:=ij ops.toList [] j oj (by simpa using hj)
   rw [has]
   simpa using this
  have rW: ∀j oj,ops[j]? =some oj->as.getD j 0=eF (as.take j) oj.after.toList:=fun j oj hj=>by simp [ik j oj hj]
  have mG:x.idx∈Region.ready .any ops (ck ops.size done):=by
   refine mem_ready.2 ⟨by rw [aI,if_pos yb];exact qI,x.o,h0,fun e he kO=>?_⟩
   have h2:x.eB.testBit e.on=true:=by
    rw [<-qL,rW _ _ h0]
    exact gU kO _ _ (.inl (by simpa using he))
   have h3:=cJ sR h2
   rw [aI,if_pos (eX _ h3).1]
   exact h3
  have iK: ∀j oj,j≠x.idx->ops[j]? =some oj->done.testBit j=false-> ∃y∈rest rows done x.idx,y.idx=j /\ y.o=oj /\ y.eB=as.getD j 0 /\ y.dir=rT oj.after.toList /\ y.hd=fP P oj:=by
   intro j oj aR hj ot
   have dB:=(afL.1 hj).1
   have IU:j < rows.length:=by
    rw [bc,fD P _ _ _ (by rw [has,pI])];simpa using dB
   obtain⟨y,hy⟩: ∃y,rows[j]? =some y:=⟨_,afD IU⟩
   have cP:y∈rows:=afz hy
   have ku:y.idx=j:=by
    rw [bc] at hy
    have:=ju P _ _ _ _ _ hy
    omega
   obtain⟨g1,g2,g3,g4,g5⟩:=j5 y (by rw [<-bc];exact cP)
   rw [ku] at g1 g2
   have e:y.o=oj:=afK (g1.symm.trans hj)
   refine⟨y,?_,ku,e,by simp [g2],by rw [g3,e],by rw [g5,e]⟩
   simp only [rest,agv,afW,agb]
   refine⟨cP,by rw [ku];exact ot,?_⟩
   rw [ku]
   cases hbq:Nat.beq j x.idx with
   | false=>rfl
   | true=>exact absurd (afS hbq) aR
  have Bl: ∀j,(done ||| 2 ^ x.idx).testBit j=true->j < ops.size /\ as.getD j 0 ||| (done ||| 2 ^ x.idx)=done ||| 2 ^ x.idx:=by
   intro j hj
   simp only [agj,agu,agt,decide_eq_true_eq] at hj
   rcases hj with hj | hj
   ·obtain⟨g1,g2⟩:=eX j hj
    exact⟨g1,by rw [<-ahz,g2]⟩
   ·subst hj
    exact⟨yb,by rw [qL,<-ahz,sR]⟩
  have zj:x.o∈ops.toList:=by
   obtain⟨hh,he⟩:=afL.1 h0
   rw [<-he];simp
  have Jg: ∃m,n=m+1 /\ t.depth<=m:=by
   simp only [Tr.depth] at hn
   exact⟨n - 1,by omega,by omega⟩
  obtain⟨m,rfl,vY⟩:=Jg
  have ih:=fun{l fl C w a}=>te (split:=split) hP hs hQ as has rows bc hK t true (done ||| 2 ^ x.idx) m (l:=l) (fl:=fl) (C:=C) (w:=w) (a:=a) vY Bl
  have bO:=pE hP hl ee h
  -- where a set of bits holds whom an operation waits for
  have through: ∀i oi,ops[i]? =some oi->(as.getD i 0).testBit x.idx=true-> ∃e∈oi.after,Region.binds .any e=true /\ (e.on=x.idx \/ (as.getD e.on 0).testBit x.idx=true):=by
   intro i oi hi hb
   rw [rW i oi hi] at hb
   rcases gT _ _ hb with h5 | ⟨e,he,kO,h5⟩
   ·simp at h5
   ·refine⟨e,by simpa using he,kO,h5.imp id fun h6=>?_⟩
    have h7:(as.take i).getD e.on 0=as.getD e.on 0 \/ (as.take i).getD e.on 0=0:=by
     simp only [afO,agc]
     split
     ·exact .inl rfl
     ·exact .inr rfl
    rcases h7 with h7 | h7
    ·rw [h7] at h6;exact h6
    ·rw [h7] at h6;simp at h6
  cases yc:gq P x.o.op with
  | true=>
   have il:x.ro=true:=zg.trans yc
   rw [il] at eU
   simp only [afW] at eU
   obtain⟨hc,eU⟩:=eU
   subst hc
   refine⟨fun _=>?_,fun hc=>by cases hc⟩
   have go: ∀(v:Value) (S:World->Prop) (C':de),(∀j,j < ops.size->j≠x.idx->done.testBit j=false->(as.getD j 0).testBit x.idx=false-> ∀w w',Gd P ops as C' j w w'->S w->S w')->
     YieldsIf P ops S x.o v a->S w->cm P .any ops as Q C' m (ck ops.size (done ||| 2 ^ x.idx)) (a.put x.o.dst v) w->
     cm P .any ops as Q C' (m+1) (ck ops.size done) a w:=by
    intro v S C' zh hy hS tR
    refine lE (S:=S) (jZ as ops.size x.idx) h0 (Region.noSelect_spec hs) (fun c a w hq=>absurd hq (hQ c _ w)) ?_ (by simp [jZ]) _ _ _ _ ?_ ?_ ?_ mG hy hS (by rw [gV];exact tR)
    ·intro j hj
     obtain⟨h1,oj,h2,h3⟩:=mem_ready.1 hj
     have dB:=(afL.1 h2).1
     rw [cp,if_pos dB] at h1
     by_cases kN:j=x.idx
     ·exact kN
     ·simp only [kN,decide_false,ahb,agW,Bool.not_eq_false'] at h1
      obtain⟨e,he,kO,h5⟩:=through j oj h2 h1
      have h6:=h3 e he kO
      rw [cp] at h6
      split at h6
      ·simp only [afW,agb,decide_eq_false_iff_not] at h6
       rcases h5 with h5 | h5
       ·exact absurd h5 h6.1
       ·rw [h6.2] at h5;cases h5
      ·cases h6
    ·intro j oj hj kN ot da
     have dB:=(afL.1 hj).1
     rw [aI,if_pos dB] at ot
     obtain⟨y,td,e1,e2,e3,e4,e5⟩:=iK j oj kN hj ot
     have jQ:=dN eU td
     rw [il] at jQ
     simp only [afW,agu] at jQ
     rcases jQ.1 with h1 | h1
     ·rw [e4] at h1
      rcases nG _ _ h1 with h2 | ⟨e,he,kO,h2⟩
      ·simp at h2
      ·exact absurd h2 (da e (by simpa using he) kO)
     ·rw [e2] at h1;exact h1
    ·intro j hj
     rw [aI] at hj
     split at hj
     ·rename_i dB
      rw [cp,if_pos dB]
      have aR:j≠x.idx:=by intro e;rw [e,qI] at hj;cases hj
      have:(as.getD j 0).testBit x.idx=false:=by
       cases kp:(as.getD j 0).testBit x.idx with
       | false=>rfl
       | true=>
        have:=cJ (eX j hj).2 kp
        rw [qI] at this;cases this
      simp only [aR,decide_false,ahb,agW,agb,this]
     ·cases hj
    ·intro j hj A2
     rw [aI] at hj
     split at hj
     ·rename_i dB
      rw [cp,if_pos dB] at A2
      simp only [afW,agb,decide_eq_false_iff_not] at A2
      exact zh j dB A2.1 hj A2.2
     ·cases hj
   rcases bO with ⟨v,l',kK,fp,vT,h1,zi,h2,h3,h4,h5⟩ | ⟨l',kK,h1,h3,h4,h5⟩ | ⟨hn,h1,h2⟩
   ·have R0: ∀y∈C,y∈jt (dJ x) fp C:=fun y hy=>by simp [jt,dJ,hy]
    refine eW R0 _ _ _ _ ?_
    refine go v (FE P x.o.op fp w) _ ?_ (.inl ⟨h1,h2⟩) ?_ ((ih ?_ vU h3 h4 (eY.trans (lG zj)) h5).1 rfl)
    ·intro j dB kN ot rX w1 w2 hg bK
     rcases bK with bK | ⟨bK,hx⟩ | ⟨bK,hc⟩
     ·exact .inl bK
     ·have dI:ops[j]? =some ops[j]:=by simp [dB]
      obtain⟨y,td,e1,e2,e3,e4,e5⟩:=iK j ops[j] kN dI ot
      have jQ:=dN eU td
      rw [il] at jQ
      simp only [afW,agu] at jQ
      rcases jQ.2 with ((h7 | h7) | h7) | h7
      ·exact .inl h7
      ·rw [bK] at h7;cases h7
      ·rw [e3,rX] at h7;cases h7
      ·refine .inr (.inl ⟨bK,hx.trans (hg.1 ?_)⟩)
       simp only [ko,dI]
       rw [<-e5];exact h7
     ·refine .inr (.inr ⟨bK,fun z hz=>?_⟩)
      exact hg.2 (x.idx,z) (by simp [jt,dJ,hz]) rX (hc z hz)
    ·unfold FE
     cases hb:cr P x.o.op with
     | true=>exact .inr (.inr ⟨rfl,zi⟩)
     | false=>exact .inr (.inl ⟨rfl,Ext.refl w⟩)
    ·intro y hy
     simp only [jt,dJ,afB,afQ] at hy
     rcases hy with ⟨z,hz,rfl⟩ | hy
     ·exact⟨zi z hz,j6 (afz kr) (by
       cases nH:cr P x.o.op with
       | true=>rfl
       | false=>rw [vT nH] at hz;cases hz)⟩
     ·exact hC y hy
   ·exact go undef (fun _=>True) C (fun _ _ _ _ _ _ _ _ _=>trivial) (.inr ⟨h1,rfl⟩) trivial ((ih hC vU h3 h4 (eY.trans (lG zj)) h5).1 rfl)
   ·have kq:gq P x.o.op=false:=hn
    rw [yc] at kq;cases kq
  | false=>
   have il:x.ro=false:=zg.trans yc
   rw [il] at eU
   simp only [afW] at eU
   obtain⟨qM,Wi⟩:=eU
   have bF:wpOp P ops Q x.idx (fun a' w'=>Gd P ops as C x.idx w w' /\ cm P .any ops as Q C m ((ck ops.size done).setIfInBounds x.idx true) a' w') a w:=by
    unfold wpOp
    simp only [h0]
    rw [gV]
    rcases bO with ⟨v,l',kK,fp,vT,h1,zi,h2,h3,h4,h5⟩ | ⟨l',kK,h1,h3,h4,h5⟩ | ⟨hn,h1,h2⟩
    ·have rY:Region.wanted x.o (yielded ops a.tmps)=true:=h1
     rw [if_pos rY]
     refine .inl ?_
     unfold Oper.wp
     have IT:(execOp a.eval x.o).run P w=.ok (.value v) w:=h2 w (by
      unfold FE
      cases hb:cr P (dJ x).o.op with
      | true=>exact .inr (.inr ⟨rfl,zi⟩)
      | false=>exact .inr (.inl ⟨rfl,Ext.refl w⟩))
     rw [IT]
     refine⟨Gd.refl,?_⟩
     refine eW (C':=jt (dJ x) fp C) (fun y hy=>by simp [jt,dJ,hy]) _ _ _ _ ((ih ?_ vU h3 h4 (eY.trans (lG zj)) h5).1 rfl)
     intro y hy
     simp only [jt,dJ,afB,afQ] at hy
     rcases hy with ⟨z,hz,rfl⟩ | hy
     ·exact⟨zi z hz,j6 (afz kr) (by
       cases nH:cr P x.o.op with
       | true=>rfl
       | false=>rw [vT nH] at hz;cases hz)⟩
     ·exact hC y hy
    ·have rY:Region.wanted x.o (yielded ops a.tmps)=false:=h1
     rw [if_neg (by rw [rY];simp)]
     exact⟨Gd.refl,(ih hC vU h3 h4 (eY.trans (lG zj)) h5).1 rfl⟩
    ·have rY:Region.wanted x.o (yielded ops a.tmps)=true:=h1
     rw [if_pos rY]
     refine .inl (Oper.wp_mono ?_ (h2 Q))
     rintro a' w' ⟨qz,R2,v,l',kK,rfl,h3,h4,h5⟩
     have gr: ∀y∈C,(as.getD x.idx 0).testBit y.1=false->dA w' y.2:=by
      intro y hy hb
      cases gI:dM x.o.op with
      | true=>exact(qz gI).hold (hC y hy).1
      | false=>
       have:=R2 gI
       simp only [tO,dJ] at this
       exact this y hy (by rw [<-qL];exact hb)
     refine⟨⟨fun hh=>qz ?_,fun y hy hb _=>gr y hy hb⟩,?_⟩
     ·have:fP P x.o=true:=by simpa [ko,h0] using hh
      have kq:gq P x.o.op=false:=hn
      simp only [fP,kq,aid] at this
      exact this
     ·refine jY (C2:=mC (dJ x) C) trivial _ _ _ _ ?_ ((ih ?_ vU h3 h4 (eY.trans (lG zj)) h5).1 rfl)
      ·intro y hy
       cases hb:x.eB.testBit y.1 with
       | false=>exact .inl (by simp [mC,dJ,hy,hb])
       | true=>
        refine .inr fun i hi=>?_
        rw [aI] at hi
        split at hi
        ·rename_i n8
         simp only [agj,ahF,agt,decide_eq_false_iff_not] at hi
         have fK:ops[i]? =some ops[i]:=by simp [n8]
         obtain⟨z,hz,e1,e2,e3,e4,e5⟩:=iK i ops[i] (fun e=>hi.2 e.symm) fK hi.1
         have jQ:=agw.1 Wi z hz
         simp only [agu] at jQ
         rcases jQ with jQ | jQ
         ·left;simp only [ko,fK];rw [<-e5];exact jQ
         ·right
          rw [<-e3]
          exact cJ (afS jQ) (by rw [Nat.testBit_and,hb,(hC y hy).2];rfl)
        ·cases hi
      ·intro y hy
       simp only [mC,dJ,agv,agb] at hy
       exact⟨gr y hy.1 (by rw [qL];exact hy.2),(hC y hy.1).2⟩
   refine⟨fun hc=>?_,fun _ i hi m' fC=>?_⟩
   ·subst hc
    simp only [ah2,aid] at qM
    exact pJ hP as has rows bc eX qM ⟨_,mG⟩ (fun i hi m' fC=>by
     simp only [afF] at hi
     subst hi
     obtain rfl:m=m':=by omega
     exact bF) (by omega)
   ·simp only [Tr.rZ,afF] at hi
    subst hi
    obtain rfl:m=m':=by omega
    exact bF
end
end Go.Den
end
