/-
  Part 1 of the proof:WorldPlays of layer 6 is true of the given program for every input that its guards let in (of bulk at most 1048576).
-/
import Derived.WalkKit
import Derived.StillTail
import Derived.KernelRfl
import Derived.Laws.BytesArg
import Derived.Deep.LoopGhost
import Derived.OrdersHeld
set_option linter.unusedSimpArgs false
set_option linter.unusedVariables false
set_option maxRecDepth 100000
open Go.IntKind (i64 u64 u8)
namespace Go.Den
abbrev ak6 := @List.getElem?_eq_some_iff
abbrev ak7 := @Int.toNat_natCast
abbrev ak8 := @List.getElem?_append_right
abbrev ak9 := @List.getElem?_append_left
abbrev ala := @List.mem_of_getElem?
abbrev alb := @List.length_append
abbrev alc := @List.getElem?_map
abbrev ald := @Option.some.injEq
abbrev ale := @List.append_assoc
abbrev alf := @List.getElem?_eq_getElem
abbrev alg := @List.mem_append
abbrev alh := @List.append_nil
abbrev ali := @List.mem_singleton
abbrev alj := @List.set_append_right
abbrev alk := @List.getD_eq_getElem?_getD
abbrev alm := @Option.some.inj
abbrev aln := @List.take_of_length_le
abbrev alo := @List.getElem?_cons_zero
abbrev alp := @List.take_succ_eq_append_getElem
abbrev alq := @List.set_cons_zero
abbrev alr := @List.length_map
abbrev als := @Array.getElem?_eq_some_iff
abbrev alu := @List.mem_map
abbrev alv := @List.length_take
abbrev alw := @List.getElem?_concat_length
abbrev alx := @List.getElem?_set_self
abbrev aly := @List.getElem?_of_mem
abbrev alz := @List.getElem_mem
abbrev alA := @Nat.le_refl
abbrev alB := @Nat.eq_of_beq_eq_true
abbrev alC := @List.getElem?_set_ne
abbrev alD := @Bool.and_eq_true
abbrev alE := @List.getElem?_eq_none
abbrev alF := @List.mem_cons
abbrev alG := @List.set_cons_succ
abbrev alH := @Option.map_eq_some_iff
abbrev alI := @List.cons_append
abbrev alJ := @List.flatMap_append
abbrev alK := @Nat.sub_self
abbrev alL := @List.eq_nil_of_length_eq_zero
abbrev alM := @List.ext_getElem?
abbrev alN := @List.getElem?_set
abbrev alO := @List.nil_append
abbrev alP := @List.getElem?_cons_succ
abbrev alQ := @List.length_cons
abbrev alR := @List.map_cons
abbrev alS := @Bool.not_eq_true'
abbrev alT := @List.length_drop
abbrev alU := @List.getElem?_take
abbrev alV := @List.length_set
abbrev alW := @List.map_append
abbrev alX := @List.flatMap_cons
abbrev alY := @Nat.testBit_or
abbrev alZ := @List.getElem?_drop
abbrev al0 := @List.drop_eq_getElem_cons
abbrev al1 := @List.nodup_append
abbrev al2 := @List.set_set
abbrev al3 := @List.drop_drop
abbrev al4 := @Int.le_refl
abbrev al5 := @List.mem_range
abbrev al6 := @List.nodup_cons
abbrev al7 := @Nat.testBit_two_pow
abbrev al8 := @Option.map_some
abbrev al9 := @Bool.or_eq_true
abbrev ama := @List.mem_filter
abbrev amb := @List.drop_of_length_le
abbrev amc := @List.set_append_left
abbrev amd := @List.mem_iff_getElem
abbrev ame := @List.all_eq_true
abbrev amf := @Nat.mul_one
abbrev amg := @List.take_append_drop
abbrev amh := @List.getElem?_inj
abbrev ami := @Nat.mul_le_mul_right
abbrev amj := @List.findIdx?_eq_some_iff_getElem
abbrev amk := @Bool.false_eq_true
abbrev aml := @Nat.zero_add
abbrev amm := @List.map_set
abbrev amn := @Nat.add_sub_cancel_left
abbrev amo := @List.drop_set_of_lt
abbrev amp := @List.not_mem_nil
abbrev amq := @List.nodup_iff_pairwise_ne
abbrev amr := @List.length_replicate
abbrev ams := @List.getElem?_replicate
abbrev amt := @List.mem_flatMap
abbrev amu := @Option.getD_some
abbrev amv := @Option.isSome_iff_exists
abbrev amw := @Array.ext'
abbrev amx := @Prod.mk.inj
abbrev amy := @List.getElem?_append
abbrev amz := @Prod.ext
abbrev amA := @Prod.mk.injEq
abbrev amB := @List.take_length
abbrev amC := @List.getElem?_range
abbrev amD := @List.replicate_succ
abbrev amE := @List.take_left'
abbrev amF := @List.length_nil
abbrev amG := @List.pairwise_iff_getElem
abbrev amH := @List.take_add_one
abbrev amI := @Bool.true_and
abbrev amJ := @List.map_map
abbrev amK := @List.map_nil
abbrev amL := @Nat.eq_zero_or_pos
abbrev amM := @Nat.eq_of_testBit_eq
abbrev amN := @List.mem_append_left
abbrev amO := @Nat.le_trans
abbrev amP := @List.drop_zero
abbrev amQ := @List.foldl_cons
abbrev amR := @List.eq_nil_iff_forall_not_mem
abbrev amS := @List.cons.injEq
abbrev amT := @List.mem_of_find?_eq_some
abbrev amU := @Array.getElem?_eq_getElem
abbrev amV := @Nat.lt_of_lt_of_le
abbrev amW := @Nat.add_zero
abbrev amX := @Int.natCast_nonneg
abbrev amY := @Bool.not_false
abbrev amZ := @List.mem_cons_of_mem
abbrev am0 := @Nat.pow_le_pow_right
abbrev am1 := @Nat.min_eq_left
abbrev am2 := @List.mem_map_of_mem
abbrev am3 := @Int.fdiv_eq_ediv_of_nonneg
abbrev am4 := @List.length_singleton
abbrev am5 := @BitVec.toNat_ofInt
abbrev am6 := @List.findIdx?_eq_none_iff
abbrev am7 := @List.getElem?_eq_none_iff
abbrev am8 := @List.find?_cons
abbrev am9 := @List.length_range
abbrev ana := @List.drop_length
abbrev anb := @Nat.add_mul
abbrev ane := @Nat.or_assoc
abbrev anf := @List.pairwise_cons
abbrev ang := @Nat.le_of_ble_eq_true
abbrev anh := @Array.getElem?_toList
abbrev ani := @Nat.add_assoc
abbrev anj := @Bool.or_eq_false_iff
abbrev ank := @List.mem_of_mem_take
abbrev anl := @List.set_eq_take_append_cons_drop
abbrev anm := @List.any_eq_true
abbrev ann := @List.filter_cons
abbrev ano := @List.idxOf_lt_length_iff
abbrev anp := @Array.length_toList
abbrev anq := @List.eraseIdx_cons_succ
abbrev anr := @List.length_eq_zero_iff
abbrev ans := @List.find?_some
abbrev ant := @List.find?_eq_none
abbrev anu := @List.getElem_cons_zero
abbrev anv := @List.flatMap_replicate
abbrev anw := @List.pairwise_map
abbrev anx := @List.size_toArray
abbrev anz := @List.drop_left
abbrev anA := @Nat.lt_or_ge
abbrev anB := @List.mem_append_right
abbrev anC := @List.length_filter_le
abbrev anD := @List.take_zero
abbrev anE := @List.take_take
abbrev anF := @List.eraseIdx_sublist
abbrev anG := @Array.getD_eq_getD_getElem?
abbrev anH := @List.replicate_succ'
abbrev anI := @BitVec.toNat_and
abbrev anJ := @List.mem_of_mem_drop
abbrev anK := @Bool.not_true
abbrev anL := @List.set_comm
abbrev anM := @List.map_take
abbrev anN := @List.map_congr_left
abbrev anO := @List.take_succ_cons
abbrev anP := @List.drop_succ_cons
abbrev anQ := @List.mem_or_eq_of_mem_set
abbrev anR := @List.mem_filterMap
abbrev anS := @Nat.one_mul
abbrev anT := @List.length_pos_of_mem
abbrev anU := @Option.map_eq_none_iff
abbrev anV := @List.getElem?_eraseIdx
abbrev anW := @Bool.false_or
abbrev anX := @Array.toList_map
abbrev anY := @Nat.lt_of_not_le
abbrev anZ := @List.nodup_range
abbrev an0 := @List.flatMap_nil
abbrev an1 := @List.flatMap_def
abbrev an2 := @List.getElem_set
abbrev an3 := @Array.getElem?_modify
abbrev an4 := @List.set_getElem_self
abbrev an5 := @Array.contains_eq_mem
abbrev an6 := @Nat.add_comm
abbrev an7 := @List.drop_left'
end Go.Den
section
namespace Go.Den
structure Sl where
 a:Option Addr
 len:Nat
 cap:Nat
def Sl.v (s:Sl):Value:=.slice s.a s.len s.cap
inductive Kd where
 | i (k:IntKind) | b | s | p | sl | m | v
abbrev Kd.T:Kd->Type
 | .i _=>Int | .b=>Bool | .s=>ByteArray | .p=>Option Addr | .sl=>Sl | .m=>Option Nat | .v=>Value
def Kd.inj:(k:Kd)->k.T->Value
 | .i k,n=>.int k n
 | .b,x=>.bool x
 | .s,x=>.string x
 | .p,x=>.pointer x
 | .sl,x=>.slice x.a x.len x.cap
 | .m,x=>.map x
 | .v,x=>x
def Kd.view:(k:Kd)->Value->(k.T->Prop)->Prop
 | .i k,.int k' n,f=>cond (decide (k'=k)) (f n) False
 | .b,.bool x,f=>f x
 | .s,.string x,f=>f x
 | .p,.pointer x,f=>f x
 | .sl,.slice a n c,f=>f ⟨a,n,c⟩
 | .m,.map x,f=>f x
 | .v,x,f=>f x
 | _,_,_=>False
theorem Kd.Fs {k:Kd} {v:Value} {f:k.T->Prop} (h:k.view v f): ∃x,v=k.inj x /\ f x:=by
  cases k <;> cases v <;> simp only [Kd.view] at h <;> first
    | exact h.elim
    | exact⟨_,rfl,h⟩
    | (rename_i k k' n
       cases hk:decide (k'=k) with
       | true=>rw [hk] at h;obtain rfl:=of_decide_eq_true hk;exact⟨_,rfl,h⟩
       | false=>rw [hk] at h;exact h.elim)
theorem Kd.Bg {k:Kd} (x:k.T) (f:k.T->Prop):k.view (k.inj x) f=f x:=by
 cases k <;> simp [Kd.view,Kd.inj]
def Fn:List Kd->Type->Type
 | [],R=>R
 | k :: ks,R=>k.T->Fn ks R
def lM {R:Type}:(ks:List Kd)->List Value->(R->Prop)->Fn ks R->Prop
 | [],[],f,g=>f g
 | k :: ks,v :: vs,f,g=>k.view v fun x=>lM ks vs f (g x)
 | _,_,_,_=>False
def MM {R:Type}:(ks:List Kd)->Fn ks R->(List Value->R->Prop)->Prop
 | [],g,f=>f [] g
 | k :: ks,g,f=> ∀x:k.T,MM ks (g x) fun vs r=>f (k.inj x :: vs) r
def curry {R:Type}:(ks:List Kd)->(List Value->R)->Fn ks R
 | [],f=>f []
 | k :: ks,f=>fun x=>curry ks fun vs=>f (k.inj x :: vs)
theorem rj {R:Type}: ∀{ks:List Kd} {vs:List Value} {f:R->Prop} {g:Fn ks R} {F:List Value->R->Prop},
  lM ks vs f g->MM ks g F-> ∃r,f r /\ F vs r
 | [],[],f,g,F,h,h2=>⟨g,h,h2⟩
 | k :: ks,v :: vs,f,g,F,h,h2=>by
  obtain⟨x,rfl,hx⟩:=Kd.Fs h;exact rj (F:=fun vs r=>F (k.inj x :: vs) r) hx (h2 x)
 | [],_ :: _,_,_,_,h,_=>h.elim
 | _ :: _,[],_,_,_,h,_=>h.elim
theorem n7 {R:Type}: ∀{ks:List Kd} {vs:List Value} {f:R->Prop} {F:List Value->R},
  lM ks vs f (curry ks F)->f (F vs)
 | [],[],f,F,h=>h
 | k :: ks,v :: vs,f,F,h=>by
  obtain⟨x,rfl,hx⟩:=Kd.Fs h;exact n7 (F:=fun vs=>F (k.inj x :: vs)) hx
 | [],_ :: _,_,_,h=>h.elim
 | _ :: _,[],_,_,h=>h.elim
inductive Sh where
 | one (k:Kd)
 | agg (ks:List Kd)
def Sh.kds:Sh->List Kd
 | .one k=> [k]
 | .agg ks=>ks
def nD:List Sh->List Kd
 | []=> []
 | s :: r=>s.kds++nD r
def mK (d:TypeDesc):Kd:=
 match d with
 | .int k=>.i k
 | .bool=>.b
 | .string=>.s
 | .pointer _=>.p
 | .slice _=>.sl
 | .map _ _=>.m
 | _=>.v
def mL (P:Program):Nat->TypeId->List Kd
 | 0,_=> [.v]
 | n+1,t=>
  match P.underlying t with
  | some (.struct fs)=>fs.toList.flatMap fun f=>mL P n f.type
  | some (.array len e)=>(List.replicate len (mL P n e)).flatten
  | some d=> [mK d]
  | none=> [.v]
def mM:TypeDesc->Bool
 | .struct _ | .array _ _=>true
 | _=>false
def shapeOf (P:Program) (t:TypeId):Sh:=
 match P.underlying t with
 | some (.struct fs)=>.agg (mL P 16 t)
 | some (.array n e)=>.agg (mL P 16 t)
 | some d=>.one (mK d)
 | none=>.one .v
def iJ:List Sh->List Value->List Value
 | [],_=> []
 | .one _ :: r,v :: vs=>v :: iJ r vs
 | .one _ :: r,[]=> []
 | .agg ks :: r,vs=>.agg (vs.take ks.length).toArray :: iJ r (vs.drop ks.length)
def wk:Sh->Value->Option (List Value)
 | .one _,v=>some [v]
 | .agg ks,.agg cs=>cond (Nat.beq cs.size ks.length) (some cs.toList) none
 | .agg _,_=>none
def flat:List Sh->List Value->Option (List Value)
 | [],[]=>some []
 | s :: r,v :: vs=>match wk s v,flat r vs with
  | some x,some y=>some (x++y)
  | _,_=>none
 | _,_=>none
theorem um: ∀{nS:List Sh} {vs cs:List Value},flat nS vs=some cs->iJ nS cs=vs
 | [],[],cs,h=>by simp only [flat,ald] at h;subst h;rfl
 | s :: r,v :: vs,cs,h=>by
  simp only [flat] at h
  cases h1:wk s v with
  | none=>simp [h1] at h
  | some x=>
   cases h2:flat r vs with
   | none=>simp [h1,h2] at h
   | some y=>
    simp only [h1,h2,ald] at h;subst h;have ih:=um h2
    cases s with
    | one k=>simp only [wk,ald] at h1;subst h1;simp [iJ,ih]
    | agg ks=>
     cases v <;> simp only [wk] at h1 <;> try (cases h1;done)
     rename_i c
     cases hb:Nat.beq c.size ks.length with
     | false=>simp [hb] at h1
     | true=>
      simp only [hb,cond_true,ald] at h1;subst h1;have hl:c.toList.length=ks.length:=by simpa using alB hb
      have h3:List.take ks.length (c.toList++y)=c.toList:=by rw [<-hl];exact List.take_left
      have h4:List.drop ks.length (c.toList++y)=y:=by rw [<-hl];exact anz
      simp only [iJ,h3,h4,ih]
 | [],_ :: _,_,h=>by simp [flat] at h
 | _ :: _,[],_,h=>by simp [flat] at h
def jG:List Value->Value
 | [v]=>v
 | vs=>.tuple vs.toArray
def rk:List Sh->Value->Option (List Value)
 | [_],v=>some [v]
 | _,.tuple vs=>some vs.toList
 | _,_=>none
theorem yA {nS:List Sh} {v:Value} {vs:List Value} (h:rk nS v=some vs) (hl:vs.length=nS.length):jG vs=v:=by
 unfold rk at h
 split at h
 ·simp only [ald] at h;subst h;rfl
 ·rename_i ws aW
  simp only [ald] at h;subst h;unfold jG
  split
  ·rename_i x hx
   rw [hx] at hl
   match nS,hl with
   | [s],_=>exact absurd rfl (aW s)
  ·simp
 ·cases h
def dx (nS:List Sh) (v:Value) (R:Fn (nD nS) (World->Prop)) (w:World):Prop:=
 match rk nS v with
 | some vs=>match flat nS vs with
  | some cs=>lM (nD nS) cs (fun r=>r w) R
  | none=>False
 | none=>False
theorem uq: ∀{nS:List Sh} {vs cs:List Value},flat nS vs=some cs->vs.length=nS.length
 | [],[],_,_=>rfl
 | s :: r,v :: vs,cs,h=>by
  simp only [flat] at h
  cases h2:flat r vs with
  | none=>cases h1:wk s v <;> simp [h1,h2] at h
  | some y=>simp [uq h2]
 | [],_ :: _,_,h=>by simp [flat] at h
 | _ :: _,[],_,h=>by simp [flat] at h
theorem di {nS:List Sh} {v:Value} {F:List Value->World->Prop} {w:World}
  (h:dx nS v (curry (nD nS) F) w): ∃cs,F cs w /\ jG (iJ nS cs)=v:=by
 unfold dx at h
 split at h
 ·rename_i vs hv
  split at h
  ·rename_i cs hc
   exact⟨cs,n7 h,by rw [um hc];exact yA hv (uq hc)⟩
  ·exact h.elim
 ·exact h.elim
def NN (p:Option Addr) (K:Addr->Prop):Prop:=
 match p with
 | some a=>K a
 | none=>False
def Ld (k:Kd) (w:World) (a:Addr) (K:k.T->Prop):Prop:= ∃x,w.cell? a=some (k.inj x) /\ K x
def LdL (w:World) (a:Addr):List Kd->Nat->(List Value->Prop)->Prop
 | [],_,K=>K []
 | k :: ks,i,K=>Ld k w (a.add i) fun x=>LdL w a ks (i+1) fun vs=>K (k.inj x :: vs)
def St (a:Addr) (v:Value) (w:World) (K:World->Prop):Prop:=
 v.oneCell'=true /\ (w.cell? a).isSome=true /\ w.frozen? a=false /\ K (w.setCell a v)
def StL (a:Addr):List Value->Nat->World->(World->Prop)->Prop
 | [],_,w,K=>K w
 | v :: vs,i,w,K=>St (a.add i) v w fun w'=>StL a vs (i+1) w' K
def Nw (o:Obj) (w:World) (K:Addr->World->Prop):Prop:=K ⟨w.heap.size,0,none⟩ (w.alloc o)
def Ix (s:Option Addr) (len:Nat) (i:Int) (sz:Nat) (K:Addr->Prop):Prop:=
 0<=i /\ i < len /\ NN s fun a=>K (a.add (i.toNat*sz))
def Wu (a:Addr) (len:Nat) (i:Int) (sz:Nat) (K:Addr->Prop):Prop:=
 0<=i /\ i < len /\ K (a.add (i.toNat*sz))
def pe (w:World) (s:Sl) (b:ByteArray):Prop:=
 b.data.toList.length=s.len /\ ((s.a=none /\ s.len=0) \/ ∃a,s.a=some a /\ ∀j x,b.data.toList[j]? =some x->w.cell? (a.add j)=some (.int .u8 x.toNat))
def Ft (w:World) (s:Sl) (K:ByteArray->Prop):Prop:= ∃b,pe w s b /\ K b
inductive z5 where
 | cell (a:Addr) (v:Value)
 | bytes (s:Sl) (b:ByteArray)
def dY (w:World):z5->Prop
 | .cell a v=>w.cell? a=some v
 | .bytes s b=>pe w s b
def IxS (s:ByteArray) (i:Int) (K:Int->Prop):Prop:=
 0<=i /\ ∃b,s[i.toNat]? =some b /\ K (b.toNat:Int)
def Cut (s:Sl) (l h m:Int) (sz:Nat) (K:Sl->Prop):Prop:=
 0<=l /\ l<=h /\ h<=m /\ m<=s.cap /\
  K ⟨if m.toNat=l.toNat then s.a else s.a.map (·.add (l.toNat*sz)),h.toNat - l.toNat,m.toNat - l.toNat⟩
def abb (a:Addr) (n:Nat) (l h m:Int) (sz:Nat) (K:Sl->Prop):Prop:=
 0<=l /\ l<=h /\ h<=m /\ m<=n /\
  K ⟨some (if m.toNat=l.toNat then a else a.add (l.toNat*sz)),h.toNat - l.toNat,m.toNat - l.toNat⟩
def abc (s:ByteArray) (l h:Int) (K:ByteArray->Prop):Prop:=
 0<=l /\ l<=h /\ h<=s.size /\ K (s.extract l.toNat h.toNat)
def Ext (w w':World):Prop:=w.heap.size<=w'.heap.size /\ ∀b,b < w.heap.size->w'.heap[b]? =w.heap[b]?
theorem Ext.refl (w:World):Ext w w:=⟨alA _,fun _ _=>rfl⟩
theorem Ext.trans {a b c:World} (h:Ext a b) (h':Ext b c):Ext a c:=
 ⟨amO h.1 h'.1,fun k hk=>(h'.2 k (amV hk h.1)).trans (h.2 k hk)⟩
theorem Ext.alloc (w:World) (o:Obj):Ext w (w.alloc o):=
 ⟨by simp,fun b hb=>by simp only [World.alloc];rw [Array.getElem?_push];rw [if_neg (by omega)]⟩
theorem Ext.cell {w w':World} (h:Ext w w') {a:Addr} {v:Value} (hc:w.cell? a=some v):w'.cell? a=some v:=by
 have hb:=World.block_lt_of_cell? w a hc;unfold World.cell? at hc ⊢;rw [h.2 a.block hb];exact hc
theorem Ext.hold {w w':World} (h:Ext w w') {x:z5} (hc:dY w x):dY w' x:=by
 cases x with
 | cell a v=>exact h.cell hc
 | bytes s b=>
  obtain⟨h1,h2⟩:=hc;refine⟨h1,h2.imp id ?_⟩;rintro⟨a,ha,hb⟩;exact⟨a,ha,fun j x hj=>h.cell (hb j x hj)⟩
def iH (k:Kd) (P:Program) (MN:Sem Value) (w:World) (K:k.T->Prop):Prop:=
 ∃x,(∀w',Ext w w'->MN.run P w'=.ok (k.inj x) w') /\ K x
def cA (k:Kd) (P:Program) (MN:Sem Value) (w:World) (K:k.T->World->Prop):Prop:=
 ∃x w',MN.run P w=.ok (k.inj x) w' /\ K x w'
def abd (nS:List Sh) (P:Program) (MN:Sem Value) (w:World) (R:Fn (nD nS) (World->Prop)):Prop:=
 ∃v w',MN.run P w=.ok v w' /\ dx nS v R w'
def rm (P:Program) (MN:Sem Unit) (w:World) (K:World->Prop):Prop:=
 ∃w',MN.run P w=.ok () w' /\ K w'
def ax (P:Program) (f:FuncId) (args:List Value) (nS:List Sh) (w:World) (R:Fn (nD nS) (World->Prop)):Prop:=
 Calls P f args.toArray w fun e w'=> ∃v,e=.returned v /\ dx nS v R w'
theorem Iw {w:World} {a:Addr}: ∀{ks:List Kd} {i:Nat} {K:List Value->Prop},LdL w a ks i K->
  ∃vs,vs.length=ks.length /\ (∀j v,vs[j]? =some v->w.cell? (a.add (i+j))=some v) /\ K vs
 | [],i,K,h=>⟨[],rfl,by simp,h⟩
 | k :: ks,i,K,h=>by
  obtain⟨x,hx,h⟩:=h;obtain⟨vs,hl,hc,hK⟩:=Iw h;refine⟨k.inj x :: vs,by simp [hl],fun j v hj=>?_,hK⟩
  cases j with
  | zero=>simp only [alo,ald] at hj;subst hj;exact hx
  | succ j=>have:=hc j v (by simpa using hj);rwa [show i+1+j=i+(j+1) by omega] at this
theorem Iy {P:Program} {a:Addr}: ∀{vs:List Value} {i:Nat} {w:World} {K:World->Prop},StL a vs i w K->
  ∃w',(storeCells a vs i).run P w=.ok () w' /\ K w'
 | [],i,w,K,h=>⟨w,rfl,h⟩
 | v :: vs,i,w,K,h=>by
  obtain⟨h1,h2,h3,h4⟩:=h;obtain⟨w',hr,hK⟩:=Iy (P:=P) h4;obtain⟨u,hu⟩:=amv.1 h2;refine⟨w',?_,hK⟩;simp only [storeCells,Sem.run_bind,run_store P w (a.add i) v .plain h1,hu,h3]
  simpa using hr
def ZR:Kd->Value->Bool
 | .i k,.int k' _=>decide (k'=k)
 | .b,.bool _=>true
 | .s,.string _=>true
 | .p,.pointer _=>true
 | .sl,.slice _ _ _=>true
 | .m,.map _=>true
 | _,_=>false
theorem z6 {k:Kd} {v:Value} (h:ZR k v=true):v.cells=#[v]:=by
 cases k <;> cases v <;> simp_all [ZR,Value.cells]
def sS (P:Program) (t:TypeId) (v:Value) (K:List Value->Prop):Prop:=
 match shapeOf P t with
 | .one .v=>v.oneCell'=true /\ K [v]
 | .one k=>cond (ZR k v) (K [v]) False
 | .agg ks=>match v with
  | .agg cs=>cond (Nat.beq cs.size ks.length) (K cs.toList) False
  | _=>False
theorem pg {P:Program} {t:TypeId} {v:Value} {K:List Value->Prop} (h:sS P t v K):K v.cells.toList:=by
 unfold sS at h
 split at h
 ·obtain⟨h1,h2⟩:=h;have:v.cells=#[v]:=by cases v <;> simp_all [Value.oneCell',Value.cells]
  rw [this];exact h2
 ·rename_i k _ _
  cases hb:ZR k v with
  | true=>rw [hb] at h;rw [z6 hb];exact h
  | false=>rw [hb] at h;exact h.elim
 ·rename_i ks sI
  split at h
  ·rename_i cs
   cases hb:Nat.beq cs.size ks.length with
   | true=>rw [hb] at h;exact h
   | false=>rw [hb] at h;exact h.elim
  ·exact h.elim
def ur (P:Program) (lz:List (Nat×Nat×TypeId)) (cells:List Value):List (Nat×Value)->(List Value->Prop)->Prop
 | [],K=>K cells
 | (i,v) :: rest,K=>
  match lz[i]? with
  | none=>False
  | some (off,size,t)=>sS P t v fun cs=>
    cond (Nat.beq cs.length size && Nat.ble (off+size) cells.length)
     (ur P lz (cells.take off++cs++cells.drop (off+size)) rest K) False
theorem rn (off:Nat): ∀(cs:List Value) (j:Nat) (c:Array Value),off+j+cs.length<=c.size->
  ((cs.zipIdx j).foldl (fun acc (x:Value×Nat)=>acc.setIfInBounds (off+x.2) x.1) c).toList=c.toList.take (off+j)++cs++c.toList.drop (off+j+cs.length)
 | [],j,c,_=>by simp
 | v :: cs,j,c,h=>by
  simp only [alQ] at h;have ih:=rn off cs (j+1) (c.setIfInBounds (off+j) v) (by simp;omega);simp only [List.zipIdx_cons,amQ];rw [ih];have e1:off+(j+1)=off+j+1:=by omega
  have e2:off+j+(v :: cs).length=off+j+1+cs.length:=by simp;omega
  rw [e1,e2];have av:off+j < c.toList.length:=by simp;omega
  simp only [Array.toList_setIfInBounds];have h1:List.take (off+j+1) (c.toList.set (off+j) v)=c.toList.take (off+j)++ [v]:=by
   rw [List.take_set,alp av];have:(List.take (off+j) c.toList).length=off+j:=by simp;omega
   rw [alj _ _ (by omega)];simp [this]
  have h2:List.drop (off+j+1+cs.length) (c.toList.set (off+j) v)=List.drop (off+j+1+cs.length) c.toList:=by
   rw [amo (by omega)]
  rw [h1,h2];simp [ale]
theorem rp {P:Program} {lz:List (Nat×Nat×TypeId)}: ∀{parts:List (Nat×Value)} {cells:List Value} {K:List Value->Prop},
  ur P lz cells parts K-> ∃cs,Instr.fill (fun i=>(lz[i]?).map fun x=>(x.1,x.2.1)) cells.toArray parts=some cs /\ K cs.toList
 | [],cells,K,h=>⟨cells.toArray,rfl,h⟩
 | (i,v) :: rest,cells,K,h=>by
  simp only [ur] at h
  cases hp:lz[i]? with
  | none=>simp [hp] at h
  | some x=>
   obtain⟨off,size,t⟩:=x;simp only [hp] at h;have h1:=pg h
   cases hb:(Nat.beq v.cells.toList.length size && Nat.ble (off+size) cells.length) with
   | false=>rw [hb] at h1;exact h1.elim
   | true=>
    rw [hb] at h1;simp only [cond_true] at h1;obtain⟨cs,hc,hK⟩:=rp h1;simp only [alD] at hb;have e1:v.cells.size=size:=by simpa using alB hb.1
    have e2:off+size<=cells.length:=ang hb.2;refine⟨cs,?_,hK⟩;simp only [Instr.fill,hp,al8];rw [if_neg (by simp [e1];omega)];rw [<-hc];congr 1;apply amw;have:=rn off v.cells.toList 0 cells.toArray (by simp [e1];omega);simp only [amW,anp,e1] at this;rw [<-Array.foldl_toList,Array.toList_zipIdx];exact this
def vG (P:Program) (op:BinOp) (t:TypeId) (cy:Bool) (x y:Value):Option Value:=
  match x,y with
  | .int k a,.int k' b=>
    cond (decide (k=k'))
      (match op with
       | .add=>some (.int k (k.wrap (a+b)))
       | .sub=>some (.int k (k.wrap (a - b)))
       | .mul=>some (.int k (k.wrap (a*b)))
       | .and=>some (.int k (k.wrap ((BitVec.ofInt k.bits a &&& BitVec.ofInt k.bits b).toNat:Nat)))
       | .or=>some (.int k (k.wrap ((BitVec.ofInt k.bits a ||| BitVec.ofInt k.bits b).toNat:Nat)))
       | .xor=>some (.int k (k.wrap ((BitVec.ofInt k.bits a ^^^ BitVec.ofInt k.bits b).toNat:Nat)))
       | .andNot=>some (.int k (k.wrap ((BitVec.ofInt k.bits a &&& ~~~ BitVec.ofInt k.bits b).toNat:Nat)))
       | .eql=>some (.bool (a ==b))
       | .neq=>some (.bool (a !=b))
       | .lss=>some (.bool (decide (a < b)))
       | .leq=>some (.bool (decide (a<=b)))
       | .gtr=>some (.bool (decide (a > b)))
       | .geq=>some (.bool (decide (a>=b)))
       | _=>none) none
  | .bool a,.bool b=>
    match P.underlying t with
    | some .bool=>match op with
      | .eql=>some (.bool (a ==b))
      | .neq=>some (.bool (!(a ==b)))
      | _=>none
    | _=>none
  | .string a,.string b=>match op with
    | .eql=>some (.bool (a.toList ==b.toList))
    | .neq=>some (.bool (!(a.toList ==b.toList)))
    | .lss=>some (.bool (Op.bytesLess a.toList b.toList))
    | .leq=>some (.bool (Op.bytesLess a.toList b.toList || a.toList ==b.toList))
    | .gtr=>some (.bool (!(Op.bytesLess a.toList b.toList || a.toList ==b.toList)))
    | .geq=>some (.bool (!(Op.bytesLess a.toList b.toList)))
    | _=>none
  | .pointer a,.pointer b=>match cy,P.underlying t with
    | true,some (.pointer _)=>match b with
      | none=>match op with
        | .eql=>some (.bool a.isNone)
        | .neq=>some (.bool (!a.isNone))
        | _=>none
      | _=>none
    | _,_=>none
  | .slice a _ _,.slice b _ _=>match cy,P.underlying t with
    | true,some (.slice _)=>match b with
      | none=>match op with
        | .eql=>some (.bool a.isNone)
        | .neq=>some (.bool (!a.isNone))
        | _=>none
      | _=>none
    | _,_=>none
  | .map a,.map b=>match cy,P.underlying t with
    | true,some (.map _ _)=>match b with
      | none=>match op with
        | .eql=>some (.bool a.isNone)
        | .neq=>some (.bool (!a.isNone))
        | _=>none
      | _=>none
    | _,_=>none
  | _,_=>none
def cH (op:BinOp) (t:TypeId) (x y:Operand) (a b:Value):Sem Value:=do eqGuard op t x y a b;binOp op t a b
theorem bK {P:Program} {w:World} {op:BinOp} {t:TypeId} {x y:Operand} {a b:Value} (ha:a.oneCell'=true) (hn:a≠ .nilIface):
  (eqGuard op t x y a b).run P w=.ok () w:=by
 unfold eqGuard
 cases a <;> simp_all [Value.oneCell'] <;> cases op <;> rfl
theorem z7 {P:Program} {w:World} {t:TypeId} (dp:Nat) {a b:Bool} (ht:P.underlying t=some .bool):
  (Op.equalIn (dp+1) t (.bool a) (.bool b)).run P w=.ok (a ==b) w:=by
 simp [Op.equalIn,run_underlying ht]
theorem Ds {P:Program} {w:World} {t:TypeId} {a b:Bool} (ht:P.underlying t=some .bool):
  (Op.equal t (.bool a) (.bool b)).run P w=.ok (a ==b) w:=z7 9999 ht
theorem vn {P:Program} {w:World} {t:TypeId} (dp:Nat) {e:TypeId} {a:Option Addr} (ht:P.underlying t=some (.pointer e)):
  (Op.equalIn (dp+1) t (.pointer a) (.pointer none)).run P w=.ok a.isNone w:=by
 cases a <;> simp [Op.equalIn,run_underlying ht]
theorem yB {P:Program} {w:World} {t:TypeId} {e:TypeId} {a:Option Addr} (ht:P.underlying t=some (.pointer e)):
  (Op.equal t (.pointer a) (.pointer none)).run P w=.ok a.isNone w:=vn 9999 ht
theorem rq {P:Program} {w:World} {t:TypeId} (dp:Nat) {e:TypeId} {a:Option Addr} {n c m d:Nat} (ht:P.underlying t=some (.slice e)):
  (Op.equalIn (dp+1) t (.slice a n c) (.slice none m d)).run P w=.ok a.isNone w:=by
 cases a <;> simp [Op.equalIn,run_underlying ht]
theorem vo {P:Program} {w:World} {t:TypeId} {e:TypeId} {a:Option Addr} {n c m d:Nat} (ht:P.underlying t=some (.slice e)):
  (Op.equal t (.slice a n c) (.slice none m d)).run P w=.ok a.isNone w:=rq 9999 ht
theorem vp {P:Program} {w:World} {t:TypeId} (dp:Nat) {k e:TypeId} {a:Option Nat} (ht:P.underlying t=some (.map k e)):
  (Op.equalIn (dp+1) t (.map a) (.map none)).run P w=.ok a.isNone w:=by
 cases a <;> simp [Op.equalIn,run_underlying ht]
theorem yC {P:Program} {w:World} {t:TypeId} {k e:TypeId} {a:Option Nat} (ht:P.underlying t=some (.map k e)):
  (Op.equal t (.map a) (.map none)).run P w=.ok a.isNone w:=vp 9999 ht
theorem wm {P:Program} {w:World} {op:BinOp} {t:TypeId} {x y:Operand} {cy:Bool} {a b v:Value} (h:vG P op t cy a b=some v):
  (cH op t x y a b).run P w=.ok v w:=by
 unfold vG at h
 split at h
 ·rename_i k a k' b
  cases hk:decide (k=k') with
  | false=>rw [hk] at h;cases h
  | true=>
   rw [hk] at h;simp only [cond_true] at h;obtain rfl:=of_decide_eq_true hk;unfold cH;rw [Sem.run_bind,bK rfl (by simp)]
   cases op <;> simp only [ald] at h <;> first
    | (subst h;simp [binOp,Op.intArith,Op.intBits,Op.intCmp];done)
    | cases h
 ·rename_i a b
  split at h
  ·rename_i hu
   unfold cH;rw [Sem.run_bind,bK rfl (by simp)]
   cases op <;> simp only [ald] at h <;> first
    | (subst h;simp [binOp,Ds hu];done)
    | cases h
  ·cases h
 ·rename_i a b
  unfold cH;rw [Sem.run_bind,bK rfl (by simp)]
  cases op <;> simp only [ald] at h <;> first
   | (subst h;simp [binOp,Op.stringOp];done)
   | cases h
 ·split at h
  ·rename_i hu
   split at h
   ·unfold cH;rw [Sem.run_bind,bK rfl (by simp)]
    cases op <;> simp only [ald] at h <;> first
     | (subst h;simp [binOp,yB hu];done)
     | cases h
   ·cases h
  ·cases h
 ·split at h
  ·rename_i hu
   split at h
   ·unfold cH;rw [Sem.run_bind,bK rfl (by simp)]
    cases op <;> simp only [ald] at h <;> first
     | (subst h;simp [binOp,vo hu];done)
     | cases h
   ·cases h
  ·cases h
 ·split at h
  ·rename_i hu
   split at h
   ·unfold cH;rw [Sem.run_bind,bK rfl (by simp)]
    cases op <;> simp only [ald] at h <;> first
     | (subst h;simp [binOp,yC hu];done)
     | cases h
   ·cases h
  ·cases h
 ·cases h
def Iz (op:BinOp) (a b:Value) (K:Value->Prop):Prop:=
 match op,a,b with
 | .quo,.int k m,.int k' n=>cond (decide (k=k')) (n≠0 /\ K (.int k (k.wrap (m.tdiv n)))) False
 | .rem,.int k m,.int k' n=>cond (decide (k=k')) (n≠0 /\ K (.int k (m.tmod n))) False
 | .shl,.int k m,.int _ n=>0<=n /\ K (.int k (k.wrap (m*2 ^ (min n.toNat k.bits))))
 | .shr,.int k m,.int _ n=>0<=n /\ K (.int k (m.fdiv (2 ^ (min n.toNat k.bits))))
 | .add,.string m,.string n=>m.size+n.size<=9223372036854775807 /\ K (.string (m++n))
 | _,_,_=>False
theorem IA {P:Program} {op:BinOp} {t:TypeId} {x y:Operand} {a b:Value} {K:Value->Prop} (h:Iz op a b K):
  ∃v,(∀w',(cH op t x y a b).run P w'=.ok v w') /\ K v:=by
 unfold Iz at h
 split at h
 ·rename_i k m k' n
  cases hk:decide (k=k') with
  | false=>rw [hk] at h;exact h.elim
  | true=>
   rw [hk] at h;obtain rfl:=of_decide_eq_true hk;obtain⟨h1,h2⟩:=h;refine⟨_,fun w'=>?_,h2⟩;unfold cH;rw [Sem.run_bind,bK rfl (by simp)];simp [binOp,Op.intDiv,h1]
 ·rename_i k m k' n
  cases hk:decide (k=k') with
  | false=>rw [hk] at h;exact h.elim
  | true=>
   rw [hk] at h;obtain rfl:=of_decide_eq_true hk;obtain⟨h1,h2⟩:=h;refine⟨_,fun w'=>?_,h2⟩;unfold cH;rw [Sem.run_bind,bK rfl (by simp)];simp [binOp,Op.intDiv,h1]
 ·obtain⟨h1,h2⟩:=h;refine⟨_,fun w'=>?_,h2⟩;unfold cH;rw [Sem.run_bind,bK rfl (by simp)];simp [binOp,Op.shift,Int.not_lt.2 h1]
 ·obtain⟨h1,h2⟩:=h;refine⟨_,fun w'=>?_,h2⟩;unfold cH;rw [Sem.run_bind,bK rfl (by simp)];simp [binOp,Op.shift,Int.not_lt.2 h1]
 ·rename_i m n
  obtain⟨h1,h2⟩:=h;refine⟨_,fun w'=>?_,h2⟩;unfold cH;rw [Sem.run_bind,bK rfl (by simp)];have: ¬(IntKind.i64.max < ((m.size+n.size:Nat):Int)):=by
   have e:IntKind.i64.max=9223372036854775807:=by decide
   rw [e];omega
  simp only [binOp,Op.stringOp,Result.andThen_ok,gt_iff_lt,if_neg this,Sem.run_pure]
 ·exact h.elim
abbrev Env:=List (Nat×Option Value)
abbrev dV:=List (Nat×List (Nat×Bool)×Value)
def gt:Env->Nat->Option (Option Value)
 | [],_=>none
 | (j,v) :: r,t=>cond (Nat.beq j t) (some v) (gt r t)
def Rv (G F:List (Nat×Bool)):Bool:=G.all fun g=>F.any fun f=>Nat.beq g.1 f.1 && (g.2 ==f.2)
def Bh (F:List (Nat×Bool)):dV->Nat->Option Value
 | [],_=>none
 | (d,G,v) :: r,t=>cond (Nat.beq d t) (cond (Rv G F) (some v) none) (Bh F r t)
def look (l:Env) (fl:dV) (F:List (Nat×Bool)):Operand->Option Value
 | .tmp t=>match gt l t with
  | some (some v)=>some v
  | some none=>Bh F fl t
  | none=>none
 | .const v=>some v
 | .global g=>some (.pointer (some ⟨g,0,none⟩))
 | .func f=>some (.func (.func f) #[] #[])
def sT (ρ:Operand->Option Value):List Operand->Option (List Value)
 | []=>some []
 | x :: r=>match ρ x,sT ρ r with
  | some v,some vs=>some (v :: vs)
  | _,_=>none
def isConst:Operand->Bool
 | .const _=>true
 | _=>false
def ph (P:Program) (op:Op) (ty:TypeId) (ρ:Operand->Option Value) (ρ':Nat->Bool->Operand->Option Value):Option Value:=
 match op with
 | .move x=>ρ x
 | .assign x=>ρ x
 | .pick (.tmp c) a b=>
  match ρ (.tmp c),ρ' c true a,ρ' c false b with
  | some (.bool cv),some (.bool x),some (.bool y)=>some (.bool (cond cv x y))
  | some (.bool true),va,_=>va
  | some (.bool false),_,vb=>vb
  | _,_,_=>none
 | .binOp o t x y _=>
  match ρ x,ρ y with
  | some a,some b=>vG P o t (isConst y) a b
  | _,_=>none
 | .unOp o _ x=>
  match o,ρ x with
  | .not,some (.bool b)=>some (.bool (!b))
  | .neg,some (.int k n)=>some (.int k (k.wrap (0 - n)))
  | .xor,some (.int k n)=>some (.int k (k.wrap ((BitVec.ofInt k.bits (if k.signed then -1 else k.max) ^^^ BitVec.ofInt k.bits n).toNat:Nat)))
  | _,_=>none
 | .extract x i=>
  match ρ x with
  | some (.tuple vs)=>vs.toList[i]?
  | _=>none
 | .call c=>
  match c.callee,c.args.toList,c.argTypes.toList with
  | .builtin .len,[x],[t]=>
   match P.underlying t,ρ x with
   | some (.slice _),some (.slice _ n _)=>some (.int .i64 n)
   | some .string,some (.string s)=>some (.int .i64 s.size)
   | _,_=>none
  | .builtin .cap,[x],[t]=>
   match P.underlying t,ρ x with
   | some (.slice _),some (.slice _ _ n)=>some (.int .i64 n)
   | _,_=>none
  | .builtin .min,[x,y],_=>
   match ρ x,ρ y with
   | some (.int k a),some (.int _ b)=>some (.int k (if b < a then b else a))
   | _,_=>none
  | .builtin .max,[x,y],_=>
   match ρ x,ρ y with
   | some (.int k a),some (.int _ b)=>some (.int k (if b > a then b else a))
   | _,_=>none
  | _,_,_=>none
 | .convert src dst x=>
  match P.underlying src,P.underlying dst,ρ x with
  | some _,some (.int k),some (.int _ n)=>some (.int k (k.wrap n))
  | some .string,some .string,some (.string s)=>some (.string s)
  | _,_,_=>none
 | .makeInterface t x=>
  match P.underlying t,ρ x with
  | some (.interface _),_=>none
  | some _,some v=>some (.iface t v)
  | _,_=>none
 | .makeFunc fn first captured=>
  match sT ρ first.toList,sT ρ captured.toList with
  | some fs,some cs=>some (.func fn fs.toArray cs.toArray)
  | _,_=>none
 | .field t x f=>
  match P.underlying t,ρ x with
  | some (.struct fs),some (.agg cs)=>
   match fs[f]? with
   | some fd=>match P.underlying fd.type,P.info? fd.type with
    | some d,some i=>cond (mM d) (some (.agg ((cs.toList.drop fd.offset).take i.size).toArray)) cs.toList[fd.offset]?
    | _,_=>none
   | none=>none
  | _,_=>none
 | _=>none
section
variable {P:Program} {e:Operand->Value} {ρ:Operand->Option Value} {ρ':Nat->Bool->Operand->Option Value} {w:World}
theorem k8 (hρ: ∀x v,ρ x=some v->e x=v): ∀{xs:List Operand} {vs:List Value},sT ρ xs=some vs->xs.map e=vs
 | [],vs,h=>by simp only [sT,ald] at h;subst h;rfl
 | x :: r,vs,h=>by
  simp only [sT] at h
  cases h1:ρ x with
  | none=>simp [h1] at h
  | some v=>
   cases h2:sT ρ r with
   | none=>simp [h1,h2] at h
   | some ws=>
    simp only [h1,h2,ald] at h;subst h;simp [hρ x v h1,k8 hρ h2]
theorem pj {α:Type} {a:Array α} {x:α} (h:a.toList= [x]):a=#[x]:=amw (by simpa using h)
theorem yW {α:Type} {a:Array α} {x y:α} (h:a.toList= [x,y]):a=#[x,y]:=amw (by simpa using h)
theorem iK {t:TypeId} {d:TypeDesc} (h:P.underlying t=some d):(isAgg t).run P w=.ok (mM d) w:=by
 simp only [isAgg,Sem.run_bind,run_underlying h,Result.andThen_ok]
 cases d <;> rfl
theorem mN (hρ: ∀x v,ρ x=some v->e x=v) (Ie: ∀c b x v,e (.tmp c)=.bool b->ρ' c b x=some v->e x=v)
  {op:Op} {ty:TypeId} {v:Value} (h:ph P op ty ρ ρ'=some v) (dst:Option Tmp) (pos:String) (after:Array Edge) (g:Option (Nat×Bool)):
  (execOp e ⟨dst,op,ty,pos,after,g⟩).run P w=.ok (.value v) w:=by
 unfold ph at h
 split at h
 ·have:=hρ _ _ h;simp [execOp,this]
 ·have:=hρ _ _ h;simp [execOp,this]
 ·rename_i c a b
  split at h
  ·rename_i cv x y h1 h2 h3
   simp only [ald] at h;subst h;have e1:=hρ _ _ h1
   cases cv with
   | true=>have e2:=Ie c true a _ e1 h2;simp [execOp,asBool,e1,e2]
   | false=>have e2:=Ie c false b _ e1 h3;simp [execOp,asBool,e1,e2]
  ·rename_i h1 _
   have e1:=hρ _ _ h1;have e2:=Ie c true a _ e1 h;simp [execOp,asBool,e1,e2]
  ·rename_i h1 _
   have e1:=hρ _ _ h1;have e2:=Ie c false b _ e1 h;simp [execOp,asBool,e1,e2]
  ·cases h
 ·rename_i o t x y VN
  split at h
  ·rename_i a b h1 h2
   have e1:=hρ _ _ h1;have e2:=hρ _ _ h2;have hr:=wm (w:=w) (x:=x) (y:=y) h;unfold cH at hr;simp only [execOp,e1,e2];rw [Sem.run_bind];rw [hr];rfl
  ·cases h
 ·rename_i o t x
  split at h
  ·rename_i b h1
   simp only [ald] at h;subst h;simp [execOp,Op.unary,hρ _ _ h1]
  ·rename_i k n h1
   simp only [ald] at h;subst h;simp [execOp,Op.unary,Op.intArith,hρ _ _ h1]
  ·rename_i k n h1
   simp only [ald] at h;subst h;simp [execOp,Op.unary,Op.intBits,hρ _ _ h1]
  ·cases h
 ·rename_i x i
  split at h
  ·rename_i vs h1
   have e1:=hρ _ _ h1;have:vs[i]? =some v:=by simpa using h
   simp [execOp,Instr.extract,e1,this]
  ·cases h
 ·rename_i c
  obtain⟨callee,args,argTypes⟩:=c;simp only at h
  split at h
  ·rename_i x t ha ht
   obtain rfl:=pj ha;obtain rfl:=pj ht
   split at h
   ·rename_i e' a n c' hu h1
    simp only [ald] at h;subst h;have e1:=hρ _ _ h1;simp [execOp,Go.resolve,invoke,builtin,Builtin.len_,run_underlying hu,e1,goInt]
   ·rename_i s hu h1
    simp only [ald] at h;subst h;have e1:=hρ _ _ h1;simp [execOp,Go.resolve,invoke,builtin,Builtin.len_,run_underlying hu,e1,goInt]
   ·cases h
  ·rename_i x t ha ht
   obtain rfl:=pj ha;obtain rfl:=pj ht
   split at h
   ·rename_i e' a n c' hu h1
    simp only [ald] at h;subst h;have e1:=hρ _ _ h1;simp [execOp,Go.resolve,invoke,builtin,Builtin.cap_,run_underlying hu,e1,goInt]
   ·cases h
  ·rename_i x y ha
   obtain rfl:=yW ha
   split at h
   ·rename_i k a k' b h1 h2
    simp only [ald] at h;subst h;have e1:=hρ _ _ h1;have e2:=hρ _ _ h2;simp [execOp,Go.resolve,invoke,builtin,Builtin.min_,Builtin.min2,e1,e2]
   ·cases h
  ·rename_i x y ha
   obtain rfl:=yW ha
   split at h
   ·rename_i k a k' b h1 h2
    simp only [ald] at h;subst h;have e1:=hρ _ _ h1;have e2:=hρ _ _ h2;simp [execOp,Go.resolve,invoke,builtin,Builtin.max_,Builtin.max2,e1,e2]
   ·cases h
  ·cases h
 ·rename_i src abe x
  split at h
  ·rename_i d k k' n hs hd h1
   simp only [ald] at h;subst h;have e1:=hρ _ _ h1;simp [execOp,convert,run_underlying hs,run_underlying hd,e1,Conv.intToInt]
  ·rename_i s hs hd h1
   simp only [ald] at h;subst h;have e1:=hρ _ _ h1;simp [execOp,convert,run_underlying hs,run_underlying hd,e1]
  ·cases h
 ·rename_i t x
  split at h
  ·cases h
  ·rename_i d v' aW hu h1
   simp only [ald] at h;subst h;have e1:=hρ _ _ h1;simp only [execOp,Instr.makeInterface,Sem.run_bind,run_underlying hu,Result.andThen_ok,e1]
   cases d <;> first | rfl | exact(aW _ rfl).elim
  ·cases h
 ·rename_i fn first captured
  split at h
  ·rename_i fs cs h1 h2
   simp only [ald] at h;subst h;have e1:=k8 hρ h1;have e2:=k8 hρ h2;have a1:first.map e=fs.toArray:=amw (by simp [e1]);have a2:captured.map e=cs.toArray:=amw (by simp [e2]);simp [execOp,Instr.makeFunc,a1,a2]
  ·cases h
 ·rename_i t x f
  split at h
  ·rename_i fs cs hu h1
   have e1:=hρ _ _ h1
   split at h
   ·rename_i fd hf
    split at h
    ·rename_i d i hd hi
     simp only [execOp,Instr.field,Sem.run_bind,run_underlying hu,Result.andThen_ok,e1,hf,asAgg,Sem.run_pure,part,iK hd]
     cases hb:mM d with
     | true=>
      rw [hb] at h;simp only [cond_true,ald] at h;subst h;simp only [if_true,Sem.run_bind,sizeOf,typeInfo,run_program,Result.andThen_ok,hi,Sem.run_pure];congr 3;apply amw;simp [List.extract_eq_take_drop]
     | false=>
      rw [hb] at h;simp only [cond_false] at h;have:cs[fd.offset]? =some v:=by simpa using h
      simp [this]
    ·cases h
   ·cases h
  ·cases h
 ·cases h
end
def gZ (P:Program) (ty:TypeId):List Sh:=
 match P.underlying ty with
 | some (.tuple es)=>es.toList.map (shapeOf P)
 | _=> [shapeOf P ty]
def gB (nS:List Sh) (P:Program) (MN:Sem Value) (w:World) (R:Fn (nD nS) (World->Prop)):Prop:=
 ∃v,(∀w',Ext w w'->MN.run P w'=.ok v w') /\ dx nS v R w
def Bi (P:Program) (s:TypeId) (f:Nat):Option Nat:=
 match P.underlying s with
 | some (.struct fs)=>match fs[f]? with
  | some fd=>cond (Nat.beq (P.cellsOf fd.type) 0) none (some fd.offset)
  | none=>none
 | _=>none
def Bj (P:Program) (t:TypeId) (w:World) (a:Addr) (K:Value->Prop):Prop:=
 match P.underlying t with
 | some d=>cond (mM d)
   (cond (Nat.beq (P.cellsOf t) (mL P 16 t).length) (LdL w a (mL P 16 t) 0 fun vs=>K (.agg vs.toArray)) False)
   (Ld (mK d) w a fun x=>K ((mK d).inj x))
 | none=>False
def qe (v:Option Operand) (ρ:Operand->Option Value) (d:Int) (K:Int->Prop):Prop:=
 match v with
 | none=>K d
 | some x=>match ρ x with
  | some (.int _ n)=>K n
  | _=>False
def lN (P:Program) (t:TypeId):Bool:=
 match P.underlying t with
 | some (.int _)=>true
 | some .bool=>true
 | some .string=>true
 | _=>false
def wo (P:Program) (t:TypeId):Bool:=
 match P.underlying t with
 | some (.interface _)=>true
 | some (.func _ _ _)=>true
 | some (.struct _)=>true
 | some (.array _ _)=>true
 | _=>false
def z8 (P:Program) (c:Call):Bool:=
 match c.callee,c.argTypes.toList with
 | .builtin .len,[t]=>match P.underlying t with
  | some (.map _ _)=>true
  | _=>false
 | _,_=>false
def jd (P:Program) (src dst:TypeId):Bool:=
 match P.underlying src,P.underlying dst with
 | some (.slice e),some .string=>(match P.underlying e with
  | some (.int .u8)=>true
  | _=>false)
 | _,_=>false
def Wv (P:Program) (op:Op) (ty:TypeId) (ρ:Operand->Option Value) (ρ':Nat->Bool->Operand->Option Value) (w:World) (K:Value->Prop):Prop:=
 match op with
 | .nilCheck x=>
  match ρ x with
  | some (.pointer p)=>NN p fun a=>K (.pointer (some a))
  | some (.func (.func f) fs cs)=>K (.func (.func f) fs cs)
  | _=>False
 | .fieldAddr s x f=>
  match Bi P s f,ρ x with
  | some off,some (.pointer p)=>NN p fun a=>K (.pointer (some (a.add off)))
  | _,_=>False
 | .load t x=>
  match ρ x with
  | some (.pointer p)=>NN p fun a=>Bj P t w a K
  | _=>False
 | .indexAddr t x ix=>
  match P.underlying t,ρ x,ρ ix with
  | some (.slice el),some (.slice s len _),some (.int _ i)=>match P.info? el with
   | some inf=>Ix s len i inf.size fun a=>K (.pointer (some a))
   | none=>False
  | some (.array len el),some (.pointer p),some (.int _ i)=>match P.info? el with
   | some inf=>NN p fun a=>Wu a len i inf.size fun a=>K (.pointer (some a))
   | none=>False
  | _,_,_=>False
 | .index t x ix=>
  match P.underlying t,ρ x,ρ ix with
  | some .string,some (.string s),some (.int _ i)=>IxS s i fun b=>K (.int .u8 b)
  | _,_,_=>False
 | .slice t x lo hi mx=>
  match P.underlying t,ρ x with
  | some (.slice el),some (.slice a len cap)=>match P.info? el with
   | some inf=>cond (mx.isSome && hi.isNone) False
     (qe mx ρ cap fun m=>qe hi ρ len fun h=>qe lo ρ 0 fun l=>
      Cut ⟨a,len,cap⟩ l h m inf.size fun s=>K (.slice s.a s.len s.cap))
   | none=>False
  | some (.array n el),some (.pointer p)=>match P.info? el with
   | some inf=>cond (mx.isSome && hi.isNone) False
     (NN p fun a=>qe mx ρ n fun m=>qe hi ρ n fun h=>qe lo ρ 0 fun l=>
      abb a n l h m inf.size fun s=>K (.slice s.a s.len s.cap))
   | none=>False
  | some .string,some (.string s)=>cond mx.isSome False
    (qe hi ρ s.size fun h=>qe lo ρ 0 fun l=>abc s l h fun r=>K (.string r))
  | _,_=>False
 | .binOp o t x y _=>
  match ρ x,ρ y with
  | some a,some b=>cond (wo P t) (iH .b P (cH o t x y a b) w fun r=>K (.bool r))
    (match vG P o t (isConst y) a b with
    | some v=>K v
    | none=>cond (lN P t) (Iz o a b K) (iH .b P (cH o t x y a b) w fun r=>K (.bool r)))
  | _,_=>False
 | .build t parts=>
  match P.underlying t,P.info? t,sT ρ (parts.toList.map (·.2)) with
  | some (.struct fs),some inf,some vs=>match inf.zero with
   | some z=>cond (fs.toList.all fun f=>(P.info? f.type).isSome)
     (ur P (fs.toList.map fun f=>(f.offset,P.cellsOf f.type,f.type)) z.cells.toList ((parts.toList.map (·.1)).zip vs) fun cs=>K (.agg cs.toArray)) False
   | none=>False
  | some (.array n el),some inf,some vs=>match inf.zero with
   | some z=>cond (P.info? el).isNone False <| ur P ((List.range n).map fun i=>(i*P.cellsOf el,P.cellsOf el,el)) z.cells.toList ((parts.toList.map (·.1)).zip vs) fun cs=>K (.agg cs.toArray)
   | none=>False
  | _,_,_=>False
 | .lookup t x ix ok=>
  match ρ x,ρ ix with
  | some m,some k=>gB (gZ P ty) P (Instr.lookup t m k ok) w (curry _ fun cs _=>K (jG (iJ (gZ P ty) cs)))
  | _,_=>False
 | .typeAssert x xt De ok=>
  match ρ x with
  | some v=>gB (gZ P ty) P (Instr.typeAssert v xt De ok) w (curry _ fun cs _=>K (jG (iJ (gZ P ty) cs)))
  | _=>False
 | .call c=>cond (z8 P c)
   (match sT ρ c.args.toList with
   | some vs=>iH (.i .i64) P (Builtin.len_ c.argTypes ty vs.toArray) w fun n=>K (.int .i64 n)
   | none=>False)
   (match ph P (.call c) ty ρ ρ' with
   | some v=>K v
   | none=>False)
 | .convert src dst x=>match jd P src dst with
  | true=>match ρ x with
   | some (.slice a len cap)=>Ft w ⟨a,len,cap⟩ fun b=>K (.string b)
   | _=>False
  | false=>match ph P (.convert src dst x) ty ρ ρ' with
   | some v=>K v
   | none=>False
 | op=>match ph P op ty ρ ρ' with
  | some v=>K v
  | none=>False
def cQ (P:Program):Op->Bool
 | .load _ _=>true
 | .convert src dst _=>jd P src dst
 | _=>false
def wl (P:Program) (op:Op):Bool:=
 match op with
 | .load _ _ | .lookup _ _ _ _ | .typeAssert _ _ _ _=>false
 | .convert src dst _=> !jd P src dst
 | .binOp _ t _ y _=>lN P t
 | .call c=> !z8 P c
 | _=>true
def iL (a:Addr):List Value->Nat->List (Addr×Value)
 | [],_=> []
 | v :: vs,i=>(a.add i,v) :: iL a vs (i+1)
def MO (P:Program) (t:TypeId) (a:Addr) (v:Value):List (Addr×Value):=
 match P.underlying t with
 | some d=>cond (mM d) (match v with
  | .agg cs=>iL a cs.toList 0
  | _=> []) [(a,v)]
 | none=> []
def sU (P:Program) (ρ:Operand->Option Value) (op:Op) (v:Value):List z5:=
 match op with
 | .load t x=>match ρ x with
  | some (.pointer (some a))=>(MO P t a v).map fun x=>.cell x.1 x.2
  | _=> []
 | .convert src dst x=>match jd P src dst with
  | true=>match ρ x,v with
   | some (.slice a len cap),.string b=> [.bytes ⟨a,len,cap⟩ b]
   | _,_=> []
  | false=> []
 | _=> []
def ij (P:Program) (op:Op):Bool:=
 match op with
 | .move _ | .assign _ | .pick _ _ _ | .nilCheck _ | .fieldAddr _ _ _ | .load _ _ | .indexAddr _ _ _ | .index _ _ _ | .slice _ _ _ _ _ | .binOp _ _ _ _ _ | .build _ _ | .typeAssert _ _ _ _
 | .unOp _ _ _ | .extract _ _ | .makeInterface _ _ | .makeFunc _ _ _ | .field _ _ _=>true
 | .convert src dst _=>match P.underlying src,P.underlying dst with
  | some (.int _),some (.int _)=>true
  | some .string,some .string=>true
  | _,_=>jd P src dst
 | .lookup _ _ _ _=>true
 | .call c=>match c.callee with
  | .builtin .len | .builtin .cap | .builtin .min | .builtin .max=>true
  | _=>false
 | _=>false
section
variable {P:Program} {e:Operand->Value} {ρ:Operand->Option Value} {ρ':Nat->Bool->Operand->Option Value} {w:World}
theorem ru {p:Option Addr} {K:Addr->Prop} (h:NN p K): ∃a,p=some a /\ K a:=by
 cases p with
 | none=>exact h.elim
 | some a=>exact⟨a,rfl,h⟩
theorem qA {t:TypeId} {i:TypeInfo} (h:P.info? t=some i):P.cellsOf t=i.size:=by simp [Program.cellsOf,h]
theorem wq {t:TypeId} {n:Nat} (h:P.cellsOf t=n) (hn:n≠0): ∃i,P.info? t=some i /\ i.size=n:=by
 unfold Program.cellsOf at h
 cases hi:P.info? t with
 | none=>simp [hi] at h;omega
 | some i=>exact⟨i,rfl,by simpa [hi] using h⟩
theorem info_of_underlying {t:TypeId} {d:TypeDesc} (h:P.underlying t=some d): ∃i,P.info? t=some i:=by
 unfold Program.underlying at h
 cases hi:P.info? t with
 | none=>simp [hi] at h
 | some i=>exact⟨i,rfl⟩
theorem qf {a:Addr}: ∀{vs:List Value} {i:Nat} {x:Addr×Value},x∈iL a vs i-> ∃j v,vs[j]? =some v /\ x=(a.add (i+j),v)
 | [],i,x,h=>by cases h
 | v :: vs,i,x,h=>by
  rcases alF.1 h with rfl | h
  ·exact⟨0,v,rfl,rfl⟩
  ·obtain⟨j,u,h1,rfl⟩:=qf h;exact⟨j+1,u,by simpa using h1,by rw [show i+1+j=i+(j+1) by omega]⟩
theorem qg {a:Addr}: ∀{vs:List Value} {i j:Nat} {v:Value},vs[j]? =some v->(a.add (i+j),v)∈iL a vs i
 | [],i,j,v,h=>by simp at h
 | u :: vs,i,0,v,h=>by simp only [alo,ald] at h;subst h;simp [iL]
 | u :: vs,i,j+1,v,h=>by
  have:=qg (a:=a) (vs:=vs) (i:=i+1) (j:=j) (v:=v) (by simpa using h);rw [show i+1+j=i+(j+1) by omega] at this;simp [iL,this]
theorem Bk {t:TypeId} {a:Addr} {K:Value->Prop} (h:Bj P t w a K):
  ∃v,(∀x∈MO P t a v,w.cell? x.1=some x.2) /\ (∀w',(∀x∈MO P t a v,w'.cell? x.1=some x.2)->(loadVar t a).run P w'=.ok v w') /\ K v:=by
 unfold Bj at h
 split at h
 ·rename_i d hd
  cases hb:mM d with
  | false=>
   rw [hb] at h;obtain⟨x,hx,hK⟩:=h;have yD:MO P t a ((mK d).inj x)= [(a,(mK d).inj x)]:=by simp [MO,hd,hb]
   refine⟨_,by rw [yD];simpa using hx,fun w' he=>?_,hK⟩;rw [yD] at he;have hc:=he (a,(mK d).inj x) (by simp);simp only at hc;simp [loadVar,iK hd,hb,hc]
  | true=>
   rw [hb] at h;simp only [cond_true] at h
   cases hn:Nat.beq (P.cellsOf t) (mL P 16 t).length with
   | false=>rw [hn] at h;exact h.elim
   | true=>
    rw [hn] at h;obtain⟨vs,hl,hc,hK⟩:=Iw h;obtain⟨i,hi⟩:=info_of_underlying hd;have dL:i.size=vs.length:=by rw [hl,<-alB hn,qA hi]
    have yD:MO P t a (.agg vs.toArray)=iL a vs 0:=by simp [MO,hd,hb]
    refine⟨_,?_,fun w' he=>?_,hK⟩
    ·rw [yD];intro x hx;obtain⟨j,v,h1,rfl⟩:=qf hx;exact hc j v (by simpa using h1)
    ·have:=run_loadCells_list (P:=P) w' a vs (fun j v hj=>by
      have:=he (a.add (0+j),v) (by rw [yD];exact qg (by simpa using hj))
      simpa using this)
     simp [loadVar,iK hd,hb,sizeOf,typeInfo,hi,dL,this]
 ·exact h.elim
theorem je {v:Option Operand} {d:Int} {K:Int->Prop} (hρ: ∀x v,ρ x=some v->e x=v) (h:qe v ρ d K):
  ∃n,((v.map e=none /\ n=d) \/ ∃k,v.map e=some (.int k n)) /\ K n:=by
 unfold qe at h
 split at h
 ·exact⟨d,.inl ⟨rfl,rfl⟩,h⟩
 ·rename_i x
  split at h
  ·rename_i k n hx
   exact⟨n,.inr ⟨k,by simp [hρ _ _ hx]⟩,h⟩
  ·exact h.elim
theorem jx {b:Bool} {len cap:Nat} {lo hi mx:Option Value} {l h m:Int}
  (hm:(mx=none /\ m=cap) \/ ∃k,mx=some (.int k m)) (hh:(hi=none /\ h=len) \/ ∃k,hi=some (.int k h)) (hl:(lo=none /\ l=0) \/ ∃k,lo=some (.int k l))
  (hc:mx.isSome=true->hi.isSome=true) (h1:0<=l) (h2:l<=h) (h3:h<=m) (h4:m<=cap):
  (Instr.sliceBounds b len cap lo hi mx).run P w=.ok (l.toNat,h.toNat,m.toNat) w:=by
 have em:((m.toNat:Nat):Int)=m:=by omega
 have eh:((h.toNat:Nat):Int)=h:=by omega
 rcases hm with ⟨rfl,rfl⟩ | ⟨km,rfl⟩ <;> rcases hh with ⟨rfl,rfl⟩ | ⟨kh,rfl⟩ <;> rcases hl with ⟨rfl,rfl⟩ | ⟨kl,rfl⟩ <;>
  first
  | (simp at hc;done)
  | (simp [Instr.sliceBounds,Instr.sliceBound,asIntOf,em,eh,h1,h2,h3,h4,Int.le_trans h1 h2,Int.le_trans (Int.le_trans h1 h2) h3];done)
theorem isSome_map {α β:Type} (o:Option α) (f:α->β):(o.map f).isSome=o.isSome:=by cases o <;> rfl
theorem pn {F F':Nat->Option (Nat×Nat)} (hF: ∀i x,F i=some x->F' i=some x): ∀{parts:List (Nat×Value)} {c cs:Array Value},
  Instr.fill F c parts=some cs->Instr.fill F' c parts=some cs
 | [],c,cs,h=>h
 | (i,v) :: rest,c,cs,h=>by
  simp only [Instr.fill] at h ⊢
  cases hi:F i with
  | none=>simp [hi] at h
  | some x=>
   obtain⟨off,size⟩:=x;simp only [hi] at h;simp only [hF i _ hi]
   split
   ·rename_i hc;rw [if_pos hc] at h;cases h
   ·rename_i hc;rw [if_neg hc] at h;exact pn hF h
theorem z9 {src dst:TypeId} {w:World} {s:Sl} {b:ByteArray} (hb:jd P src dst=true) (h:pe w s b):
  (convert src dst (.slice s.a s.len s.cap)).run P w=.ok (.string b) w:=by
 unfold jd at hb
 split at hb
 ·rename_i e hs hd
  split at hb
  ·rename_i he
   rw [run_convert_bytes_string w src dst e _ _ _ hs he hd];obtain⟨hl,⟨ha,h0⟩ | ⟨a,ha,hc⟩⟩:=h
   ·rw [ha];have:b=ByteArray.empty:=by
     rw [h0] at hl;apply ByteArray.ext;apply amw;rw [alL hl];rfl
    rw [this];simp [Conv.bytesToString]
   ·rw [ha];have e9:(loadCells a s.len).run P w=.ok ((b.data.toList.map fun x=>(x.toNat:Int)).map (Value.int .u8)).toArray w:=by
     have:=run_loadCells_list (P:=P) w a ((b.data.toList.map fun x=>(x.toNat:Int)).map (Value.int .u8)) (fun j v hj=>by
      rw [alc,alc] at hj
      cases hx:b.data.toList[j]? with
      | none=>rw [hx] at hj;cases hj
      | some y=>
       rw [hx] at hj;simp only [al8,ald] at hj;subst hj;exact hc j y hx)
     rw [alr,alr,hl] at this;exact this
    rw [run_bytesToString w a s.len s.cap _ e9,foldl_push_bytes];congr 2;apply ByteArray.ext;apply amw;simp [ByteArray.empty,ByteArray.emptyWithCapacity]
    conv=>rhs;rw [<-List.map_id b.data.toList]
    apply anN;intro y _;simp
  ·cases hb
 ·cases hb
theorem IB {op:Op} {v:Value} (h:cQ P op=false):sU P ρ op v= []:=by
 cases op <;> first | rfl | (simp [cQ] at h;done) | (simp only [cQ] at h;unfold sU;simp only [h])
theorem Rw (hρ: ∀x v,ρ x=some v->e x=v) (Ie: ∀c b x v,e (.tmp c)=.bool b->ρ' c b x=some v->e x=v)
  {op:Op} {ty:TypeId} {K:Value->Prop} (h:Wv P op ty ρ ρ' w K)
  (dst:Option Tmp) (pos:String) (after:Array Edge) (g:Option (Nat×Bool)):
  ∃v,(∀x∈sU P ρ op v,dY w x) /\ (∀w',(wl P op=true \/ (cQ P op=false /\ Ext w w') \/ (cQ P op=true /\ ∀x∈sU P ρ op v,dY w' x))->(execOp e ⟨dst,op,ty,pos,after,g⟩).run P w'=.ok (.value v) w') /\ K v:=by
 unfold Wv at h
 split at h
 ·rename_i x
  split at h
  ·rename_i p h1
   obtain⟨a,rfl,hK⟩:=ru h;exact⟨_,(fun _ hx=>(by cases hx)),fun w' he=>by simp [execOp,hρ _ _ h1],hK⟩
  ·rename_i f fs cs h1
   exact⟨_,(fun _ hx=>(by cases hx)),fun w' he=>by simp [execOp,hρ _ _ h1],h⟩
  ·exact h.elim
 ·rename_i s x f
  split at h
  ·rename_i off p h1 h2
   obtain⟨a,rfl,hK⟩:=ru h;unfold Bi at h1
   split at h1
   ·rename_i fs hu
    split at h1
    ·rename_i fd hf
     cases hz:Nat.beq (P.cellsOf fd.type) 0 with
     | true=>rw [hz] at h1;cases h1
     | false=>
      rw [hz] at h1;simp only [cond_false,ald] at h1;subst h1;obtain⟨i,hi,hs⟩:=wq (P:=P) (t:=fd.type) rfl (by intro h0;rw [h0] at hz;cases hz);have vq:i.size≠0:=by rw [hs];intro h0;rw [h0] at hz;cases hz
      exact⟨_,(fun _ hx=>(by cases hx)),fun w' he=>by simp [execOp,Instr.fieldAt,run_underlying hu,hf,hρ _ _ h2,Instr.sureAddr,fieldPlace,sizeOf,typeInfo,hi,vq],hK⟩
    ·cases h1
   ·cases h1
  ·exact h.elim
 ·rename_i t x
  split at h
  ·rename_i p h1
   obtain⟨a,rfl,hK⟩:=ru h;obtain⟨v,yD,hr,hv⟩:=Bk hK;refine⟨v,?_,fun w' he=>?_,hv⟩
   ·intro x hx;simp only [sU,h1,alu] at hx;obtain⟨y,hy,rfl⟩:=hx;exact yD y hy
   have iD: ∀x∈MO P t a v,w'.cell? x.1=some x.2:=by
    rcases he with he | ⟨he,_⟩ | ⟨_,he⟩
    ·cases he
    ·cases he
    ·intro x hx;exact he (.cell x.1 x.2) (by simp only [sU,h1,alu];exact⟨x,hx,rfl⟩)
   simp [execOp,Instr.loadAt,Instr.sureAddr,hρ _ _ h1,hr w' iD]
  ·exact h.elim
 ·rename_i t x ix
  split at h
  ·rename_i el s len cap k i hu h1 h2
   split at h
   ·rename_i inf hi
    obtain⟨h3,h4,h5⟩:=h;obtain⟨a,rfl,hK⟩:=ru h5;exact⟨_,(fun _ hx=>(by cases hx)),fun w' he=>by simp [execOp,Instr.indexAt,run_underlying hu,hρ _ _ h1,hρ _ _ h2,asIntOf,h3,h4,sizeOf,typeInfo,hi],hK⟩
   ·exact h.elim
  ·rename_i len el p k i hu h1 h2
   split at h
   ·rename_i inf hi
    obtain⟨a,rfl,h3,h4,hK⟩:=ru h;exact⟨_,(fun _ hx=>(by cases hx)),fun w' he=>by simp [execOp,Instr.indexAt,run_underlying hu,hρ _ _ h1,hρ _ _ h2,asIntOf,h3,h4,sizeOf,typeInfo,hi,Instr.sureAddr],hK⟩
   ·exact h.elim
  ·exact h.elim
 ·rename_i t x ix
  split at h
  ·rename_i s k i hu h1 h2
   obtain⟨h3,b,hb,hK⟩:=h;exact⟨_,(fun _ hx=>(by cases hx)),fun w' he=>by simp [execOp,Instr.index,run_underlying hu,hρ _ _ h1,hρ _ _ h2,asIntOf,h3,hb],hK⟩
  ·exact h.elim
 ·rename_i t x lo hi mx
  split at h
  ·rename_i el a len cap hu h1
   split at h
   ·rename_i inf iE
    cases hb:(mx.isSome && hi.isNone) with
    | true=>rw [hb] at h;exact h.elim
    | false=>
     rw [hb] at h;simp only [cond_false] at h;obtain⟨m,a1,ha⟩:=je hρ h;obtain⟨h',a2,j7⟩:=je hρ ha;obtain⟨l,a3,c1,c2,c3,c4,hK⟩:=je hρ j7;simp only at c4;have Mn:=fun w'=>jx (P:=P) (w:=w') (b:=true) a1 a2 a3 (by
      rw [isSome_map,isSome_map];intro hm;rw [hm] at hb;cases hi <;> simp_all) c1 c2 c3 c4
     refine⟨_,(fun _ hx=>(by cases hx)),fun w' he=>?_,hK⟩;simp only [execOp,Instr.sliceAt,Instr.slice,Sem.run_bind,run_underlying hu,Result.andThen_ok,hρ _ _ h1,Mn,sizeOf,typeInfo,run_program,iE,Sem.run_pure]
   ·exact h.elim
  ·rename_i n el p hu h1
   split at h
   ·rename_i inf iE
    cases hb:(mx.isSome && hi.isNone) with
    | true=>rw [hb] at h;exact h.elim
    | false=>
     rw [hb] at h;simp only [cond_false] at h;obtain⟨a,rfl,hn⟩:=ru h;obtain⟨m,a1,ha⟩:=je hρ hn;obtain⟨h',a2,j7⟩:=je hρ ha;obtain⟨l,a3,c1,c2,c3,c4,hK⟩:=je hρ j7;have Mn:=fun w'=>jx (P:=P) (w:=w') (b:=false) a1 a2 a3 (by
      rw [isSome_map,isSome_map];intro hm;rw [hm] at hb;cases hi <;> simp_all) c1 c2 c3 c4
     refine⟨_,(fun _ hx=>(by cases hx)),fun w' he=>?_,hK⟩;simp only [execOp,Instr.sliceAt,Sem.run_bind,run_underlying hu,Result.andThen_ok,hρ _ _ h1,Instr.sureAddr,Mn,sizeOf,typeInfo,run_program,iE,Sem.run_pure]
   ·exact h.elim
  ·rename_i s hu h1
   cases hb:mx.isSome with
   | true=>rw [hb] at h;exact h.elim
   | false=>
    rw [hb] at h;simp only [cond_false] at h;obtain rfl:mx=none:=by simpa using hb
    obtain⟨h',a2,j7⟩:=je hρ h;obtain⟨l,a3,c1,c2,c3,hK⟩:=je hρ j7;have Mn:=fun w'=>jx (P:=P) (w:=w') (b:=false) (mx:=none) (m:=s.size) (.inl ⟨rfl,rfl⟩) a2 a3 (by simp) c1 c2 c3 (al4 _);refine⟨_,(fun _ hx=>(by cases hx)),fun w' he=>?_,hK⟩;simp [execOp,Instr.sliceAt,Instr.slice,run_underlying hu,hρ _ _ h1,Mn]
  ·exact h.elim
 ·rename_i o t x y VN
  split at h
  ·rename_i a b h1 h2
   have e1:=hρ _ _ h1;have e2:=hρ _ _ h2;have fin: ∀v w',(cH o t x y a b).run P w'=.ok v w'->(execOp e ⟨dst,.binOp o t x y VN,ty,pos,after,g⟩).run P w'=.ok (.value v) w':=by
    intro v w' hr;unfold cH at hr;simp only [execOp,e1,e2];rw [Sem.run_bind,hr];rfl
   have ext:lN P t=false-> ∀w',(wl P (.binOp o t x y VN)=true \/ (cQ P (.binOp o t x y VN)=false /\ Ext w w') \/ (cQ P (.binOp o t x y VN)=true /\ ∀z∈sU P ρ (.binOp o t x y VN) (.bool true),dY w' z))->Ext w w':=by
    intro hp w' he
    rcases he with he | ⟨_,he⟩ | ⟨he,_⟩
    ·simp [wl,hp] at he
    ·exact he
    ·cases he
   cases hb:wo P t with
   | true=>
    rw [hb] at h;obtain⟨r,hr,hK⟩:=h;have hp:lN P t=false:=by
     unfold wo at hb;unfold lN
     split at hb <;> simp_all
    exact⟨_,(fun _ hx=>(by cases hx)),fun w' he=>fin _ w' (hr w' (ext hp w' he)),hK⟩
   | false=>
    rw [hb] at h;simp only [cond_false] at h
    split at h
    ·rename_i v hv
     exact⟨v,(fun _ hx=>(by cases hx)),fun w' _=>fin v w' (wm hv),h⟩
    ·cases hp:lN P t with
     | true=>
      rw [hp] at h;obtain⟨v,hr,hK⟩:=IA (P:=P) (t:=t) (x:=x) (y:=y) h;exact⟨v,(fun _ hx=>(by cases hx)),fun w' _=>fin v w' (hr w'),hK⟩
     | false=>
      rw [hp] at h;obtain⟨r,hr,hK⟩:=h;exact⟨_,(fun _ hx=>(by cases hx)),fun w' he=>fin _ w' (hr w' (ext hp w' he)),hK⟩
  ·exact h.elim
 ·rename_i t parts
  have hz: ∀(lz:List (Nat×Nat×TypeId)) (vs:List Value) (z:Value) (F:Nat->Option (Nat×Nat)),sT ρ (parts.toList.map (·.2))=some vs->
    (∀i,F i=(lz[i]?).map fun x=>(x.1,x.2.1))->
    ur P lz z.cells.toList ((parts.toList.map (·.1)).zip vs) (fun cs=>K (.agg cs.toArray))->
    ∃cs:Array Value,Instr.fill F z.cells (parts.map fun(i,x)=>(i,e x)).toList=some cs /\ K (.agg cs):=by
   intro lz vs z F hm hF hd;obtain⟨cs,hc,hK⟩:=rp hd;refine⟨cs,?_,by simpa using hK⟩;have e1:=k8 hρ hm;have:(parts.map fun(i,x)=>(i,e x)).toList=(parts.toList.map (·.1)).zip vs:=by
    rw [<-e1];simp only [anX,amJ];generalize parts.toList=ps
    induction ps with
    | nil=>rfl
    | cons p ps ih=>simp [ih]
   rw [this,<-hc];congr 1
   funext i
   exact hF i
  split at h
  ·rename_i fs inf vs hu hi hm
   split at h
   ·rename_i z hzz
    cases hb:(fs.toList.all fun f=>(P.info? f.type).isSome) with
    | false=>rw [hb] at h;exact h.elim
    | true=>
     rw [hb] at h;simp only [cond_true] at h;have bz: ∀f∈fs.toList,∃i,P.info? f.type=some i:=fun f hf=>amv.1 (ame.1 hb f hf);have abg: ∀w,(fs.mapM fun f=>(do pure (f.offset,<-sizeOf f.type):Sem (Nat×Nat))).run P w=.ok (fs.map fun f=>(f.offset,P.cellsOf f.type)) w:=by
      intro w;have key: ∀(l:List Field),(∀f∈l,∃i,P.info? f.type=some i)->
        (l.mapM fun f=>(do pure (f.offset,<-sizeOf f.type):Sem (Nat×Nat))).run P w=.ok (l.map fun f=>(f.offset,P.cellsOf f.type)) w:=by
       intro l
       induction l with
       | nil=>intro _;simp
       | cons f l ih=>
        intro dQ;obtain⟨i,hY⟩:=dQ f (by simp);have Rx:=ih (fun f' Dt=>dQ f' (by simp [Dt]));have hs:(sizeOf f.type).run P w=.ok i.size w:=by simp [sizeOf,typeInfo,hY]
        simp only [List.mapM_cons,Sem.run_bind,hs,Result.andThen_ok,Sem.run_pure,Rx,alR,qA hY]
      rw [Array.mapM_eq_mapM_toList,Sem.run_map,key _ bz];simp only [Result.andThen_ok];congr 1;apply amw;simp
     obtain⟨cs,hc,hK⟩:=hz _ vs z (fun i=>(fs.map fun f=>(f.offset,P.cellsOf f.type))[i]?) hm (fun i=>by simp;cases fs[i]? <;> rfl) h;refine⟨_,(fun _ hx=>(by cases hx)),fun w' he=>?_,hK⟩;simp only [execOp,Instr.build,Sem.run_bind,zeroValue,typeInfo,run_program,Result.andThen_ok,hi,Sem.run_pure,hzz,run_underlying hu,abg,hc]
   ·exact h.elim
  ·rename_i n el inf vs hu hi hm
   split at h
   ·rename_i z hzz
    cases hb:(P.info? el).isNone with
    | true=>rw [hb] at h;exact h.elim
    | false=>
     rw [hb] at h;simp only [cond_false] at h;obtain⟨ie,hie⟩: ∃i,P.info? el=some i:=by
      cases he:P.info? el with
      | none=>simp [he] at hb
      | some i=>exact⟨i,rfl⟩
     obtain⟨cs,hc,hK⟩:=hz _ vs z _ hm (fun i=>rfl) h;have Ry:=pn (F':=fun i=>some (i*ie.size,ie.size)) (by
      intro i x hx;simp only [alH] at hx;obtain⟨y,hy,rfl⟩:=hx;simp only [alc,alH] at hy;obtain⟨j,hj,rfl⟩:=hy;have:=ak6.1 hj;obtain⟨av,eA⟩:=this;simp only [List.getElem_range] at eA;subst eA;simp [qA hie]) hc
     refine⟨_,(fun _ hx=>(by cases hx)),fun w' he=>?_,hK⟩;simp only [execOp,Instr.build,Sem.run_bind,zeroValue,typeInfo,run_program,Result.andThen_ok,hi,Sem.run_pure,hzz,run_underlying hu,sizeOf,hie,Ry]
   ·exact h.elim
  ·exact h.elim
 ·rename_i t x ix ok
  split at h
  ·rename_i m k h1 h2
   obtain⟨v,hr,hv⟩:=h;obtain⟨cs,hK,he⟩:=di hv;rw [he] at hK;refine⟨v,(fun _ hx=>(by cases hx)),fun w' he=>?_,hK⟩;have iD:Ext w w':=by
    rcases he with he | ⟨_,he⟩ | ⟨he,_⟩
    ·cases he
    ·exact he
    ·cases he
   simp [execOp,hρ _ _ h1,hρ _ _ h2,hr w' iD]
  ·exact h.elim
 ·rename_i x xt De ok
  split at h
  ·rename_i v0 h1
   obtain⟨v,hr,hv⟩:=h;obtain⟨cs,hK,he⟩:=di hv;rw [he] at hK;refine⟨v,(fun _ hx=>(by cases hx)),fun w' he=>?_,hK⟩;have iD:Ext w w':=by
    rcases he with he | ⟨_,he⟩ | ⟨he,_⟩
    ·cases he
    ·exact he
    ·cases he
   simp [execOp,hρ _ _ h1,hr w' iD]
  ·exact h.elim
 ·rename_i c
  cases hb:z8 P c with
  | true=>
   rw [hb] at h;simp only [cond_true] at h
   split at h
   ·rename_i vs hm
    obtain⟨n,hr,hK⟩:=h;have e1:=k8 hρ hm;have a1:c.args.map e=vs.toArray:=amw (by simp [e1]);refine⟨_,(fun _ hx=>(by cases hx)),fun w' he=>?_,hK⟩;have iD:Ext w w':=by
     rcases he with he | ⟨_,he⟩ | ⟨he,_⟩
     ·simp [wl,hb] at he
     ·exact he
     ·cases he
    obtain⟨callee,args,argTypes⟩:=c;unfold z8 at hb;simp only at hb a1 hr
    split at hb
    ·simp only [execOp,Go.resolve,invoke,builtin,a1,Sem.run_bind,Sem.run_pure,Result.andThen_ok,hr w' iD,Kd.inj]
    ·cases hb
   ·exact h.elim
  | false=>
   rw [hb] at h;simp only [cond_false] at h
   split at h
   ·rename_i v hv
    exact⟨v,(fun _ hx=>(by cases hx)),fun w' _=>mN hρ Ie hv dst pos after g,h⟩
   ·exact h.elim
 ·rename_i src dt x
  cases hb:jd P src dt with
  | true=>
   rw [hb] at h;simp only at h
   split at h
   ·rename_i a len cap h1
    obtain⟨b,hB,hK⟩:=h;refine⟨.string b,?_,fun w' he=>?_,hK⟩
    ·intro y hy;simp only [sU,hb,h1,ali] at hy;subst hy;exact hB
    ·have yE:pe w' ⟨a,len,cap⟩ b:=by
      rcases he with he | ⟨he,_⟩ | ⟨_,he⟩
      ·simp [wl,hb] at he
      ·simp [cQ,hb] at he
      ·exact he (.bytes ⟨a,len,cap⟩ b) (by simp [sU,hb,h1])
     have hr:=z9 hb yE;simp [execOp,hρ _ _ h1,hr]
   ·exact h.elim
  | false=>
   rw [hb] at h;simp only at h
   split at h
   ·rename_i v hv
    exact⟨v,(fun y hy=>(by simp [sU,hb] at hy)),fun w' _=>mN hρ Ie hv dst pos after g,h⟩
   ·exact h.elim
 ·split at h
  ·rename_i v hv
   exact⟨v,(fun x hx=>(by rw [IB (by cases op <;> first | rfl | (exfalso;simp_all))] at hx;cases hx)),fun w' _=>mN hρ Ie hv dst pos after g,h⟩
  ·exact h.elim
end
structure A6 (P:Program):Prop where
 mixed:P.follows .mixedOrders=true
 names : (P.funcs.toList.all fun f => f.name != "runtime.NumGoroutine") = true
def n8 (z:List Value):Nat->List Value
 | 0=> []
 | n+1=>z++n8 z n
def Mk (z:List Value) (el:TypeId) (bytes:Nat) (l c:Int) (w:World) (K:Sl->World->Prop):Prop:=
 0<=l /\ l<=c /\ c<=281474976710656 /\ bytes*c<=281474976710656 /\
  Nw (.cells (n8 z c.toNat).toArray el) w fun a w'=>K ⟨some a,l.toNat,c.toNat⟩ w'
def IC (P:Program) (v:Value) (args:List Value) (nS:List Sh) (w:World) (R:Fn (nD nS) (World->Prop)):Prop:=
 ∃f first captured,v=.func (.func f) first captured /\ (∃fn,P.funcs[f]? =some fn /\ fn.body.isSome=true) /\ ax P f (first.toList++args++captured.toList) nS w R
def Ww (P:Program) (v:Value) (ty:TypeId) (w:World) (K0:World->Prop) (K1:Value->Value->World->Prop):Prop:=
 ∃u w',(Instr.next v false ty).run P w=.ok u w' /\ ((u=.tuple #[.bool false] /\ K0 w') \/ ∃k x,u=.tuple #[.bool true,k,x] /\ K1 k x w')
def Wx (P:Program) (v:Value) (w:World) (K:Value->Value->World->Prop):Prop:=
 ∃k x,(Instr.entry v).run P w=.ok (.tuple #[k,x]) w /\ K k x w
def Bl (P:Program) (f:FuncId) (args:List Value) (nS:List Sh) (w:World) (R:Fn (nD nS) (World->Prop)):Prop:=
 ∃v w',(callFunc f args.toArray).run P w=.ok (.value v) w' /\ dx nS v R w'
def Rz (P:Program) (op:Op) (ty:TypeId) (ρ:Operand->Option Value) (w:World) (K:Value->World->Prop):Prop:=
 match op with
 | .alloc el=>
  match P.info? el with
  | some i=>match i.zero with
   | some z=>Nw (.cells z.cells el) w fun a w'=>K (.pointer (some a)) w'
   | none=>False
  | none=>False
 | .box el x=>
  match ρ x with
  | some v=>sS P el v fun cs=>Nw (.cells cs.toArray el) w fun a w'=>K (.pointer (some a)) w'
  | none=>False
 | .buildSlice t len parts=>
  match P.underlying t,sT ρ (parts.toList.map (·.2)) with
  | some (.slice el),some vs=>match P.info? el with
   | some inf=>match inf.zero with
    | some z=>cond (Nat.beq len 0) (match parts.toList with
      | []=>Nw (.cells #[] el) w fun a w'=>K (.slice (some a) 0 0) w'
      | _=>False) <| cond (Nat.ble (len*inf.size) 1000000 && Nat.beq z.cells.size inf.size && !Nat.beq (len*inf.size) 0)
      (ur P ((List.range len).map fun i=>(i*inf.size,inf.size,el)) (n8 z.cells.toList len) ((parts.toList.map (·.1)).zip vs) fun cs=>
       Nw (.cells cs.toArray el) w fun a w'=>K (.slice (some a) len len) w') False
    | none=>False
   | none=>False
  | _,_=>False
 | .store t x y=>
  match ρ x,ρ y with
  | some (.pointer p),some v=>NN p fun a=>sS P t v fun cs=>cond (Nat.beq cs.length (P.cellsOf t) && !Nat.beq (P.cellsOf t) 0) (StL a cs 0 w fun w'=>K undef w') False
  | _,_=>False
 | .makeSlice t x y=>
  match P.underlying t,ρ x,ρ y with
  | some (.slice el),some (.int _ l),some (.int _ c)=>match P.info? el with
   | some inf=>match inf.zero with
    | some z=>cond (Nat.beq z.cells.size inf.size && !Nat.beq inf.size 0)
      (Mk z.cells.toList el inf.bytes l c w fun s w'=>K (.slice s.a s.len s.cap) w') False
    | none=>False
   | none=>False
  | _,_,_=>False
 | .makeMap t r=>
  match r with
  | none=>Nw (.map #[] 0) w fun a w'=>K (.map (some a.block)) w'
  | some x=>match P.underlying t,ρ x with
   | some (.map _ _),some (.int _ _)=>Nw (.map #[] 0) w fun a w'=>K (.map (some a.block)) w'
   | _,_=>False
 | .mapUpdate t m k x=>
  match ρ m,ρ k,ρ x with
  | some m,some k,some x=>rm P (Instr.mapUpdate t m k x) w fun w'=>K undef w'
  | _,_,_=>False
 | .insert t m k x=>
  match ρ m,ρ k,ρ x with
  | some m,some k,some x=>rm P (Instr.mapUpdate t m k x) w fun w'=>K undef w'
  | _,_,_=>False
 | .range t x=>
  match ρ x with
  | some v=>cA .p P (Instr.range t v) w fun p w'=>K (.pointer p) w'
  | none=>False
 | .next it isStr=>
  match ρ it with
  | some v=>cond isStr (abd (gZ P ty) P (Instr.next v isStr ty) w (curry _ fun cs w'=>K (jG (iJ (gZ P ty) cs)) w'))
    (Ww P v ty w (fun w'=>K (.tuple #[.bool false]) w') fun k x w'=>K (.tuple #[.bool true,k,x]) w')
  | none=>False
 | .entry it=>
  match ρ it with
  | some v=>Wx P v w fun k x w'=>K (.tuple #[k,x]) w'
  | none=>False
 | .convert src dst x=>
  match P.underlying dst,ρ x with
  | some d,some v=>cA (mK d) P (convert src dst v) w fun r w'=>K ((mK d).inj r) w'
  | _,_=>False
 | .call c=>
  match sT ρ c.args.toList with
  | none=>False
  | some vs=>
   match c.callee with
   | .value (.func f)=>match P.funcs[f]? with
    | some fn=>cond fn.body.isSome
      (ax P f vs (fn.resultTypes.toList.map (shapeOf P)) w (curry _ fun cs w'=>K (jG (iJ (fn.resultTypes.toList.map (shapeOf P)) cs)) w'))
      (Bl P f vs (fn.resultTypes.toList.map (shapeOf P)) w (curry _ fun cs w'=>K (jG (iJ (fn.resultTypes.toList.map (shapeOf P)) cs)) w'))
    | none=>False
   | .value x=>match ρ x with
    | some v=>IC P v vs (gZ P ty) w (curry _ fun cs w'=>K (jG (iJ (gZ P ty) cs)) w')
    | none=>False
   | .builtin .append=>cA .sl P (Builtin.append_ c.argTypes ty vs.toArray) w fun s w'=>K (.slice s.a s.len s.cap) w'
   | .builtin .copy=>cA (.i .i64) P (Builtin.copy_ c.argTypes ty vs.toArray) w fun n w'=>K (.int .i64 n) w'
   | .builtin .delete=>cA .v P (Builtin.delete_ c.argTypes ty vs.toArray) w fun v w'=>K v w'
   | .builtin .clear=>cA .v P (Builtin.clear_ c.argTypes ty vs.toArray) w fun v w'=>K v w'
   | _=>False
 | _=>False
def eD:Op->Bool
 | .alloc _ | .box _ _ | .buildSlice _ _ _ | .makeSlice _ _ _ | .makeMap _ _=>true
 | _=>false
section
variable {P:Program} {a:Act} {ρ:Operand->Option Value} {w:World} {Q:Exit->Act->World->Prop}
theorem ry {f:FuncId} {fn:Func} {args:Array Value} (hP:A6 P) (hf:P.funcs[f]? =some fn) (hb:fn.body.isSome=true):
  (callFunc f args).run P w=.ok (.enter f args) w:=by
 have hn : fn.name ≠ "runtime.NumGoroutine" := by
  have:=ame.1 hP.names fn (by
   obtain⟨h1,h2⟩:=als.1 hf;rw [<-h2];simp)
  simpa using this
 obtain⟨c,hc⟩:=amv.1 hb;simp [callFunc,hf,hn,hc]
theorem rz {z:List Value}: ∀(n i:Nat),i < n*z.length->(n8 z n)[i]? =z[i % z.length]?
 | 0,i,h=>by simp at h
 | n+1,i,h=>by
  simp only [n8];rw [anb,anS] at h;by_cases hi:i < z.length
  ·rw [ak9 hi,Nat.mod_eq_of_lt hi]
  ·rw [ak8 (by omega),rz n (i - z.length) (by omega)];congr 1;have:i=(i - z.length)+z.length:=by omega
   conv=>rhs;rw [this]
   simp
theorem uu {z:List Value}: ∀n,(n8 z n).length=n*z.length
 | 0=>by simp [n8]
 | n+1=>by simp [n8,uu n,anb];omega
theorem Aa {z:Array Value} (n:Nat):(Array.range (n*z.size)).map (fun i=>z[i % z.size]!)=(n8 z.toList n).toArray:=by
 apply amw;apply alM;intro i;simp only [anX,Array.toList_range,alc];by_cases hi:i < n*z.size
 ·rw [amC hi,rz n i (by simpa using hi)];have hz:0 < z.size:=by
   rcases amL z.size with h | h
   ·rw [h] at hi;simp at hi
   ·exact h
  have hm:=Nat.mod_lt i hz;simp [hm]
 ·have h1:(List.range (n*z.size))[i]? =none:=by simp;omega
  have h2:(n8 z.toList n)[i]? =none:=by simp [uu];omega
  rw [h1];simp [h2]
theorem run_makeSlice {t el:TypeId} {inf:TypeInfo} {z:Value} {k k':IntKind} {l c:Int} (hu:P.underlying t=some (.slice el)) (hi:P.info? el=some inf) (hz:inf.zero=some z)
  (hs:z.cells.size=inf.size) (q9:inf.size≠0) (h1:0<=l) (h2:l<=c) (h3:c<=281474976710656) (h4:inf.bytes*c<=281474976710656):
  (Instr.makeSlice t (.int k l) (.int k' c)).run P w=.ok (.slice (some ⟨w.heap.size,0,none⟩) l.toNat c.toNat) (w.alloc (.cells (n8 z.cells.toList c.toNat).toArray el)):=by
 have w1:i64.wrap l=l:=by simp only [IntKind.wrap,IntKind.bits,IntKind.signed,amI,decide_eq_true_eq,ge_iff_le];split <;> omega
 have w2:i64.wrap c=c:=by simp only [IntKind.wrap,IntKind.bits,IntKind.signed,amI,decide_eq_true_eq,ge_iff_le];split <;> omega
 have e9:=Aa (z:=z.cells) c.toNat;rw [hs] at e9;have e48:(2:Int) ^ 48=281474976710656:=by decide
 simp only [Instr.makeSlice,Sem.run_bind,run_underlying hu,Result.andThen_ok,asInt,asIntOf,Sem.run_pure,typeInfo,run_program,hi,w1,w2,e48];have hA:(c < 0 || decide (inf.bytes*c > 281474976710656))=false:=by simp;omega
 have hB:decide (l < 0)=false:=by simp;omega
 have hC:decide (l > c)=false:=by simp;omega
 simp only [hA,hB,hC,Bool.or_self,amk,if_false,Sem.run_bind,run_askRoom,Result.andThen_ok,sizeOf,typeInfo,run_program,hi,Sem.run_pure];by_cases hc:c.toNat*inf.size=0
 ·have Du:c.toNat=0:=by
   rcases Nat.mul_eq_zero.1 hc with h | h
   ·exact h
   ·exact absurd h q9
  have e0:Array.range 0=#[]:=rfl;simp [hc,Du,newRow,n8,e0]
 ·simp only [if_neg hc,Sem.run_bind,zeroValue,typeInfo,run_program,Result.andThen_ok,hi,Sem.run_pure,hz,newRow,run_newObj];simp only [hs,e9,World.alloc_eq]
theorem MP (hP:A6 P) (hρ: ∀x v,ρ x=some v->a.eval x=v) {op:Op} {ty:TypeId} {K:Value->World->Prop} (h:Rz P op ty ρ w K)
  (dst:Option Tmp) (pos:String) (after:Array Edge) (g:Option (Nat×Bool)):
  (⟨dst,op,ty,pos,after,g⟩:Oper).wp P a w (fun a' w'=> ∃v,a'=a.put dst v /\ K v w' /\ (eD op=true->Ext w w')) Q:=by
 have val: ∀{v w'},(execOp a.eval ⟨dst,op,ty,pos,after,g⟩).run P w=.ok (.value v) w'->(eD op=true->Ext w w')->K v w'->
   (⟨dst,op,ty,pos,after,g⟩:Oper).wp P a w (fun a' w'=> ∃v,a'=a.put dst v /\ K v w' /\ (eD op=true->Ext w w')) Q:=by
  intro v w' hr hx hK;unfold Oper.wp;rw [hr];exact⟨v,rfl,hK,hx⟩
 have skp: ∀{w'},(execOp a.eval ⟨dst,op,ty,pos,after,g⟩).run P w=.ok .skip w'->(eD op=true->Ext w w')->K undef w'->
   (⟨dst,op,ty,pos,after,g⟩:Oper).wp P a w (fun a' w'=> ∃v,a'=a.put dst v /\ K v w' /\ (eD op=true->Ext w w')) Q:=by
  intro w' hr hx hK;unfold Oper.wp;rw [hr];exact⟨undef,rfl,hK,hx⟩
 unfold Rz at h
 split at h
 ·rename_i el
  split at h
  ·rename_i i hi
   split at h
   ·rename_i z hz
    refine val (v:=.pointer (some ⟨w.heap.size,0,none⟩)) (w':=w.alloc (.cells z.cells el)) ?_ (fun _=>Ext.alloc _ _) h;simp [execOp,Instr.alloc,zeroValue,typeInfo,hi,hz,newVar,newRow]
   ·exact h.elim
  ·exact h.elim
 ·rename_i el x
  split at h
  ·rename_i v hv
   have h1:=pg h;refine val (v:=.pointer (some ⟨w.heap.size,0,none⟩)) (w':=w.alloc (.cells v.cells.toList.toArray el)) ?_ (fun _=>Ext.alloc _ _) h1;simp [execOp,Instr.box,newVar,newRow,hρ _ _ hv]
  ·exact h.elim
 ·rename_i t len parts
  split at h
  ·rename_i el vs hu hm
   split at h
   ·rename_i inf hi
    split at h
    ·rename_i z hz
     cases vr:Nat.beq len 0 with
     | true=>
      rw [vr] at h;simp only [cond_true] at h;obtain rfl:=alB vr
      split at h
      ·rename_i hp
       have uv:parts=#[]:=amw (by simpa using hp);subst uv;refine val (v:=.slice (some ⟨w.heap.size,0,none⟩) 0 0) (w':=w.alloc (.cells #[] el)) ?_ (fun _=>Ext.alloc _ _) h;have e0:Array.range 0=#[]:=rfl;simp [execOp,Instr.buildSlice,run_underlying hu,sizeOf,typeInfo,hi,Instr.fill,newRow,e0]
      ·exact h.elim
     | false=>
     rw [vr] at h;simp only [cond_false] at h
     cases hb:(Nat.ble (len*inf.size) 1000000 && Nat.beq z.cells.size inf.size && !Nat.beq (len*inf.size) 0) with
     | false=>rw [hb] at h;exact h.elim
     | true=>
      rw [hb] at h;simp only [cond_true] at h;simp only [alD,alS] at hb;obtain⟨⟨n9,gO⟩,rA⟩:=hb;have hle:len*inf.size<=1000000:=ang n9;have dL:z.cells.size=inf.size:=alB gO;have hnz:len*inf.size≠0:=by intro h0;rw [h0] at rA;cases rA
      obtain⟨cs,hc,hK⟩:=rp h;have Ry:=pn (F':=fun i=>some (i*inf.size,inf.size)) (by
       intro i x hx;simp only [alH] at hx;obtain⟨y,hy,rfl⟩:=hx;simp only [alc,alH] at hy;obtain⟨j,hj,rfl⟩:=hy;obtain⟨av,eA⟩:=ak6.1 hj;simp only [List.getElem_range] at eA;subst eA;rfl) hc
      have e1:=k8 hρ hm;have oc:(parts.map fun(i,x)=>(i,a.eval x)).toList=(parts.toList.map (·.1)).zip vs:=by
       rw [<-e1];simp only [anX,amJ];generalize parts.toList=ps
       induction ps with
       | nil=>rfl
       | cons p ps ih=>simp [ih]
      have e9:=Aa (z:=z.cells) len;rw [dL] at e9;refine val (v:=.slice (some ⟨w.heap.size,0,none⟩) len len) (w':=w.alloc (.cells cs.toList.toArray el)) ?_ (fun _=>Ext.alloc _ _) hK;have h24: ¬(len*inf.size > 2 ^ 24):=by
       have:(2:Nat) ^ 24=16777216:=by decide
       omega
      simp only [execOp,Instr.buildSlice,Sem.run_bind,run_underlying hu,Result.andThen_ok,sizeOf,typeInfo,run_program,hi,Sem.run_pure,if_neg h24,if_neg hnz,zeroValue,hz,dL,e9,oc,Ry,newRow,
       run_newObj,World.alloc_eq,Array.toArray_toList]
    ·exact h.elim
   ·exact h.elim
  ·exact h.elim
 ·rename_i t x y
  split at h
  ·rename_i p v h1 h2
   obtain⟨ad,rfl,h3⟩:=ru h;have h4:=pg h3
   cases hb:(Nat.beq v.cells.toList.length (P.cellsOf t) && !Nat.beq (P.cellsOf t) 0) with
   | false=>rw [hb] at h4;exact h4.elim
   | true=>
    rw [hb] at h4;simp only [alD,alS] at hb;obtain⟨w',hr,hK⟩:=Iy (P:=P) h4;have hn:v.cells.size=P.cellsOf t:=by simpa using alB hb.1
    obtain⟨i,hi,sW⟩:=wq (P:=P) (t:=t) rfl (by intro h0;rw [h0] at hb;exact absurd hb.2 (by decide));refine skp (w':=w') ?_ (fun h=>by cases h) hK;have:v.cells.size=i.size:=by rw [hn,sW]
    simp [execOp,Instr.storeAt,Instr.sureAddr,hρ _ _ h1,hρ _ _ h2,storeVar,sizeOf,typeInfo,hi,this,hr]
  ·exact h.elim
 ·rename_i t x y
  split at h
  ·rename_i el k l k' c hu h1 h2
   split at h
   ·rename_i inf hi
    split at h
    ·rename_i z hz
     cases hb:(Nat.beq z.cells.size inf.size && !Nat.beq inf.size 0) with
     | false=>rw [hb] at h;exact h.elim
     | true=>
      rw [hb] at h;simp only [cond_true] at h;simp only [alD,alS] at hb;obtain⟨c1,c2,c3,c4,hK⟩:=h;refine val (v:=.slice (some ⟨w.heap.size,0,none⟩) l.toNat c.toNat) (w':=w.alloc (.cells (n8 z.cells.toList c.toNat).toArray el)) ?_ (fun _=>Ext.alloc _ _) hK;have:=run_makeSlice (P:=P) (w:=w) (k:=k) (k':=k') hu hi hz (alB hb.1) (by intro h0;rw [h0] at hb;exact absurd hb.2 (by decide)) c1 c2 c3 c4;simp [execOp,hρ _ _ h1,hρ _ _ h2,this]
    ·exact h.elim
   ·exact h.elim
  ·exact h.elim
 ·rename_i t r
  split at h
  ·refine val (v:=.map (some w.heap.size)) (w':=w.alloc (.map #[] 0)) ?_ (fun _=>Ext.alloc _ _) h;simp [execOp,Instr.makeMap]
  ·rename_i x
   split at h
   ·rename_i k el kk n hu h1
    refine val (v:=.map (some w.heap.size)) (w':=w.alloc (.map #[] 0)) ?_ (fun _=>Ext.alloc _ _) h;simp [execOp,Instr.makeMap,run_underlying hu,hρ _ _ h1,asInt,asIntOf]
   ·exact h.elim
 ·rename_i t m k x
  split at h
  ·rename_i m' k' x' h1 h2 h3
   obtain⟨w',hr,hK⟩:=h;exact skp (by simp [execOp,hρ _ _ h1,hρ _ _ h2,hρ _ _ h3,hr]) (fun h=>by cases h) hK
  ·exact h.elim
 ·rename_i t m k x
  split at h
  ·rename_i m' k' x' h1 h2 h3
   obtain⟨w',hr,hK⟩:=h;exact skp (by simp [execOp,hρ _ _ h1,hρ _ _ h2,hρ _ _ h3,hr]) (fun h=>by cases h) hK
  ·exact h.elim
 ·rename_i t x
  split at h
  ·rename_i v h1
   obtain⟨p,w',hr,hK⟩:=h;exact val (by simp only [execOp,hρ _ _ h1,Sem.run_bind,hr,Result.andThen_ok,Sem.run_pure,Kd.inj]) (fun h=>by cases h) hK
  ·exact h.elim
 ·rename_i it isStr
  split at h
  ·rename_i v0 h1
   cases isStr with
   | true=>
    obtain⟨v,w',hr,hv⟩:=h;obtain⟨cs,hK,he⟩:=di hv;rw [he] at hK;exact val (by simp [execOp,hρ _ _ h1,hr]) (fun h=>by cases h) hK
   | false=>
    obtain⟨v,w',hr,hv⟩:=h
    rcases hv with ⟨he,hK⟩ | ⟨k,x,he,hK⟩
    ·rw [<-he] at hK;exact val (by simp [execOp,hρ _ _ h1,hr]) (fun h=>by cases h) hK
    ·rw [<-he] at hK;exact val (by simp [execOp,hρ _ _ h1,hr]) (fun h=>by cases h) hK
  ·exact h.elim
 ·rename_i it
  split at h
  ·rename_i v0 h1
   obtain⟨k,x,hr,hK⟩:=h;exact val (by simp [execOp,hρ _ _ h1,hr]) (fun h=>by cases h) hK
  ·exact h.elim
 ·rename_i src abe x
  split at h
  ·rename_i d v hd h1
   obtain⟨r,w',hr,hK⟩:=h;exact val (by simp [execOp,hρ _ _ h1,hr]) (fun h=>by cases h) hK
  ·exact h.elim
 ·rename_i c
  split at h
  ·exact h.elim
  ·rename_i vs hm
   have e1:=k8 hρ hm;obtain⟨callee,args,argTypes⟩:=c;simp only at h hm e1;have a1:args.map a.eval=vs.toArray:=amw (by simp [e1])
   split at h
   ·rename_i f
    split at h
    ·rename_i fn hf
     cases hb:fn.body.isSome with
     | false=>
      rw [hb] at h;simp only [cond_false] at h;obtain⟨v,w',hr,hv⟩:=h;obtain⟨cs,hK,he⟩:=di hv;rw [he] at hK;exact val (by simp [execOp,Go.resolve,Act.eval,Deferred.ofValue,invoke,a1,hr]) (fun h=>by cases h) hK
     | true=>
      rw [hb] at h;simp only [cond_true] at h;unfold Oper.wp;have hr:(execOp a.eval ⟨dst,.call ⟨.value (.func f),args,argTypes⟩,ty,pos,after,g⟩).run P w=.ok (.enter f vs.toArray) w:=by
       simp [execOp,Go.resolve,Act.eval,Deferred.ofValue,invoke,a1,ry hP hf hb]
      rw [hr];refine Calls.mono h ?_;rintro e w' ⟨v,rfl,hv⟩;obtain⟨cs,hK,he⟩:=di hv;rw [he] at hK;exact⟨v,rfl,hK,fun h=>by cases h⟩
    ·exact h.elim
   ·rename_i x hx
    split at h
    ·rename_i v h1
     obtain⟨f,first,captured,rfl,⟨fn,hf,hb⟩,Wy⟩:=h;unfold Oper.wp;have hr:(execOp a.eval ⟨dst,.call ⟨.value x,args,argTypes⟩,ty,pos,after,g⟩).run P w=.ok (.enter f (first.toList++vs++captured.toList).toArray) w:=by
      have:=ry (w:=w) (args:=(first++vs.toArray++captured)) hP hf hb;have e2:(first.toList++vs++captured.toList).toArray=first++vs.toArray++captured:=amw (by simp);rw [e2];simp [execOp,Go.resolve,hρ _ _ h1,Deferred.ofValue,invoke,a1]
      simpa using this
     rw [hr];refine Calls.mono Wy ?_;rintro e w' ⟨v,rfl,hv⟩;obtain⟨cs,hK,he⟩:=di hv;rw [he] at hK;exact⟨v,rfl,hK,fun h=>by cases h⟩
    ·exact h.elim
   ·obtain⟨s,w',hr,hK⟩:=h;exact val (by simp only [execOp,Go.resolve,invoke,builtin,a1,Sem.run_bind,Sem.run_pure,Result.andThen_ok,hr,Kd.inj]) (fun h=>by cases h) hK
   ·obtain⟨s,w',hr,hK⟩:=h;exact val (by simp only [execOp,Go.resolve,invoke,builtin,a1,Sem.run_bind,Sem.run_pure,Result.andThen_ok,hr,Kd.inj]) (fun h=>by cases h) hK
   ·obtain⟨s,w',hr,hK⟩:=h;exact val (by simp only [execOp,Go.resolve,invoke,builtin,a1,Sem.run_bind,Sem.run_pure,Result.andThen_ok,hr,Kd.inj]) (fun h=>by cases h) hK
   ·obtain⟨s,w',hr,hK⟩:=h;exact val (by simp only [execOp,Go.resolve,invoke,builtin,a1,Sem.run_bind,Sem.run_pure,Result.andThen_ok,hr,Kd.inj]) (fun h=>by cases h) hK
   ·exact h.elim
 ·exact h.elim
end
end Go.Den
end

section
namespace Go.Den
def fP (fl:dV) (d:Nat):Bool:=fl.all fun x=> !(Nat.beq x.1 d) && x.2.1.all fun g=> !(Nat.beq g.1 d)
def wu (N:Nat) (fl:dV) (dst:Option Nat) (l:Env) (v:Value) (K:Env->Prop):Prop:=
 match dst with
 | none=>K l
 | some d=>cond (Nat.blt d N && fP fl d) (K ((d,some v) :: l)) False
abbrev dE:=List (Nat×z5)
structure It where
 o:Oper
 idx:Nat
 eZ:Option Nat
def j8 (it:It) (fp:List z5) (C:dE):dE:=
 match it.eZ with
 | none=>C
 | some _=>fp.map (fun x=>(it.idx,x))++C
def Bm (m:Nat) (w:World) (K:Prop):dE->Prop
 | []=>K
 | (k,h) :: r=>cond (Nat.testBit m k) (Bm m w K r) (dY w h /\ Bm m w K r)
def ID (it:It) (C:dE) (w:World) (K:Prop):Prop:=
 match it.eZ with
 | none=>K
 | some m=>cond (eD it.o.op) K (Bm m w K C)
def oe (it:It) (C:dE):dE:=
 match it.eZ with
 | none=>C
 | some m=>C.filter fun x=> !Nat.testBit m x.1
def RA (P:Program) (op:Op) (ty:TypeId) (ρ:Operand->Option Value) (ρ':Nat->Bool->Operand->Option Value) (w:World) (K:Value->List z5->Prop):Prop:=
 match op with
 | .load t x=>match ρ x with
  | some (.pointer p)=>NN p fun a=>Bj P t w a fun v=>K v ((MO P t a v).map fun x=>.cell x.1 x.2)
  | _=>False
 | op=>Wv P op ty ρ ρ' w fun v=>K v (sU P ρ op v)
theorem MQ {P:Program} {e:Operand->Value} {ρ:Operand->Option Value} {ρ':Nat->Bool->Operand->Option Value} {w:World}
  (hρ: ∀x v,ρ x=some v->e x=v) (Ie: ∀c b x v,e (.tmp c)=.bool b->ρ' c b x=some v->e x=v)
  {op:Op} {ty:TypeId} {K:Value->List z5->Prop} (h:RA P op ty ρ ρ' w K)
  (dst:Option Tmp) (pos:String) (after:Array Edge) (g:Option (Nat×Bool)):
  ∃v fp,(cQ P op=false->fp= []) /\ (∀x∈fp,dY w x) /\ (∀w',(wl P op=true \/ (cQ P op=false /\ Ext w w') \/ (cQ P op=true /\ ∀x∈fp,dY w' x))->(execOp e ⟨dst,op,ty,pos,after,g⟩).run P w'=.ok (.value v) w') /\ K v fp:=by
 have key:Wv P op ty ρ ρ' w (fun v=>K v (sU P ρ op v)):=by
  unfold RA at h
  split at h
  ·rename_i t x
   split at h
   ·rename_i p h1
    obtain⟨a,rfl,hK⟩:=ru h;simp only [Wv,h1,NN,sU];exact hK
   ·exact h.elim
  ·exact h
 obtain⟨v,h1,h2,h3⟩:=Rw hρ Ie key dst pos after g;exact⟨v,_,fun hl=>IB hl,h1,h2,h3⟩
def tyK (P:Program) (o:Oper) (w:World) (v:Value) (K:Value->Prop):Prop:=
 match o.op with
 | .extract _ _=>dx [shapeOf P o.type] v (curry _ fun cs _=>K (jG (iJ [shapeOf P o.type] cs))) w
 | _=>K v
theorem RB {P:Program} {o:Oper} {w:World} {v:Value} {K:Value->Prop} (h:tyK P o w v K):K v:=by
 unfold tyK at h
 split at h
 ·obtain⟨cs,hK,he⟩:=di h;rw [he] at hK;exact hK
 ·exact h
def uw (P:Program) (N:Nat) (it:It) (l:Env) (fl:dV) (C:dE) (w:World) (K:Env->dE->World->Prop):Prop:=
 cond (ij P it.o.op)
  (RA P it.o.op it.o.type (look l fl []) (fun c b=>look l fl [(c,b)]) w fun v fp=>tyK P it.o w v fun v=>wu N fl it.o.dst l v fun l'=>K l' (j8 it fp C) w)
  (Rz P it.o.op it.o.type (look l fl []) w fun v w'=>ID it C w' (wu N fl it.o.dst l v fun l'=>K l' (oe it C) w'))
def g8:dV->Nat->Option (List (Nat×Bool))
 | [],_=>none
 | (d,G,_) :: r,t=>cond (Nat.beq d t) (some G) (g8 r t)
def flagsOf (l:Env) (fl:dV) (g:Nat):Option (List (Nat×Bool)):=
 match gt l g with
 | some (some _)=>some []
 | some none=>g8 fl g
 | none=>none
def oh (P:Program) (N:Nat) (ops:Array Oper) (split:Bool) (it:It) (l:Env) (fl:dV) (C:dE) (w:World) (G:Env->dV->dE->World->Prop):Prop:=
  match it.o.guard with
  | none=>uw P N it l fl C w fun l' C' w'=>G l' fl C' w'
  | some (j,want)=>
   match (ops[j]?).bind (·.dst) with
   | none=>False
   | some g=>
    match split with
    | true=>
     match gt l g with
     | some (some (.bool c))=>
      if c=true then
       cond want (uw P N it ((g,some (.bool true)) :: l) fl C w fun l' C' w'=>G l' fl C' w')
        (wu N fl it.o.dst ((g,some (.bool true)) :: l) undef fun l'=>G l' fl C w)
      else
       cond want (wu N fl it.o.dst ((g,some (.bool false)) :: l) undef fun l'=>G l' fl C w)
        (uw P N it ((g,some (.bool false)) :: l) fl C w fun l' C' w'=>G l' fl C' w')
     | some (some (.tuple _))=>wu N fl it.o.dst l undef fun l'=>G l' fl C w
     | _=>False
    | false=>
     match flagsOf l fl g with
     | none=>False
     | some G'=>
      match ph P it.o.op it.o.type (look l fl ((g,want) :: G')) (fun c b=>look l fl ((c,b) :: (g,want) :: G')),it.o.dst with
      | some v,some d=>cond (Nat.blt d N && fP fl d && ((g,want) :: G').all fun x=> !(Nat.beq x.1 d))
        (G ((d,none) :: l) ((d,(g,want) :: G',v) :: fl) C w) False
      | _,_=>False
def IE (P:Program) (N:Nat) (ops:Array Oper) (split:Bool):List It->Env->dV->dE->World->(Env->World->Prop)->Prop
 | [],l,_,_,w,K=>K l w
 | it :: rest,l,fl,C,w,K=>oh P N ops split it l fl C w fun l' lO C' w'=>IE P N ops split rest l' lO C' w' K
variable {ds:List Deferred}
structure bX (ds:List Deferred) (N:Nat) (a:Act) (l:Env):Prop where
 size:a.tmps.size=N
 defers:a.defers=ds
 De: ∀t v,gt l t=some (some v)->a.tmps[t]? =some v
def holds (a:Act) (F:List (Nat×Bool)):Prop:= ∀g∈F,a.tmps[g.1]? =some (.bool g.2)
def jy (a:Act) (fl:dV):Prop:= ∀x∈fl,(holds a x.2.1->a.tmps[x.1]? =some x.2.2) /\ (¬holds a x.2.1->a.tmps[x.1]? =some undef)
def lQ (ws:List Nat) (a a':Act):Prop:= ∀t,t ∉ ws->a'.tmps[t]? =a.tmps[t]?
theorem lQ.refl (ws:List Nat) (a:Act):lQ ws a a:=fun _ _=>rfl
theorem lQ.trans {ws:List Nat} {a b c:Act} (h:lQ ws a b) (h':lQ ws b c):lQ ws a c:=fun t ht=>(h' t ht).trans (h t ht)
theorem lQ.mono {ws ux:List Nat} {a b:Act} (h:lQ ws a b) (hs: ∀t,t∈ws->t∈ux):lQ ux a b:=fun t ht=>h t fun hm=>ht (hs t hm)
theorem gP {a:Act} {d t:Nat} {v:Value}:(a.put (some d) v).tmps[t]? =if t=d then (if d < a.tmps.size then some v else none) else a.tmps[t]? :=by
 simp only [Act.put,Array.getElem?_setIfInBounds];by_cases h:d=t
 ·subst h;simp
 ·have h':t≠d:=fun e=>h e.symm;simp [h,h']
theorem Dv {a:Act} {G F:List (Nat×Bool)} (h:Rv G F=true) (hF:holds a F):holds a G:=by
 intro g hg;have:=ame.1 h g hg;obtain⟨f,hf,he⟩:=anm.1 this;simp only [alD,beq_iff_eq] at he;have h1:=hF f hf;rw [alB he.1,he.2];exact h1
theorem Bn {a:Act} {F:List (Nat×Bool)} (hF:holds a F): ∀{fl:dV} {t:Nat} {v:Value},jy a fl->Bh F fl t=some v->a.tmps[t]? =some v
 | [],_,_,_,h=>by simp [Bh] at h
 | (d,G,u) :: r,t,v,dh,h=>by
  simp only [Bh] at h
  cases hb:Nat.beq d t with
  | true=>
   rw [hb] at h
   cases hs:Rv G F with
   | true=>
    rw [hs] at h;simp only [cond_true,ald] at h;subst h;have:=(dh (d,G,u) (by simp)).1 (Dv hs hF);rw [<-alB hb];exact this
   | false=>rw [hs] at h;simp at h
  | false=>
   rw [hb] at h;exact Bn hF (fun x hx=>dh x (by simp [hx])) h
theorem pq {N:Nat} {a:Act} {l:Env} {fl:dV} {F:List (Nat×Bool)} (hl:bX ds N a l) (dh:jy a fl) (hF:holds a F) (x:Operand) (v:Value)
  (h:look l fl F x=some v):a.eval x=v:=by
 cases x with
 | tmp t=>
  simp only [look] at h;have key:a.tmps[t]? =some v:=by
   split at h
   ·rename_i u hu
    simp only [ald] at h;subst h;exact hl.De _ _ hu
   ·exact Bn hF dh h
   ·cases h
  simp [Act.eval,key]
 | const u=>simp only [look,ald] at h;subst h;rfl
 | «global» g => simp only [look, ald] at h; subst h; rfl
 | func f=>simp only [look,ald] at h;subst h;rfl
theorem qi {a:Act} {c:Nat} {b:Bool} (h:a.eval (.tmp c)=.bool b):a.tmps[c]? =some (.bool b):=by
 simp only [Act.eval,anG] at h
 cases hc:a.tmps[c]? with
 | none=>rw [hc] at h;simp [undef] at h
 | some v=>rw [hc] at h;simp at h;rw [h]
theorem lS {a:Act}:holds a []:=fun _ h=>by cases h
theorem qB {a:Act} {g:Nat} {b:Bool} {F:List (Nat×Bool)} (h:a.tmps[g]? =some (.bool b)) (hF:holds a F):holds a ((g,b) :: F):=by
 intro x hx
 rcases alF.1 hx with rfl | hx
 ·exact h
 ·exact hF x hx
theorem yX {fl:dV} {d:Nat} (h:fP fl d=true): ∀x∈fl,x.1≠d /\ ∀g∈x.2.1,g.1≠d:=by
 intro x hx;have:=ame.1 h x hx;simp only [alD,alS] at this;refine⟨fun e=>by rw [e] at this;simp at this,fun g hg e=>?_⟩;have h2:=ame.1 this.2 g hg;rw [e] at h2;simp at h2
theorem sX {a:Act} {F:List (Nat×Bool)} {d:Nat} {v:Value} (h: ∀g∈F,g.1≠d):holds (a.put (some d) v) F↔holds a F:=by
 constructor
 ·intro hh g hg;have:=hh g hg;rw [gP,if_neg (h g hg)] at this;exact this
 ·intro hh g hg;rw [gP,if_neg (h g hg)];exact hh g hg
theorem jy.put {a:Act} {fl:dV} {d:Nat} {v:Value} (h:jy a fl) (hf:fP fl d=true):jy (a.put (some d) v) fl:=by
 intro x hx;obtain⟨h1,h2⟩:=yX hf x hx;rw [gP,if_neg h1,sX h2];exact h x hx
theorem bX.put {N:Nat} {a:Act} {l:Env} {d:Nat} {v:Value} (h:bX ds N a l) (hd:d < N):bX ds N (a.put (some d) v) ((d,some v) :: l):=by
 refine⟨by simp [Act.put,h.size],by simp [Act.put,h.defers],fun t u hu=>?_⟩;rw [gP];simp only [gt] at hu;by_cases ht:t=d
 ·subst ht;rw [if_pos rfl,if_pos (by rw [h.size];exact hd)];have:Nat.beq t t=true:=by simp
  rw [this] at hu
  simpa using hu
 ·rw [if_neg ht];have:Nat.beq d t=false:=by
   cases hb:Nat.beq d t with
   | false=>rfl
   | true=>exact absurd (alB hb).symm ht
  rw [this] at hu;exact h.De t u hu
theorem bX.Fu {N:Nat} {a:Act} {l:Env} {d:Nat} {v:Value} (h:bX ds N a l):bX ds N (a.put (some d) v) ((d,none) :: l):=by
 refine⟨by simp [Act.put,h.size],by simp [Act.put,h.defers],fun t u hu=>?_⟩;rw [gP];simp only [gt] at hu;by_cases ht:t=d
 ·subst ht;have:Nat.beq t t=true:=by simp
  rw [this] at hu;simp at hu
 ·rw [if_neg ht];have:Nat.beq d t=false:=by
   cases hb:Nat.beq d t with
   | false=>rfl
   | true=>exact absurd (alB hb).symm ht
  rw [this] at hu;exact h.De t u hu
theorem bX.known {N:Nat} {a:Act} {l:Env} {g:Nat} {v:Value} (h:bX ds N a l) (hg:a.tmps[g]? =some v):bX ds N a ((g,some v) :: l):=by
 refine⟨h.size,h.defers,fun t u hu=>?_⟩;simp only [gt] at hu
 cases hb:Nat.beq g t with
 | true=>
  rw [hb] at hu;simp only [cond_true,ald] at hu;subst hu;rw [<-alB hb];exact hg
 | false=>rw [hb] at hu;exact h.De t u hu
theorem rB {N:Nat} {fl:dV} {dst:Option Nat} {a:Act} {l:Env} {v:Value} {K:Env->Prop} (hl:bX ds N a l) (dh:jy a fl) (h:wu N fl dst l v K):
  ∃l',bX ds N (a.put dst v) l' /\ jy (a.put dst v) fl /\ K l':=by
 unfold wu at h
 split at h
 ·exact⟨l,hl,dh,h⟩
 ·rename_i d
  cases hb:(Nat.blt d N && fP fl d) with
  | false=>rw [hb] at h;exact h.elim
  | true=>
   rw [hb] at h;simp only [alD] at hb;exact⟨_,hl.put (by simpa using hb.1),dh.put hb.2,h⟩
section
variable {P:Program} {N:Nat} {ops:Array Oper}
def wv (it:It) (C:dE) (w:World):Prop:=
 match it.eZ with
 | none=>True
 | some m=> ∀x∈C,Nat.testBit m x.1=false->dY w x.2
theorem wx {m:Nat} {w:World} {K:Prop}: ∀{C:dE},Bm m w K C->(∀x∈C,Nat.testBit m x.1=false->dY w x.2) /\ K
 | [],h=>⟨fun _ hx=>(by cases hx),h⟩
 | (k,hd) :: r,h=>by
  simp only [Bm] at h
  cases hb:Nat.testBit m k with
  | true=>
   rw [hb] at h;obtain⟨h1,h2⟩:=wx h;refine⟨fun x hx hm=>?_,h2⟩
   rcases alF.1 hx with rfl | hx
   ·rw [hb] at hm;cases hm
   ·exact h1 x hx hm
  | false=>
   rw [hb] at h;obtain⟨h0,h⟩:=h;obtain⟨h1,h2⟩:=wx h;refine⟨fun x hx hm=>?_,h2⟩
   rcases alF.1 hx with rfl | hx
   ·exact h0
   ·exact h1 x hx hm
theorem IF {it:It} {C:dE} {w:World} {K:Prop} (h:ID it C w K):(eD it.o.op=false->wv it C w) /\ K:=by
 obtain⟨o,idx,eZ⟩:=it
 cases eZ with
 | none=>exact⟨fun _=>trivial,h⟩
 | some m=>
  simp only [ID] at h
  cases hb:eD o.op with
  | true=>rw [hb] at h;exact⟨fun hh=>(by cases hh),h⟩
  | false=>
   rw [hb] at h;obtain⟨h1,h2⟩:=wx h;exact⟨fun _=>h1,h2⟩
def IG (P:Program) (op:Op) (fp:List z5) (w w':World):Prop:=
 wl P op=true \/ (cQ P op=false /\ Ext w w') \/ (cQ P op=true /\ ∀x∈fp,dY w' x)
inductive Step (ds:List Deferred) (P:Program) (N:Nat) (ops:Array Oper) (it:It) (a:Act) (C:dE) (w:World) (G:Env->dV->dE->World->Prop):Prop
 | val (v:Value) (l:Env) (fl:dV) (fp:List z5) (yD:cQ P it.o.op=false->fp= []) (h1:Region.wanted it.o (yielded ops a.tmps)=true) (h0: ∀x∈fp,dY w x)
   (h2: ∀w',IG P it.o.op fp w w'->(execOp a.eval it.o).run P w'=.ok (.value v) w')
   (h3:bX ds N (a.put it.o.dst v) l) (h4:jy (a.put it.o.dst v) fl) (h5:G l fl (j8 it fp C) w)
 | skip (l:Env) (fl:dV) (h1:Region.wanted it.o (yielded ops a.tmps)=false) (h3:bX ds N (a.put it.o.dst undef) l) (h4:jy (a.put it.o.dst undef) fl) (h5:G l fl C w)
 | MR (h0:ij P it.o.op=false) (h1:Region.wanted it.o (yielded ops a.tmps)=true)
   (h2: ∀Q,it.o.wp P a w (fun a' w'=>(eD it.o.op=true->Ext w w') /\ (eD it.o.op=false->wv it C w') /\ ∃v l fl,a'=a.put it.o.dst v /\ bX ds N a' l /\ jy a' fl /\ G l fl (oe it C) w') Q)
theorem qC (hP:A6 P) {it:It} {a:Act} {l:Env} {fl:dV} {C:dE} {w:World} {G:Env->dV->dE->World->Prop} (hl:bX ds N a l) (dh:jy a fl)
  (hw:Region.wanted it.o (yielded ops a.tmps)=true) (h:uw P N it l fl C w fun l' C' w'=>G l' fl C' w'):Step ds P N ops it a C w G:=by
 have hρ: ∀x v,look l fl [] x=some v->a.eval x=v:=fun x v hx=>pq hl dh lS x v hx;have Ie: ∀c b x v,a.eval (.tmp c)=.bool b->look l fl [(c,b)] x=some v->a.eval x=v:=fun c b x v hc hx=>
  pq hl dh (qB (qi hc) lS) x v hx
 unfold uw at h;obtain⟨⟨dst,op,ty,pos,after,guard⟩,idx,eZ⟩:=it
 cases hb:ij P op with
 | true=>
  simp only [hb,cond_true] at h;obtain⟨v,fp,yD,h0,hr,hK⟩:=MQ hρ Ie h dst pos after guard;obtain⟨l',h1,h2,h3⟩:=rB hl dh (RB hK);exact .val v l' fl fp yD hw h0 hr h1 h2 h3
 | false=>
  simp only [hb,cond_false] at h;refine .MR hb hw fun Q=>?_;refine Oper.wp_mono ?_ (MP (Q:=Q) hP hρ h dst pos after guard);rintro a' w' ⟨v,rfl,hK,hx⟩;obtain⟨hk,hK⟩:=IF hK;obtain⟨l',h1,h2,h3⟩:=rB hl dh hK;exact⟨hx,hk,v,l',fl,rfl,h1,h2,h3⟩
theorem Dw {a:Act} {j g:Nat} (hg:(ops[j]?).bind (·.dst)=some g):yielded ops a.tmps j=match a.tmps[g]? with | some (.bool b)=>some b | _=>none:=by
 unfold yielded;rw [hg];rfl
theorem rC {split:Bool} (hP:A6 P) {it:It} {a:Act} {l:Env} {fl:dV} {C:dE} {w:World} {G:Env->dV->dE->World->Prop} (hl:bX ds N a l) (dh:jy a fl)
  (h:oh P N ops split it l fl C w G):Step ds P N ops it a C w G:=by
 unfold oh at h
 split at h
 ·rename_i hg
  exact qC hP hl dh (by simp [Region.wanted,hg]) h
 ·rename_i j want hg
  split at h
  ·exact h.elim
  ·rename_i g MS
   have hy:=Dw (a:=a) MS
   split at h
   ·split at h
    ·rename_i c hc
     have fb:=hl.De _ _ hc;rw [fb] at hy;simp only at hy;have Fv:Region.wanted it.o (yielded ops a.tmps)=(some c ==some want):=by simp [Region.wanted,hg,hy]
     split at h
     ·rename_i RC
      subst RC;have dQ:=hl.known fb
      cases want with
      | true=>exact qC hP dQ dh (by rw [Fv];rfl) h
      | false=>
       simp only [cond_false] at h;obtain⟨l',h1,h2,h3⟩:=rB dQ dh h;exact .skip l' fl (by rw [Fv];rfl) h1 h2 h3
     ·rename_i RC
      have hcf:c=false:=by simpa using RC
      subst hcf;have dQ:=hl.known fb
      cases want with
      | true=>
       simp only [cond_true] at h;obtain⟨l',h1,h2,h3⟩:=rB dQ dh h;exact .skip l' fl (by rw [Fv];rfl) h1 h2 h3
      | false=>exact qC hP dQ dh (by rw [Fv];rfl) h
    ·rename_i vs hc
     have fb:=hl.De _ _ hc;rw [fb] at hy;simp only at hy;obtain⟨l',h1,h2,h3⟩:=rB hl dh h;exact .skip l' fl (by simp [Region.wanted,hg,hy]) h1 h2 h3
    ·exact h.elim
   ·split at h
    ·exact h.elim
    ·rename_i G hG
     split at h
     ·rename_i v d hv hd
      cases hb:(Nat.blt d N && fP fl d && ((g,want) :: G).all fun x=> !(Nat.beq x.1 d)) with
      | false=>rw [hb] at h;exact h.elim
      | true=>
       rw [hb] at h;simp only [cond_true] at h;simp only [alD] at hb;obtain⟨⟨n9,gO⟩,rA⟩:=hb;have hdN:d < N:=by simpa using n9
       have aW: ∀x∈((g,want) :: G),x.1≠d:=by
        intro x hx e;have:=ame.1 rA x hx;rw [e] at this;simp at this
       -- the guard's flags hold where it says 'wanted'
       have hgG:a.tmps[g]? =some (.bool want)->holds a G:=by
        intro fb;unfold flagsOf at hG
        split at hG
        ·simp only [ald] at hG;subst hG;exact lS
        ·have key: ∀(fl:dV),jy a fl->g8 fl g=some G->holds a G:=by
          intro fl
          induction fl with
          | nil=>intro _ hh;simp [g8] at hh
          | cons x r ih=>
           intro dh hh;obtain⟨d',G',u⟩:=x;simp only [g8] at hh
           cases IH:Nat.beq d' g with
           | true=>
            rw [IH] at hh;simp only [cond_true,ald] at hh;subst hh;have h2:=(dh (d',G',u) (by simp)).2;rw [alB IH] at h2;exact Classical.byContradiction fun hn=>by
             have:=h2 hn;rw [fb] at this;simp [undef] at this
           | false=>
            rw [IH] at hh;exact ih (fun x hx=>dh x (by simp [hx])) hh
         exact key fl dh hG
        ·cases hG
       have dM:a.put it.o.dst=a.put (some d):=by rw [hd]
       by_cases fb:a.tmps[g]? =some (.bool want)
       ·have hF:holds a ((g,want) :: G):=qB fb (hgG fb);have hw:Region.wanted it.o (yielded ops a.tmps)=true:=by
         rw [fb] at hy;simp [Region.wanted,hg,hy]
        obtain⟨⟨dst,op,ty,pos,after,guard⟩,idx,eZ⟩:=it;have hr:=fun(w':World)=>mN (w:=w') (fun x v hx=>pq hl dh hF x v hx)
         (fun c b x v hc hx=>pq hl dh (qB (qi hc) hF) x v hx) hv dst pos after guard
        refine .val v _ _ [] (fun _=>rfl) hw (fun _ hx=>(by cases hx)) (fun w' _=>hr w') ?_ ?_ (by cases eZ <;> exact h)
        ·rw [dM];exact hl.Fu
        ·rw [dM];intro x hx
         rcases alF.1 hx with rfl | hx
         ·refine⟨fun _=>by rw [gP,if_pos rfl,if_pos (by rw [hl.size];exact hdN)],fun hn=>absurd ((sX aW).2 hF) hn⟩
         ·exact dh.put gO x hx
       ·have hw:Region.wanted it.o (yielded ops a.tmps)=false:=by
         simp only [Region.wanted,hg,hy]
         split
         ·rename_i b IH
          cases b <;> cases want <;> first | rfl | exact absurd IH fb
         ·rfl
        refine .skip _ _ hw ?_ ?_ h
        ·rw [dM];exact hl.Fu
        ·rw [dM];intro x hx
         rcases alF.1 hx with rfl | hx
         ·refine⟨fun hh=>?_,fun _=>by rw [gP,if_pos rfl,if_pos (by rw [hl.size];exact hdN)]⟩;have:=(sX aW).1 hh;exact absurd (this (g,want) (by simp)) fb
         ·exact dh.put gO x hx
     ·exact h.elim
def dstsOf (os:List Oper):List Nat:=os.filterMap (·.dst)
def lA (os:List It):List Nat:=os.filterMap (·.o.dst)
theorem k9 {it:It} {rest:List It} {a:Act} {v:Value}:lQ (lA (it :: rest)) a (a.put it.o.dst v):=by
 intro t ht
 cases hd:it.o.dst with
 | none=>rfl
 | some d=>
  rw [gP,if_neg];intro e;subst e;exact ht (by simp [lA,hd])
theorem jf {it:It} {rest:List It} {a b:Act} (h:lQ (lA rest) a b):lQ (lA (it :: rest)) a b:=
 h.mono fun t ht=>by
  simp only [lA,anR] at ht ⊢;obtain⟨x,hx,hd⟩:=ht;exact⟨x,by simp [hx],hd⟩
theorem yY {split:Bool} (hP:A6 P) {Q:Exit->Act->World->Prop}: ∀(os:List It) {l:Env} {fl:dV} {C:dE} {w:World} {a:Act} {K:Env->World->Prop},
  bX ds N a l->jy a fl->IE P N ops split os l fl C w K->
  (∀a' l' w',lQ (lA os) a a'->bX ds N a' l'->K l' w'->Q .normal a' w')->wpList P ops Q (os.map (·.o)) a w
 | [],l,fl,C,w,a,K,hl,dh,h,hK=>hK a l w (lQ.refl _ _) hl h
 | it :: rest,l,fl,C,w,a,K,hl,dh,h,hK=>by
  have ih:=fun{l fl C w a}=>yY (split:=split) hP (Q:=Q) rest (l:=l) (fl:=fl) (C:=C) (w:=w) (a:=a) (K:=K);simp only [alR]
  rcases rC hP hl dh h with ⟨v,l',lO,fp,yD,h1,h0,h2,h3,h4,h5⟩ | ⟨l',lO,h1,h3,h4,h5⟩ | ⟨h0,h1,h2⟩
  ·unfold wpList;rw [if_pos h1];refine .inl ?_;unfold Oper.wp;rw [h2 w (by unfold IG;cases hb:cQ P it.o.op <;> simp [Ext.refl];right;exact fun a hx=>h0 a hx)];exact ih h3 h4 h5 fun a' l' w' ho=>hK a' l' w' (k9.trans (jf ho))
  ·unfold wpList;rw [if_neg (by rw [h1];simp)];exact ih h3 h4 h5 fun a' l' w' ho=>hK a' l' w' (k9.trans (jf ho))
  ·unfold wpList;rw [if_pos h1];refine .inl (Oper.wp_mono ?_ (h2 Q));rintro a' w' ⟨_,_,v,l',lO,rfl,h3,h4,h5⟩;exact ih h3 h4 h5 fun a' l' w' ho=>hK a' l' w' (k9.trans (jf ho))
def gT (P:Program) (o:Oper):Bool:=ij P o.op || eD o.op
def lB (P:Program) (ops:Array Oper) (i:Nat):Bool:=
 match ops[i]? with
 | some o=>gT P o
 | none=>false
def Gd (P:Program) (ops:Array Oper) (as:List Nat) (C:dE) (i:Nat) (w w':World):Prop:=
 (lB P ops i=true->Ext w w') /\ ∀x∈C,(as.getD i 0).testBit x.1=false->dY w x.2->dY w' x.2
theorem Gd.refl {as:List Nat} {C:dE} {i:Nat} {w:World}:Gd P ops as C i w w:=⟨fun _=>Ext.refl w,fun _ _ _ h=>h⟩
def cL (P:Program) (md:Region.Mode) (ops:Array Oper) (as:List Nat) (Q:Exit->Act->World->Prop) (C:dE):Nat->Array Bool->Act->World->Prop
 | 0,cU,a,w=>Region.ready md ops cU= [] /\ Q .normal a w
 | fuel+1,cU,a,w=>
  (Region.ready md ops cU= []->Q .normal a w) /\
  ∀i∈Region.ready md ops cU,wpOp P ops Q i (fun a' w'=>Gd P ops as C i w w' /\ cL P md ops as Q C fuel (cU.setIfInBounds i true) a' w') a w
theorem mO {md:Region.Mode} {as:List Nat} {C:dE} {Q:Exit->Act->World->Prop}: ∀(fuel:Nat) (cU:Array Bool) (a:Act) (w:World),cL P md ops as Q C fuel cU a w->wpAny P md ops Q fuel cU a w
 | 0,_,_,_,h=>h
 | fuel+1,_,_,_,h=>⟨h.1,fun i hi=>wpOp_mono (fun a' w' h'=>mO fuel _ a' w' h'.2) (h.2 i hi)⟩
theorem fQ {md:Region.Mode} {as:List Nat} {C C':dE} (hC: ∀x∈C,x∈C') {Q:Exit->Act->World->Prop}: ∀(fuel:Nat) (cU:Array Bool) (a:Act) (w:World),
  cL P md ops as Q C' fuel cU a w->cL P md ops as Q C fuel cU a w
 | 0,_,_,_,h=>h
 | fuel+1,_,_,_,h=>⟨h.1,fun i hi=>wpOp_mono (fun a' w' h'=>⟨⟨h'.1.1,fun x hx=>h'.1.2 x (hC x hx)⟩,fQ hC fuel _ a' w' h'.2⟩) (h.2 i hi)⟩
theorem lf {md:Region.Mode} {as:List Nat} {C C2:dE} {Q:Exit->Act->World->Prop} (_:True): ∀(fuel:Nat) (cU:Array Bool) (a:Act) (w:World),
  (∀y∈C,y∈C2 \/ ∀i,cU.getD i true=false->lB P ops i=true \/ (as.getD i 0).testBit y.1=true)->
  cL P md ops as Q C2 fuel cU a w->cL P md ops as Q C fuel cU a w
 | 0,_,_,_,_,h=>h
 | fuel+1,cU,a,w,hC,h=>⟨h.1,fun i hi=>wpOp_mono (fun a' w' h'=>⟨⟨h'.1.1,fun y hy hb hc=>by
   rcases hC y hy with h1 | h1
   ·exact h'.1.2 y h1 hb hc
   ·rcases h1 i (mem_ready.1 hi).1 with h2 | h2
    ·exact(h'.1.1 h2).hold hc
    ·rw [hb] at h2;cases h2⟩,
   lf trivial fuel _ a' w' (fun y hy=>(hC y hy).imp id fun h1 k hk=>by
    by_cases Ig:i=k
    ·subst Ig;exact h1 i (mem_ready.1 hi).1
    ·rw [getD_set_ne true Ig] at hk;exact h1 k hk) h'.2⟩) (h.2 i hi)⟩
theorem mP {md:Region.Mode} {as:List Nat} {C:dE} {Q:Exit->Act->World->Prop} {S:World->Prop} {i:Nat} {oi:Oper} {v:Value} (L:Array Bool) (hi:ops[i]? =some oi)
  (Wz: ∀(j:Nat) (o:Oper) cs b,ops[j]? =some o->o.op≠ .select cs b)
  (hQ: ∀c a w,Q (.panic c) (a.put oi.dst v) w->Q (.panic c) a w) (abl: ∀j∈Region.ready md ops L,j=i) (dL:L.size=ops.size):
  ∀(fuel:Nat) (cU:Array Bool) (a:Act) (w:World),
   (∀j oj,ops[j]? =some oj->j≠i->cU.getD j true=false->(∀e∈oj.after,Region.binds md e=true->e.on≠i)->oi.apart ops oj=true)->
   (∀j,cU.getD j false=true->L.getD j false=true)->(∀j,cU.getD j true=false->L.getD j true=true-> ∀w w',Gd P ops as C j w w'->S w->S w')->
   i∈Region.ready md ops cU->YieldsIf P ops S oi v a->S w->
   cL P md ops as Q C fuel (cU.setIfInBounds i true) (a.put oi.dst v) w->cL P md ops as Q C (fuel+1) cU a w:=by
 intro fuel
 induction fuel with
 | zero=>
  intro cU a w _ _ _ hr hy hS H;refine⟨fun h=>(by rw [h] at hr;cases hr),fun j hj=>?_⟩;by_cases Fw:j=i
  ·subst Fw;exact hy.wpOp hi hS ⟨Gd.refl,H⟩
  ·have:=ready_mono hj Fw;rw [H.1] at this
   cases this
 | succ fuel ih=>
  intro cU a w wy vu Qh hr hy hS H;refine⟨fun h=>(by rw [h] at hr;cases hr),fun j hj=>?_⟩;by_cases Fw:j=i
  ·subst Fw;exact hy.wpOp hi hS ⟨Gd.refl,H⟩
  ·have h1:=H.2 j (ready_mono hj Fw);obtain⟨RD,oj,WB,bz⟩:=mem_ready.1 hj;have abm: ∀e∈oj.after,Region.binds md e=true->e.on≠i:=fun e he hb heq=>by
    have h1:=bz e he hb;have h0:=(mem_ready.1 hr).1;rw [heq] at h1
    rcases anA i cU.size with h' | h'
    ·simp [h'] at h0 h1;rw [h0] at h1;cases h1
    ·simp [Array.getElem?_eq_none h'] at h1
   have hjL:L.getD j true=true:=by
    cases Df:L.getD j true with
    | true=>rfl
    | false=>
     have:j∈Region.ready md ops L:=mem_ready.2 ⟨Df,oj,WB,fun e he hb=>vu _ (bz e he hb)⟩;exact absurd (abl j this) Fw
   have dZ:j < L.size:=by rw [dL];exact(als.1 WB).1
   have abo:L.getD j false=true:=by simp [dZ] at hjL ⊢;exact hjL
   have hjh:=Qh j RD hjL;have h2:=wpOp_putIf WB (wy j oj WB Fw RD abm) (fun cs b=>Wz i oi cs b hi) (fun cs b=>Wz j oj cs b WB) hQ hy h1;have RE: ∀k ok,ops[k]? =some ok->k≠i->(cU.setIfInBounds j true).getD k true=false->
     (∀e∈ok.after,Region.binds md e=true->e.on≠i)->oi.apart ops ok=true:=fun k ok hk Ih qj dz=>by
    refine wy k ok hk Ih ?_ dz;by_cases mQ:j=k
    ·subst mQ;exact RD
    ·rw [getD_set_ne true mQ] at qj;exact qj
   have RF: ∀k,(cU.setIfInBounds j true).getD k true=false->L.getD k true=true-> ∀w w',Gd P ops as C k w w'->S w->S w':=fun k qj hL=>by
    by_cases mQ:j=k
    ·subst mQ;exact hjh
    ·rw [getD_set_ne true mQ] at qj;exact Qh k qj hL
   have WC: ∀k,(cU.setIfInBounds j true).getD k false=true->L.getD k false=true:=fun k hk=>by
    by_cases mQ:j=k
    ·subst mQ;exact abo
    ·rw [getD_set_ne false mQ] at hk;exact vu k hk
   refine wpOp_mono (fun a' w' h3=>⟨h3.2.1,ih (cU.setIfInBounds j true) a' w' RE WC RF (ready_mono hr (Ne.symm Fw)) h3.1 (hjh _ _ h3.2.1 hS) ?_⟩) h2;rw [Array.setIfInBounds_comm _ _ Fw];exact h3.2.2
def fc (acc:List Nat) (es:List Edge):Nat:=es.foldl (fun s e=>cond (Region.binds .any e) (s ||| 2 ^ e.on ||| acc.getD e.on 0) s) 0
def uy (es:List Edge):Nat:=es.foldl (fun s e=>cond (Region.binds .any e) (s ||| 2 ^ e.on) s) 0
def hZ:List Oper->List Nat->List Nat
 | [],acc=>acc
 | o :: r,acc=>hZ r (acc++ [fc acc o.after.toList])
structure Row where
 o:Oper
 idx:Nat
 eZ:Nat
 dir:Nat
 ro:Bool
 hd:Bool
def rowsOf (P:Program):Nat->List Oper->List Nat->List Row
 | i,o :: r,m :: ms=>⟨o,i,m,uy o.after.toList,ij P o.op,gT P o⟩ :: rowsOf P (i+1) r ms
 | _,_,_=> []
def canon (Qi:List Row):List Row->List Row
 | []=>Qi
 | e :: es=>Qi.filter (fun r=> !(e :: es).any fun x=>Nat.testBit r.eZ x.idx)++e :: canon (Qi.filter fun r=>(e :: es).any fun x=>Nat.testBit r.eZ x.idx) es
def rD (rows:List Row):List Row:=canon (rows.filter (·.ro)) (rows.filter fun r=> !r.ro)
def eB (x:Row):It:=⟨x.o,x.idx,some x.eZ⟩
def MT (P:Program) (ops:Array Oper):List It:=(rD (rowsOf P 0 ops.toList (hZ ops.toList []))).map eB
def pt:Nat->List Oper->List It
 | _,[]=> []
 | i,o :: r=>⟨o,i,none⟩ :: pt (i+1) r
def mR (P:Program) (ops:Array Oper) (x:Row):List Row->Bool
 | []=>true
 | y :: r=>(match x.ro with
  | true=>(Nat.testBit y.dir x.idx || x.o.apart ops y.o) && (wl P x.o.op || cQ P x.o.op || Nat.testBit y.eZ x.idx || y.hd)
  | false=>Nat.testBit y.eZ x.idx && Nat.beq (x.eZ ||| y.eZ) y.eZ) && mR P ops x r
def sY (P:Program) (ops:Array Oper):Nat->List Row->Bool
 | done,[]=>(List.range ops.size).all fun i=>Nat.testBit done i
 | done,x :: r=>Nat.beq (x.eZ ||| done) done && !Nat.testBit done x.idx && mR P ops x r && sY P ops (done ||| 2 ^ x.idx) r
def II (P:Program) (ops:Array Oper):Bool:=
 Region.noSelect ops && Nat.beq (rD (rowsOf P 0 ops.toList (hZ ops.toList []))).length ops.size && sY P ops 0 (rD (rowsOf P 0 ops.toList (hZ ops.toList [])))
theorem om: ∀(os:List Oper) (acc:List Nat),∃t,hZ os acc=acc++t /\ t.length=os.length
 | [],acc=>⟨[],by simp [hZ],rfl⟩
 | o :: r,acc=>by
  obtain⟨t,ht,hl⟩:=om r (acc++ [fc acc o.after.toList]);exact⟨fc acc o.after.toList :: t,by simp [hZ,ht],by simp [hl]⟩
theorem jg: ∀(os:List Oper) (acc:List Nat) (j:Nat) (o:Oper),os[j]? =some o->(hZ os acc)[acc.length+j]? =some (fc ((hZ os acc).take (acc.length+j)) o.after.toList)
 | [],acc,j,o,h=>by simp at h
 | x :: r,acc,0,o,h=>by
  simp only [alo,ald] at h;subst h;obtain⟨t,ht,hl⟩:=om r (acc++ [fc acc x.after.toList]);simp [hZ,ht]
 | x :: r,acc,j+1,o,h=>by
  have:=jg r (acc++ [fc acc x.after.toList]) j o (by simpa using h);simp only [alb,am4] at this;simp only [hZ];rw [show acc.length+(j+1)=acc.length+1+j by omega];exact this
theorem oo {s a b k:Nat}:(s ||| a ||| b).testBit k=(s.testBit k || a.testBit k || b.testBit k):=by simp [alY]
theorem iM {acc:List Nat} {k:Nat}: ∀(es:List Edge) (s:Nat),(es.foldl (fun s e=>cond (Region.binds .any e) (s ||| 2 ^ e.on ||| acc.getD e.on 0) s) s).testBit k=true->
  s.testBit k=true \/ ∃e∈es,Region.binds .any e=true /\ (e.on=k \/ (acc.getD e.on 0).testBit k=true)
 | [],s,h=>.inl h
 | e :: es,s,h=>by
  simp only [amQ] at h
  rcases iM es _ h with h1 | ⟨e',iD,h2⟩
  ·cases hb:Region.binds .any e with
   | false=>rw [hb] at h1;exact .inl h1
   | true=>
    rw [hb] at h1;simp only [cond_true,oo,al9,al7,decide_eq_true_eq] at h1
    rcases h1 with (h1 | h1) | h1
    ·exact .inl h1
    ·exact .inr ⟨e,by simp,hb,.inl h1⟩
    ·exact .inr ⟨e,by simp,hb,.inr h1⟩
  ·exact .inr ⟨e',by simp [iD],h2⟩
theorem iN {acc:List Nat} {e:Edge} (hb:Region.binds .any e=true): ∀(es:List Edge) (s:Nat),(e∈es \/ s.testBit e.on=true)->
  (es.foldl (fun s e=>cond (Region.binds .any e) (s ||| 2 ^ e.on ||| acc.getD e.on 0) s) s).testBit e.on=true
 | [],s,h=>by rcases h with h | h;cases h;exact h
 | x :: es,s,h=>by
  simp only [amQ];refine iN hb es _ ?_
  rcases h with h | h
  ·rcases alF.1 h with rfl | h
   ·right;rw [hb];simp [oo]
   ·exact .inl h
  ·right
   cases Region.binds .any x <;> simp [oo,h]
theorem pw {k:Nat}: ∀(es:List Edge) (s:Nat),(es.foldl (fun s e=>cond (Region.binds .any e) (s ||| 2 ^ e.on) s) s).testBit k=true->
  s.testBit k=true \/ ∃e∈es,Region.binds .any e=true /\ e.on=k
 | [],s,h=>.inl h
 | e :: es,s,h=>by
  simp only [amQ] at h
  rcases pw es _ h with h1 | ⟨e',iD,h2⟩
  ·cases hb:Region.binds .any e with
   | false=>rw [hb] at h1;exact .inl h1
   | true=>
    rw [hb] at h1;simp only [cond_true,alY,al9,al7,decide_eq_true_eq] at h1
    rcases h1 with h1 | h1
    ·exact .inl h1
    ·exact .inr ⟨e,by simp,hb,h1⟩
  ·exact .inr ⟨e',by simp [iD],h2⟩
def cI (n d:Nat):Array Bool:=((List.range n).map fun j=>d.testBit j).toArray
theorem aQ {n k j:Nat} {d:Bool}:(cI n k).getD j d=if j < n then k.testBit j else d:=by
 simp only [cI,anG,List.getElem?_toArray,alc];by_cases h:j < n
 ·simp [h]
 ·have:(List.range n)[j]? =none:=by simp;omega
  simp [this,h]
theorem iO {n d k:Nat}:(cI n d).setIfInBounds k true=cI n (d ||| 2 ^ k):=by
 apply amw;apply alM;intro i;simp only [Array.toList_setIfInBounds,cI,alN,alr,am9,alc,alY,al7];by_cases h:i < n
 ·by_cases hk:k=i
  ·subst hk;simp [h]
  ·simp [hk,h]
 ·have hn:(List.range n)[i]? =none:=by simp;omega
  by_cases hk:k=i
  ·subst hk;simp [hn,h]
  ·simp [hk,hn]
theorem qD {n:Nat}:cI n 0=Array.replicate n false:=by
 apply amw;simp [cI,List.map_const']
def lg (as:List Nat) (n k:Nat):Array Bool:=((List.range n).map fun j=> !decide (j=k) && !(as.getD j 0).testBit k).toArray
theorem cP {as:List Nat} {n k j:Nat} {d:Bool}:(lg as n k).getD j d=if j < n then (!decide (j=k) && !(as.getD j 0).testBit k) else d:=by
 simp only [lg,anG,List.getElem?_toArray,alc];by_cases h:j < n
 ·simp [h]
 ·have:(List.range n)[j]? =none:=by simp;omega
  simp [this,h]
theorem iP {P:Program}: ∀{os:List Oper} {ms:List Nat} {i:Nat} {x:Row},x∈rowsOf P i os ms->
  ∃j,os[j]? =some x.o /\ ms[j]? =some x.eZ /\ x.idx=i+j /\ x.dir=uy x.o.after.toList /\ x.ro=ij P x.o.op /\ x.hd=gT P x.o
 | [],ms,i,x,h=>by cases ms <;> cases h
 | o :: os,[],i,x,h=>by cases h
 | o :: os,m :: ms,i,x,h=>by
  rcases alF.1 h with rfl | h
  ·exact⟨0,rfl,rfl,rfl,rfl,rfl,rfl⟩
  ·obtain⟨j,h1,h2,h3,h4⟩:=iP h;exact⟨j+1,by simpa using h1,by simpa using h2,by omega,h4⟩
theorem yZ: ∀{es Qi:List Row} {x:Row},x∈canon Qi es->x∈Qi \/ x∈es
 | [],Qi,x,h=>.inl h
 | e :: es,Qi,x,h=>by
  simp only [canon,alg,ama,alF] at h
  rcases h with h | h | h
  ·exact .inl h.1
  ·exact .inr (by simp [h])
  ·rcases yZ h with h | h
   ·exact .inl (ama.1 h).1
   ·exact .inr (by simp [h])
theorem uz {rows:List Row} {x:Row} (h:x∈rD rows):x∈rows:=by
 rcases yZ h with h | h
 ·exact(ama.1 h).1
 ·exact(ama.1 h).1
theorem eE {P:Program} {x:Row}: ∀{ys:List Row} {y:Row},mR P ops x ys=true->y∈ys->
  (match x.ro with
  | true=>(Nat.testBit y.dir x.idx || x.o.apart ops y.o) && (wl P x.o.op || cQ P x.o.op || Nat.testBit y.eZ x.idx || y.hd)
  | false=>Nat.testBit y.eZ x.idx && Nat.beq (x.eZ ||| y.eZ) y.eZ)=true
 | [],y,_,h=>by cases h
 | z :: ys,y,hm,h=>by
  simp only [mR,alD] at hm
  rcases alF.1 h with rfl | h
  ·exact hm.1
  ·exact eE hm.2 h
theorem uA {P:Program}: ∀{rs:List Row} {done:Nat},sY P ops done rs=true-> ∀j,j < ops.size->done.testBit j=false-> ∃y∈rs,y.idx=j
 | [],done,h,j,hj,hd=>by
  have:=ame.1 h j (al5.2 hj);rw [hd] at this;cases this
 | x :: r,done,h,j,hj,hd=>by
  simp only [sY,alD] at h;by_cases hx:x.idx=j
  ·exact⟨x,by simp,hx⟩
  ·obtain⟨y,hy,he⟩:=uA h.2 j hj (by simp [alY,hd,al7,hx]);exact⟨y,by simp [hy],he⟩
theorem dd {a d k:Nat} (h:a ||| d=d) (hk:a.testBit k=true):d.testBit k=true:=by
 rw [<-h];simp [alY,hk]
theorem Bo {split:Bool} (hP:A6 P) (hs:Region.noSelect ops=true) {Q:Exit->Act->World->Prop} (hQ: ∀c a w,¬Q (.panic c) a w)
  (as:List Nat) (has:as=hZ ops.toList []):
  ∀(rs:List Row) (done:Nat) {l:Env} {fl:dV} {C:dE} {w:World} {a:Act} {K:Env->World->Prop},
  (∀x∈rs,x∈rowsOf P 0 ops.toList as)->(∀j,done.testBit j=true->j < ops.size /\ as.getD j 0 ||| done=done)->(∀x∈C,dY w x.2)->sY P ops done rs=true->
  bX ds N a l->jy a fl->IE P N ops split (rs.map eB) l fl C w K->
  (∀a' l' w',lQ (lA (rs.map eB)) a a'->bX ds N a' l'->K l' w'->Q .normal a' w')->cL P .any ops as Q C rs.length (cI ops.size done) a w
 | [],done,l,fl,C,w,a,K,VO,fR,hC,hB,hl,dh,h,hK=>by
  refine⟨?_,hK a l w (lQ.refl _ _) hl h⟩;refine amR.2 fun j hj=>?_;obtain⟨h1,oj,h2,_⟩:=mem_ready.1 hj;have av:=(als.1 h2).1;rw [aQ,if_pos av] at h1;have:=ame.1 hB j (al5.2 av);rw [h1] at this;cases this
 | x :: rs,done,l,fl,C,w,a,K,VO,fR,hC,hB,hl,dh,h,hK=>by
  have gH:=uA hB;simp only [sY,alD,alS] at hB;obtain⟨⟨⟨n9,vr⟩,gO⟩,yE⟩:=hB;have vu:x.eZ ||| done=done:=alB n9
  have lh: ∀y∈rowsOf P 0 ops.toList as,ops[y.idx]? =some y.o /\ as[y.idx]? =some y.eZ /\ y.dir=uy y.o.after.toList /\ y.ro=ij P y.o.op /\ y.hd=gT P y.o:=by
   intro y hy;obtain⟨j,h1,h2,h3,h4⟩:=iP hy;rw [aml] at h3;rw [h3];exact⟨by simpa using h1,h2,h4⟩
  obtain⟨h0,WD,WE,Bp,WG⟩:=lh x (VO x (by simp));have sZ:as.getD x.idx 0=x.eZ:=by simp [WD]
  have Ab:x.idx < ops.size:=(als.1 h0).1;have jh: ∀j oj,ops[j]? =some oj->as[j]? =some (fc (as.take j) oj.after.toList):=by
   intro j oj hj;have:=jg ops.toList [] j oj (by simpa using hj);rw [has]
   simpa using this
  have uB: ∀j oj,ops[j]? =some oj->as.getD j 0=fc (as.take j) oj.after.toList:=fun j oj hj=>by simp [jh j oj hj]
  have oq:x.idx∈Region.ready .any ops (cI ops.size done):=by
   refine mem_ready.2 ⟨by rw [aQ,if_pos Ab];exact vr,x.o,h0,fun e he lT=>?_⟩;have h2:x.eZ.testBit e.on=true:=by
    rw [<-sZ,uB _ _ h0];exact iN lT _ _ (.inl (by simpa using he))
   have h3:=dd vu h2;rw [aQ,if_pos (fR _ h3).1];exact h3
  have jz: ∀j oj,j≠x.idx->ops[j]? =some oj->done.testBit j=false-> ∃y∈rs,y.idx=j /\ y.o=oj /\ y.eZ=as.getD j 0 /\ y.dir=uy oj.after.toList /\ y.hd=gT P oj:=by
   intro j oj aW hj qj;have dZ:=(als.1 hj).1;obtain⟨y,hy,he⟩:=gH j dZ qj
   rcases alF.1 hy with rfl | hy
   ·exact absurd he.symm aW
   ·obtain⟨g1,g2,g3,g4,g5⟩:=lh y (VO y (by simp [hy]));rw [he] at g1 g2;have:y.o=oj:=alm (g1.symm.trans hj);exact⟨y,hy,he,this,by simp [g2],by rw [g3,this],by rw [g5,this]⟩
  have Dx: ∀j,(done ||| 2 ^ x.idx).testBit j=true->j < ops.size /\ as.getD j 0 ||| (done ||| 2 ^ x.idx)=done ||| 2 ^ x.idx:=by
   intro j hj;simp only [alY,al9,al7,decide_eq_true_eq] at hj
   rcases hj with hj | hj
   ·obtain⟨g1,g2⟩:=fR j hj;exact⟨g1,by rw [<-ane,g2]⟩
   ·subst hj;exact⟨Ab,by rw [sZ,<-ane,vu]⟩
  have ih:=fun{l fl C w a}=>Bo (split:=split) hP hs (Q:=Q) hQ as has rs (done ||| 2 ^ x.idx) (l:=l) (fl:=fl) (C:=C) (w:=w) (a:=a) (K:=K) (fun y hy=>VO y (by simp [hy])) Dx;have bW:=rC hP hl dh h
  -- where a set of bits holds whom an operation waits for
  have through: ∀i oi,ops[i]? =some oi->(as.getD i 0).testBit x.idx=true-> ∃e∈oi.after,Region.binds .any e=true /\ (e.on=x.idx \/ (as.getD e.on 0).testBit x.idx=true):=by
   intro i oi hi hb;rw [uB i oi hi] at hb
   rcases iM _ _ hb with h5 | ⟨e,he,lT,h5⟩
   ·simp at h5
   ·refine⟨e,by simpa using he,lT,h5.imp id fun h6=>?_⟩;have h7:(as.take i).getD e.on 0=as.getD e.on 0 \/ (as.take i).getD e.on 0=0:=by
     simp only [alk,alU]
     split
     ·exact .inl rfl
     ·exact .inr rfl
    rcases h7 with h7 | h7
    ·rw [h7] at h6;exact h6
    ·rw [h7] at h6;simp at h6
  cases Ac:ij P x.o.op with
  | true=>
   have ji:x.ro=true:=Bp.trans Ac;have go: ∀(v:Value) (S:World->Prop) (C':dE),(∀j,j < ops.size->j≠x.idx->done.testBit j=false->(as.getD j 0).testBit x.idx=false-> ∀w w',Gd P ops as C' j w w'->S w->S w')->
     YieldsIf P ops S x.o v a->S w->cL P .any ops as Q C' rs.length (cI ops.size (done ||| 2 ^ x.idx)) (a.put x.o.dst v) w->
     cL P .any ops as Q C' (rs.length+1) (cI ops.size done) a w:=by
    intro v S C' Bq hy hS wA;refine mP (S:=S) (lg as ops.size x.idx) h0 (Region.noSelect_spec hs) (fun c a w hq=>absurd hq (hQ c _ w)) ?_ (by simp [lg]) _ _ _ _ ?_ ?_ ?_ oq hy hS (by rw [iO];exact wA)
    ·intro j hj;obtain⟨h1,oj,h2,h3⟩:=mem_ready.1 hj;have dZ:=(als.1 h2).1;rw [cP,if_pos dZ] at h1;by_cases mQ:j=x.idx
     ·exact mQ
     ·simp only [mQ,decide_false,amY,amI,Bool.not_eq_false'] at h1;obtain⟨e,he,lT,h5⟩:=through j oj h2 h1;have h6:=h3 e he lT;rw [cP] at h6
      split at h6
      ·simp only [alD,alS,decide_eq_false_iff_not] at h6
       rcases h5 with h5 | h5
       ·exact absurd h5 h6.1
       ·rw [h6.2] at h5;cases h5
      ·cases h6
    ·intro j oj hj mQ qj dz;have dZ:=(als.1 hj).1;rw [aQ,if_pos dZ] at qj;obtain⟨y,wB,e1,e2,e3,e4,e5⟩:=jz j oj mQ hj qj;have kV:=eE gO wB;rw [ji] at kV;simp only [alD,al9] at kV
     rcases kV.1 with h1 | h1
     ·rw [e4] at h1
      rcases pw _ _ h1 with h2 | ⟨e,he,lT,h2⟩
      ·simp at h2
      ·exact absurd h2 (dz e (by simpa using he) lT)
     ·rw [e2] at h1;exact h1
    ·intro j hj;rw [aQ] at hj
     split at hj
     ·rename_i dZ
      rw [cP,if_pos dZ];have aW:j≠x.idx:=by intro e;rw [e,vr] at hj;cases hj
      have:(as.getD j 0).testBit x.idx=false:=by
       cases rE:(as.getD j 0).testBit x.idx with
       | false=>rfl
       | true=>
        have:=dd (fR j hj).2 rE;rw [vr] at this;cases this
      simp only [aW,decide_false,amY,amI,alS,this]
     ·cases hj
    ·intro j hj Df;rw [aQ] at hj
     split at hj
     ·rename_i dZ
      rw [cP,if_pos dZ] at Df;simp only [alD,alS,decide_eq_false_iff_not] at Df;exact Bq j dZ Df.1 hj Df.2
     ·cases hj
   rcases bW with ⟨v,l',lO,fp,yD,h1,Br,h2,h3,h4,h5⟩ | ⟨l',lO,h1,h3,h4,h5⟩ | ⟨hn,h1,h2⟩
   ·have WI: ∀y∈C,y∈j8 (eB x) fp C:=fun y hy=>by simp [j8,eB,hy]
    refine fQ WI _ _ _ _ ?_;refine go v (IG P x.o.op fp w) _ ?_ (.inl ⟨h1,h2⟩) ?_ (ih ?_ yE h3 h4 h5 fun a' l' w' ho=>hK a' l' w' (k9.trans (jf ho)))
    ·intro j dZ mQ qj uC w1 w2 hg aT
     rcases aT with aT | ⟨aT,hx⟩ | ⟨aT,hc⟩
     ·exact .inl aT
     ·have eA:ops[j]? =some ops[j]:=by simp [dZ]
      obtain⟨y,wB,e1,e2,e3,e4,e5⟩:=jz j ops[j] mQ eA qj;have kV:=eE gO wB;rw [ji] at kV;simp only [alD,al9] at kV
      rcases kV.2 with ((h7 | h7) | h7) | h7
      ·exact .inl h7
      ·rw [aT] at h7;cases h7
      ·rw [e3,uC] at h7;cases h7
      ·refine .inr (.inl ⟨aT,hx.trans (hg.1 ?_)⟩);simp only [lB,eA];rw [<-e5];exact h7
     ·refine .inr (.inr ⟨aT,fun z hz=>?_⟩);exact hg.2 (x.idx,z) (by simp [j8,eB,hz]) uC (hc z hz)
    ·unfold IG
     cases hb:cQ P x.o.op with
     | true=>exact .inr (.inr ⟨rfl,Br⟩)
     | false=>exact .inr (.inl ⟨rfl,Ext.refl w⟩)
    ·intro y hy;simp only [j8,eB,alg,alu] at hy
     rcases hy with ⟨z,hz,rfl⟩ | hy
     ·exact Br z hz
     ·exact hC y hy
   ·exact go undef (fun _=>True) C (fun _ _ _ _ _ _ _ _ _=>trivial) (.inr ⟨h1,rfl⟩) trivial (ih hC yE h3 h4 h5 fun a' l' w' ho=>hK a' l' w' (k9.trans (jf ho)))
   ·have lC:ij P x.o.op=false:=hn;rw [Ac] at lC;cases lC
  | false=>
   have ji:x.ro=false:=Bp.trans Ac;refine⟨fun h1=>(by rw [h1] at oq;cases oq),fun i hi=>?_⟩;have Ig:i=x.idx:=by
    obtain⟨h1,oi,h2,h3⟩:=mem_ready.1 hi;have pZ:=(als.1 h2).1;rw [aQ,if_pos pZ] at h1;by_cases aW:i=x.idx
    ·exact aW
    ·exfalso
     obtain⟨y,wB,e1,e2,e3,e4,e5⟩:=jz i oi aW h2 h1;have kV:=eE gO wB;rw [ji] at kV;simp only [alD] at kV;have WJ:=kV.1;rw [e3] at WJ;obtain⟨e,he,lT,h5⟩:=through i oi h2 WJ;have h6:=h3 e he lT;rw [aQ] at h6
     split at h6
     ·rcases h5 with h5 | h5
      ·rw [h5,vr] at h6;cases h6
      ·have:=dd (fR _ h6).2 h5;rw [vr] at this;cases this
     ·cases h6
   subst Ig;unfold wpOp;simp only [h0];rw [iO]
   rcases bW with ⟨v,l',lO,fp,yD,h1,Br,h2,h3,h4,h5⟩ | ⟨l',lO,h1,h3,h4,h5⟩ | ⟨hn,h1,h2⟩
   ·have uD:Region.wanted x.o (yielded ops a.tmps)=true:=h1;rw [if_pos uD];refine .inl ?_;unfold Oper.wp;have Mo:(execOp a.eval x.o).run P w=.ok (.value v) w:=h2 w (by
     unfold IG
     cases hb:cQ P (eB x).o.op with
     | true=>exact .inr (.inr ⟨rfl,Br⟩)
     | false=>exact .inr (.inl ⟨rfl,Ext.refl w⟩))
    rw [Mo];refine⟨Gd.refl,?_⟩;refine fQ (C':=j8 (eB x) fp C) (fun y hy=>by simp [j8,eB,hy]) _ _ _ _ (ih ?_ yE h3 h4 h5 fun a' l' w' ho=>hK a' l' w' (k9.trans (jf ho)));intro y hy;simp only [j8,eB,alg,alu] at hy
    rcases hy with ⟨z,hz,rfl⟩ | hy
    ·exact Br z hz
    ·exact hC y hy
   ·have uD:Region.wanted x.o (yielded ops a.tmps)=false:=h1;rw [if_neg (by rw [uD];simp)];exact⟨Gd.refl,ih hC yE h3 h4 h5 fun a' l' w' ho=>hK a' l' w' (k9.trans (jf ho))⟩
   ·have uD:Region.wanted x.o (yielded ops a.tmps)=true:=h1;rw [if_pos uD];refine .inl (Oper.wp_mono ?_ (h2 Q));rintro a' w' ⟨nY,Qj,v,l',lO,rfl,h3,h4,h5⟩;have ik: ∀y∈C,(as.getD x.idx 0).testBit y.1=false->dY w' y.2:=by
     intro y hy hb
     cases ig:eD x.o.op with
     | true=>exact(nY ig).hold (hC y hy)
     | false=>
      have:=Qj ig;simp only [wv,eB] at this;exact this y hy (by rw [<-sZ];exact hb)
    refine⟨⟨fun hh=>nY ?_,fun y hy hb _=>ik y hy hb⟩,?_⟩
    ·have:gT P x.o=true:=by simpa [lB,h0] using hh
     have lC:ij P x.o.op=false:=hn;simp only [gT,lC,anW] at this;exact this
    ·refine lf (C2:=oe (eB x) C) trivial _ _ _ _ ?_ (ih ?_ yE h3 h4 h5 fun a' l' w' ho=>hK a' l' w' (k9.trans (jf ho)))
     ·intro y hy
      cases hb:x.eZ.testBit y.1 with
      | false=>exact .inl (by simp [oe,eB,hy,hb])
      | true=>
       refine .inr fun i hi=>?_;rw [aQ] at hi
       split at hi
       ·rename_i pZ
        simp only [alY,anj,al7,decide_eq_false_iff_not] at hi;have hY:ops[i]? =some ops[i]:=by simp [pZ]
        obtain⟨z,hz,e1,e2,e3,e4,e5⟩:=jz i ops[i] (fun e=>hi.2 e.symm) hY hi.1;have kV:=eE gO hz;rw [ji] at kV;simp only [alD] at kV;right;rw [<-e3];exact dd (alB kV.2) hb
       ·cases hi
     ·intro y hy;simp only [oe,eB,ama,alS] at hy;exact ik y hy.1 (by rw [sZ];exact hy.2)
end
end Go.Den
end

section
namespace Go.Den
variable {ds:List Deferred}
inductive Tr where
 | nil
 | row (i:Nat) (t:Tr)
 | both (a b:Tr)
def VP (P:Program) (N:Nat) (ops:Array Oper) (split:Bool) (rows:List Row):Tr->Env->dV->dE->World->(Env->World->Prop)->Prop
 | .nil,l,_,_,w,K=>K l w
 | .row i t,l,fl,C,w,K=>match rows[i]? with
  | some x=>oh P N ops split (eB x) l fl C w fun l' lO C' w'=>VP P N ops split rows t l' lO C' w' K
  | none=>False
 | .both a b,l,fl,C,w,K=>VP P N ops split rows a l fl C w K /\ VP P N ops split rows b l fl C w K
def Tr.uE:Tr->List Nat
 | .nil=> []
 | .row i _=> [i]
 | .both a b=>a.uE++b.uE
def Tr.depth:Tr->Nat
 | .nil=>0
 | .row _ t=>t.depth+1
 | .both a b=>Nat.max a.depth b.depth
def rest (rows:List Row) (done i:Nat):List Row:=rows.filter fun y=> !Nat.testBit done y.idx && !Nat.beq y.idx i
def cover (rows:List Row) (done:Nat) (hs:List Nat):Bool:=
 rows.all fun y=>Nat.testBit done y.idx || (hs.any fun h=>Nat.beq h y.idx) || !Nat.beq (y.eZ ||| done) done
def jI (P:Program) (rows:List Row):Nat:=rows.foldl (fun s x=>cond (cQ P x.o.op) (s ||| 2 ^ x.idx) s) 0
def IJ (lm:Nat) (x:Row) (ys:List Row):Bool:=ys.all fun y=>y.hd || Nat.beq ((x.eZ &&& lm) ||| y.eZ) y.eZ
def rF (P:Program) (ops:Array Oper) (rows:List Row):Tr->Bool->Nat->Bool
 | .nil,c,done=>c && (List.range ops.size).all fun i=>Nat.testBit done i
 | .row i t,c,done=>match rows[i]? with
  | none=>false
  | some x=>Nat.beq (x.eZ ||| done) done && !Nat.testBit done i &&
    (match x.ro with
    | true=>c && mR P ops x (rest rows done i)
    | false=>(!c || cover rows done [i]) && IJ (jI P rows) x (rest rows done i)) && rF P ops rows t true (done ||| 2 ^ i)
 | .both a b,c,done=>(!c || cover rows done (a.uE++b.uE)) && rF P ops rows a false done && rF P ops rows b false done
def IK:List Tr->Tr
 | []=>.nil
 | [t]=>t
 | t :: r=>.both t (IK r)
def RG (rows:List Row):Nat->Nat->Tr
 | 0,_=>.nil
 | f+1,done=>match rows.filter (fun x=> !Nat.testBit done x.idx && Nat.beq (x.eZ ||| done) done) with
  | []=>.nil
  | xs=>match xs.find? (·.ro) with
   | some x=>.row x.idx (RG rows f (done ||| 2 ^ x.idx))
   | none=>IK (xs.map fun x=>.row x.idx (RG rows f (done ||| 2 ^ x.idx)))
def Ad (P:Program) (ops:Array Oper):List Row:=rowsOf P 0 ops.toList (hZ ops.toList [])
def MU (P:Program) (ops:Array Oper):Tr:=RG (Ad P ops) ops.size 0
def Dy (P:Program) (ops:Array Oper):Bool:=
 Region.noSelect ops && Nat.ble (MU P ops).depth ops.size && rF P ops (Ad P ops) (MU P ops) true 0
section
variable {P:Program} {N:Nat} {ops:Array Oper}
theorem mS {o:Oper} {a:Act} {v:Value} (ho:o∈ops.toList):lQ (dstsOf ops.toList) a (a.put o.dst v):=by
 intro t ht
 cases hd:o.dst with
 | none=>rfl
 | some d=>
  rw [gP,if_neg];intro e;subst e;exact ht (by simp only [dstsOf,anR];exact⟨o,ho,hd⟩)
theorem gI (P:Program): ∀(os:List Oper) (ms:List Nat) (i:Nat),os.length=ms.length->(rowsOf P i os ms).length=os.length
 | [],ms,i,h=>by cases ms <;> simp [rowsOf]
 | o :: os,[],i,h=>by simp at h
 | o :: os,m :: ms,i,h=>by simp [rowsOf,gI P os ms (i+1) (by simpa using h)]
theorem j9 (P:Program): ∀(os:List Oper) (ms:List Nat) (i j:Nat) (x:Row),(rowsOf P i os ms)[j]? =some x->x.idx=i+j
 | [],ms,i,j,x,h=>by cases ms <;> simp [rowsOf] at h
 | o :: os,[],i,j,x,h=>by simp [rowsOf] at h
 | o :: os,m :: ms,i,0,x,h=>by simp [rowsOf] at h;subst h;rfl
 | o :: os,m :: ms,i,j+1,x,h=>by
  have:=j9 P os ms (i+1) j x (by simpa [rowsOf] using h);omega
theorem rG (os:List Oper):(hZ os []).length=os.length:=by
 obtain⟨t,h1,h2⟩:=om os [];rw [h1];simp [h2]
theorem uF {rows:List Row} {done:Nat}: ∀{t:Tr},rF P ops rows t false done=true->0 < t.depth /\ ∃i x,rows[i]? =some x /\ Nat.beq (x.eZ ||| done) done=true /\ done.testBit i=false
 | .nil,h=>by simp [rF] at h
 | .row i t,h=>by
  simp only [rF] at h
  cases lD:rows[i]? with
  | none=>rw [lD] at h;cases h
  | some x=>
   rw [lD] at h;simp only [alD,alS] at h;exact⟨by simp [Tr.depth],i,x,lD,h.1.1.1,h.1.1.2⟩
 | .both a b,h=>by
  simp only [rF,alD] at h;obtain⟨h1,h2⟩:=uF h.1.2;exact⟨amV h1 (by simp only [Tr.depth];exact Nat.le_max_left _ _),h2⟩
theorem ec {as:List Nat} {rows:List Row} (bg:rows=rowsOf P 0 ops.toList as) {i:Nat} {x:Row} (lD:rows[i]? =some x):x.idx=i /\ ops[i]? =some x.o /\ as[i]? =some x.eZ:=by
 have hm:x∈rowsOf P 0 ops.toList as:=by rw [<-bg];exact ala lD
 obtain⟨j,h1,h2,h3,h4⟩:=iP hm;have:x.idx=i:=by
  rw [bg] at lD;have:=j9 P _ _ _ _ _ lD;omega
 rw [aml] at h3;rw [h3] at this;subst this;exact⟨h3,by simpa using h1,h2⟩
theorem IL {as:List Nat} (has:as=hZ ops.toList []) {rows:List Row} (bg:rows=rowsOf P 0 ops.toList as) {done:Nat} (fR: ∀j,done.testBit j=true->j < ops.size /\ as.getD j 0 ||| done=done)
  {i:Nat} {x:Row} (lD:rows[i]? =some x) (n9:Nat.beq (x.eZ ||| done) done=true) (vr:done.testBit i=false): ∃i,i∈Region.ready .any ops (cI ops.size done):=by
 obtain⟨hx,h0,ha⟩:=ec bg lD;have vu:x.eZ ||| done=done:=alB n9
 have Ab:i < ops.size:=(als.1 h0).1;have jh:as[i]? =some (fc (as.take i) x.o.after.toList):=by
  have:=jg ops.toList [] i x.o (by simpa using h0);rw [has]
  simpa using this
 refine⟨i,mem_ready.2 ⟨by rw [aQ,if_pos Ab];exact vr,x.o,h0,fun e he lT=>?_⟩⟩;have h2:x.eZ.testBit e.on=true:=by
  rw [alm (ha.symm.trans jh)];exact iN lT _ _ (.inl (by simpa using he))
 have h3:=dd vu h2;rw [aQ,if_pos (fR _ h3).1];exact h3
theorem lk {rows:List Row} {x:Row} (hx:x∈rows) (hl:cQ P x.o.op=true):(jI P rows).testBit x.idx=true:=by
 have key: ∀(rows:List Row) (s:Nat),(x∈rows \/ s.testBit x.idx=true)->(rows.foldl (fun s x=>cond (cQ P x.o.op) (s ||| 2 ^ x.idx) s) s).testBit x.idx=true:=by
  intro rows
  induction rows with
  | nil=>intro s h;rcases h with h | h;cases h;exact h
  | cons y rows ih=>
   intro s h;simp only [amQ];refine ih _ ?_
   rcases h with h | h
   ·rcases alF.1 h with rfl | h
    ·right;rw [hl];simp [alY]
    ·exact .inl h
   ·right
    cases cQ P y.o.op <;> simp [alY,h]
 exact key rows 0 (.inl hx)
theorem rH {Q:Exit->Act->World->Prop} (hP:A6 P) (as:List Nat) (has:as=hZ ops.toList []) (rows:List Row) (bg:rows=rowsOf P 0 ops.toList as) {done n:Nat} {C:dE} {a:Act} {w:World} {hs:List Nat}
  (fR: ∀j,done.testBit j=true->j < ops.size /\ as.getD j 0 ||| done=done) (tc:cover rows done hs=true) (aW: ∃i,i∈Region.ready .any ops (cI ops.size done))
  (h: ∀i∈hs,∀m,n=m+1->wpOp P ops Q i (fun a' w'=>Gd P ops as C i w w' /\ cL P .any ops as Q C m ((cI ops.size done).setIfInBounds i true) a' w') a w) (hn:0 < n):
  cL P .any ops as Q C n (cI ops.size done) a w:=by
 obtain⟨m,rfl⟩: ∃m,n=m+1:=⟨n - 1,by omega⟩;obtain⟨i0,GA⟩:=aW;refine⟨fun h1=>(by rw [h1] at GA;cases GA),fun i hi=>h i ?_ m rfl⟩;obtain⟨h1,oi,h2,h3⟩:=mem_ready.1 hi;have pZ:=(als.1 h2).1;rw [aQ,if_pos pZ] at h1;have WK:i < rows.length:=by
  rw [bg,gI P _ _ _ (by rw [has,rG])];simpa using pZ
 obtain⟨y,hy⟩: ∃y,rows[i]? =some y:=⟨_,alf WK⟩;obtain⟨hyi,hyo,hya⟩:=ec bg hy;have hc:=ame.1 tc y (ala hy);rw [hyi] at hc;simp only [al9,alS] at hc
 rcases hc with (hc | hc) | hc
 ·rw [h1] at hc;cases hc
 ·obtain⟨k,hk,he⟩:=anm.1 hc;rw [<-alB he];exact hk
 ·exfalso
  have jh:as[i]? =some (fc (as.take i) oi.after.toList):=by
   have:=jg ops.toList [] i oi (by simpa using h2);rw [has]
   simpa using this
  have abp:y.eZ=fc (as.take i) oi.after.toList:=alm (hya.symm.trans jh);have:y.eZ ||| done=done:=by
   apply amM;intro k;rw [alY]
   cases hk:y.eZ.testBit k with
   | false=>simp
   | true=>
    rw [abp] at hk
    rcases iM _ _ hk with h5 | ⟨e,he,lT,h5⟩
    ·simp at h5
    ·have h6:=h3 e (by simpa using he) lT;rw [aQ] at h6
     split at h6
     ·have MV:done.testBit k=true:=by
       rcases h5 with h5 | h5
       ·rw [<-h5];exact h6
       ·have h7:(as.take i).getD e.on 0=as.getD e.on 0 \/ (as.take i).getD e.on 0=0:=by
         simp only [alk,alU]
         split
         ·exact .inl rfl
         ·exact .inr rfl
        rcases h7 with h7 | h7
        ·rw [h7] at h5;exact dd (fR _ h6).2 h5
        ·rw [h7] at h5;simp at h5
      simp [MV]
     ·cases h6
  rw [this] at hc;have hrf:Nat.beq done done=true:=by simp
  rw [hrf] at hc;cases hc
theorem vH {split:Bool} (hP:A6 P) (hs:Region.noSelect ops=true) {Q:Exit->Act->World->Prop} (hQ: ∀c a w,¬Q (.panic c) a w)
  (as:List Nat) (has:as=hZ ops.toList []) (rows:List Row) (bg:rows=rowsOf P 0 ops.toList as) {a0:Act} {K:Env->World->Prop}
  (hK: ∀a' l' w',lQ (dstsOf ops.toList) a0 a'->bX ds N a' l'->K l' w'->Q .normal a' w'):
  ∀(t:Tr) (c:Bool) (done n:Nat) {l:Env} {fl:dV} {C:dE} {w:World} {a:Act},t.depth<=n->
  (∀j,done.testBit j=true->j < ops.size /\ as.getD j 0 ||| done=done)->(∀x∈C,dY w x.2 /\ (jI P rows).testBit x.1=true)->rF P ops rows t c done=true->
  bX ds N a l->jy a fl->lQ (dstsOf ops.toList) a0 a->VP P N ops split rows t l fl C w K->
  (c=true->cL P .any ops as Q C n (cI ops.size done) a w) /\
  (c=false-> ∀i∈t.uE,∀m,n=m+1->wpOp P ops Q i (fun a' w'=>Gd P ops as C i w w' /\ cL P .any ops as Q C m ((cI ops.size done).setIfInBounds i true) a' w') a w)
 | .nil,c,done,n,l,fl,C,w,a,hn,fR,hC,hB,hl,dh,fm,h=>by
  simp only [rF,alD] at hB;have hr:Region.ready .any ops (cI ops.size done)= []:=by
   refine amR.2 fun j hj=>?_;obtain⟨h1,oj,h2,_⟩:=mem_ready.1 hj;have av:=(als.1 h2).1;rw [aQ,if_pos av] at h1;have:=ame.1 hB.2 j (al5.2 av);rw [h1] at this;cases this
  refine⟨fun _=>?_,fun hc=>by rw [hc] at hB;cases hB.1⟩
  cases n with
  | zero=>exact⟨hr,hK a l w fm hl h⟩
  | succ n=>exact⟨fun _=>hK a l w fm hl h,fun i hi=>by rw [hr] at hi;cases hi⟩
 | .both t1 t2,c,done,n,l,fl,C,w,a,hn,fR,hC,hB,hl,dh,fm,h=>by
  simp only [rF,alD] at hB;obtain⟨⟨tc,ZS⟩,hB2⟩:=hB;simp only [Tr.depth] at hn;have A7:t1.depth<=n:=amO (Nat.le_max_left _ _) hn;have Ii:t2.depth<=n:=amO (Nat.le_max_right _ _) hn;have i1:=(vH hP hs hQ as has rows bg hK t1 false done n A7 fR hC ZS hl dh fm h.1).2 rfl;have i2:=(vH hP hs hQ as has rows bg hK t2 false done n Ii fR hC hB2 hl dh fm h.2).2 rfl;have bz: ∀i∈(Tr.both t1 t2).uE,∀m,n=m+1->wpOp P ops Q i (fun a' w'=>Gd P ops as C i w w' /\ cL P .any ops as Q C m ((cI ops.size done).setIfInBounds i true) a' w') a w:=by
   intro i hi m hm;simp only [Tr.uE,alg] at hi;exact hi.elim (fun h=>i1 i h m hm) (fun h=>i2 i h m hm)
  refine⟨fun hc=>?_,fun _=>bz⟩;subst hc;simp only [anK,anW] at tc;have WL:rF P ops rows (.both t1 t2) false done=true:=by simp [rF,ZS,hB2]
  obtain⟨h1,i,x,lD,n9,vr⟩:=uF WL;exact rH hP as has rows bg fR tc (IL has bg fR lD n9 vr) bz (by simp only [Tr.depth] at h1;omega)
 | .row i t,c,done,n,l,fl,C,w,a,hn,fR,hC,hB,hl,dh,fm,h=>by
  simp only [rF] at hB;simp only [VP] at h
  cases lD:rows[i]? with
  | none=>rw [lD] at h;exact h.elim
  | some x=>
  rw [lD] at h hB;simp only [alD,alS] at hB;simp only at h;have hxi:x.idx=i:=by
   rw [bg] at lD;have:=j9 P _ _ _ _ _ lD;omega
  subst hxi;obtain⟨⟨⟨n9,vr⟩,gO⟩,yE⟩:=hB;have vu:x.eZ ||| done=done:=alB n9
  have lh: ∀y∈rowsOf P 0 ops.toList as,ops[y.idx]? =some y.o /\ as[y.idx]? =some y.eZ /\ y.dir=uy y.o.after.toList /\ y.ro=ij P y.o.op /\ y.hd=gT P y.o:=by
   intro y hy;obtain⟨j,h1,h2,h3,h4⟩:=iP hy;rw [aml] at h3;rw [h3];exact⟨by simpa using h1,h2,h4⟩
  obtain⟨h0,WD,WE,Bp,WG⟩:=lh x (by rw [<-bg];exact ala lD);have sZ:as.getD x.idx 0=x.eZ:=by simp [WD]
  have Ab:x.idx < ops.size:=(als.1 h0).1;have jh: ∀j oj,ops[j]? =some oj->as[j]? =some (fc (as.take j) oj.after.toList):=by
   intro j oj hj;have:=jg ops.toList [] j oj (by simpa using hj);rw [has]
   simpa using this
  have uB: ∀j oj,ops[j]? =some oj->as.getD j 0=fc (as.take j) oj.after.toList:=fun j oj hj=>by simp [jh j oj hj]
  have oq:x.idx∈Region.ready .any ops (cI ops.size done):=by
   refine mem_ready.2 ⟨by rw [aQ,if_pos Ab];exact vr,x.o,h0,fun e he lT=>?_⟩;have h2:x.eZ.testBit e.on=true:=by
    rw [<-sZ,uB _ _ h0];exact iN lT _ _ (.inl (by simpa using he))
   have h3:=dd vu h2;rw [aQ,if_pos (fR _ h3).1];exact h3
  have jz: ∀j oj,j≠x.idx->ops[j]? =some oj->done.testBit j=false-> ∃y∈rest rows done x.idx,y.idx=j /\ y.o=oj /\ y.eZ=as.getD j 0 /\ y.dir=uy oj.after.toList /\ y.hd=gT P oj:=by
   intro j oj aW hj qj;have dZ:=(als.1 hj).1;have Mp:j < rows.length:=by
    rw [bg,gI P _ _ _ (by rw [has,rG])];simpa using dZ
   obtain⟨y,hy⟩: ∃y,rows[j]? =some y:=⟨_,alf Mp⟩;have dF:y∈rows:=ala hy;have lE:y.idx=j:=by
    rw [bg] at hy;have:=j9 P _ _ _ _ _ hy;omega
   obtain⟨g1,g2,g3,g4,g5⟩:=lh y (by rw [<-bg];exact dF);rw [lE] at g1 g2;have e:y.o=oj:=alm (g1.symm.trans hj);refine⟨y,?_,lE,e,by simp [g2],by rw [g3,e],by rw [g5,e]⟩;simp only [rest,ama,alD,alS];refine⟨dF,by rw [lE];exact qj,?_⟩;rw [lE]
   cases hbq:Nat.beq j x.idx with
   | false=>rfl
   | true=>exact absurd (alB hbq) aW
  have Dx: ∀j,(done ||| 2 ^ x.idx).testBit j=true->j < ops.size /\ as.getD j 0 ||| (done ||| 2 ^ x.idx)=done ||| 2 ^ x.idx:=by
   intro j hj;simp only [alY,al9,al7,decide_eq_true_eq] at hj
   rcases hj with hj | hj
   ·obtain⟨g1,g2⟩:=fR j hj;exact⟨g1,by rw [<-ane,g2]⟩
   ·subst hj;exact⟨Ab,by rw [sZ,<-ane,vu]⟩
  have Bs:x.o∈ops.toList:=by
   obtain⟨hh,he⟩:=als.1 h0;rw [<-he];simp
  have Ij: ∃m,n=m+1 /\ t.depth<=m:=by
   simp only [Tr.depth] at hn;exact⟨n - 1,by omega,by omega⟩
  obtain⟨m,rfl,yF⟩:=Ij;have ih:=fun{l fl C w a}=>vH (split:=split) hP hs hQ as has rows bg hK t true (done ||| 2 ^ x.idx) m (l:=l) (fl:=fl) (C:=C) (w:=w) (a:=a) yF Dx;have bW:=rC hP hl dh h
  -- where a set of bits holds whom an operation waits for
  have through: ∀i oi,ops[i]? =some oi->(as.getD i 0).testBit x.idx=true-> ∃e∈oi.after,Region.binds .any e=true /\ (e.on=x.idx \/ (as.getD e.on 0).testBit x.idx=true):=by
   intro i oi hi hb;rw [uB i oi hi] at hb
   rcases iM _ _ hb with h5 | ⟨e,he,lT,h5⟩
   ·simp at h5
   ·refine⟨e,by simpa using he,lT,h5.imp id fun h6=>?_⟩;have h7:(as.take i).getD e.on 0=as.getD e.on 0 \/ (as.take i).getD e.on 0=0:=by
     simp only [alk,alU]
     split
     ·exact .inl rfl
     ·exact .inr rfl
    rcases h7 with h7 | h7
    ·rw [h7] at h6;exact h6
    ·rw [h7] at h6;simp at h6
  cases Ac:ij P x.o.op with
  | true=>
   have ji:x.ro=true:=Bp.trans Ac;rw [ji] at gO;simp only [alD] at gO;obtain⟨hc,gO⟩:=gO;subst hc;refine⟨fun _=>?_,fun hc=>by cases hc⟩;have go: ∀(v:Value) (S:World->Prop) (C':dE),(∀j,j < ops.size->j≠x.idx->done.testBit j=false->(as.getD j 0).testBit x.idx=false-> ∀w w',Gd P ops as C' j w w'->S w->S w')->
     YieldsIf P ops S x.o v a->S w->cL P .any ops as Q C' m (cI ops.size (done ||| 2 ^ x.idx)) (a.put x.o.dst v) w->
     cL P .any ops as Q C' (m+1) (cI ops.size done) a w:=by
    intro v S C' Bq hy hS wA;refine mP (S:=S) (lg as ops.size x.idx) h0 (Region.noSelect_spec hs) (fun c a w hq=>absurd hq (hQ c _ w)) ?_ (by simp [lg]) _ _ _ _ ?_ ?_ ?_ oq hy hS (by rw [iO];exact wA)
    ·intro j hj;obtain⟨h1,oj,h2,h3⟩:=mem_ready.1 hj;have dZ:=(als.1 h2).1;rw [cP,if_pos dZ] at h1;by_cases mQ:j=x.idx
     ·exact mQ
     ·simp only [mQ,decide_false,amY,amI,Bool.not_eq_false'] at h1;obtain⟨e,he,lT,h5⟩:=through j oj h2 h1;have h6:=h3 e he lT;rw [cP] at h6
      split at h6
      ·simp only [alD,alS,decide_eq_false_iff_not] at h6
       rcases h5 with h5 | h5
       ·exact absurd h5 h6.1
       ·rw [h6.2] at h5;cases h5
      ·cases h6
    ·intro j oj hj mQ qj dz;have dZ:=(als.1 hj).1;rw [aQ,if_pos dZ] at qj;obtain⟨y,wB,e1,e2,e3,e4,e5⟩:=jz j oj mQ hj qj;have kV:=eE gO wB;rw [ji] at kV;simp only [alD,al9] at kV
     rcases kV.1 with h1 | h1
     ·rw [e4] at h1
      rcases pw _ _ h1 with h2 | ⟨e,he,lT,h2⟩
      ·simp at h2
      ·exact absurd h2 (dz e (by simpa using he) lT)
     ·rw [e2] at h1;exact h1
    ·intro j hj;rw [aQ] at hj
     split at hj
     ·rename_i dZ
      rw [cP,if_pos dZ];have aW:j≠x.idx:=by intro e;rw [e,vr] at hj;cases hj
      have:(as.getD j 0).testBit x.idx=false:=by
       cases rE:(as.getD j 0).testBit x.idx with
       | false=>rfl
       | true=>
        have:=dd (fR j hj).2 rE;rw [vr] at this;cases this
      simp only [aW,decide_false,amY,amI,alS,this]
     ·cases hj
    ·intro j hj Df;rw [aQ] at hj
     split at hj
     ·rename_i dZ
      rw [cP,if_pos dZ] at Df;simp only [alD,alS,decide_eq_false_iff_not] at Df;exact Bq j dZ Df.1 hj Df.2
     ·cases hj
   rcases bW with ⟨v,l',lO,fp,yD,h1,Br,h2,h3,h4,h5⟩ | ⟨l',lO,h1,h3,h4,h5⟩ | ⟨hn,h1,h2⟩
   ·have WI: ∀y∈C,y∈j8 (eB x) fp C:=fun y hy=>by simp [j8,eB,hy]
    refine fQ WI _ _ _ _ ?_;refine go v (IG P x.o.op fp w) _ ?_ (.inl ⟨h1,h2⟩) ?_ ((ih ?_ yE h3 h4 (fm.trans (mS Bs)) h5).1 rfl)
    ·intro j dZ mQ qj uC w1 w2 hg aT
     rcases aT with aT | ⟨aT,hx⟩ | ⟨aT,hc⟩
     ·exact .inl aT
     ·have eA:ops[j]? =some ops[j]:=by simp [dZ]
      obtain⟨y,wB,e1,e2,e3,e4,e5⟩:=jz j ops[j] mQ eA qj;have kV:=eE gO wB;rw [ji] at kV;simp only [alD,al9] at kV
      rcases kV.2 with ((h7 | h7) | h7) | h7
      ·exact .inl h7
      ·rw [aT] at h7;cases h7
      ·rw [e3,uC] at h7;cases h7
      ·refine .inr (.inl ⟨aT,hx.trans (hg.1 ?_)⟩);simp only [lB,eA];rw [<-e5];exact h7
     ·refine .inr (.inr ⟨aT,fun z hz=>?_⟩);exact hg.2 (x.idx,z) (by simp [j8,eB,hz]) uC (hc z hz)
    ·unfold IG
     cases hb:cQ P x.o.op with
     | true=>exact .inr (.inr ⟨rfl,Br⟩)
     | false=>exact .inr (.inl ⟨rfl,Ext.refl w⟩)
    ·intro y hy;simp only [j8,eB,alg,alu] at hy
     rcases hy with ⟨z,hz,rfl⟩ | hy
     ·exact⟨Br z hz,lk (ala lD) (by
       cases p5:cQ P x.o.op with
       | true=>rfl
       | false=>rw [yD p5] at hz;cases hz)⟩
     ·exact hC y hy
   ·exact go undef (fun _=>True) C (fun _ _ _ _ _ _ _ _ _=>trivial) (.inr ⟨h1,rfl⟩) trivial ((ih hC yE h3 h4 (fm.trans (mS Bs)) h5).1 rfl)
   ·have lC:ij P x.o.op=false:=hn;rw [Ac] at lC;cases lC
  | false=>
   have ji:x.ro=false:=Bp.trans Ac;rw [ji] at gO;simp only [alD] at gO;obtain⟨tc,RI⟩:=gO;have bz:wpOp P ops Q x.idx (fun a' w'=>Gd P ops as C x.idx w w' /\ cL P .any ops as Q C m ((cI ops.size done).setIfInBounds x.idx true) a' w') a w:=by
    unfold wpOp;simp only [h0];rw [iO]
    rcases bW with ⟨v,l',lO,fp,yD,h1,Br,h2,h3,h4,h5⟩ | ⟨l',lO,h1,h3,h4,h5⟩ | ⟨hn,h1,h2⟩
    ·have uD:Region.wanted x.o (yielded ops a.tmps)=true:=h1;rw [if_pos uD];refine .inl ?_;unfold Oper.wp;have Mo:(execOp a.eval x.o).run P w=.ok (.value v) w:=h2 w (by
      unfold IG
      cases hb:cQ P (eB x).o.op with
      | true=>exact .inr (.inr ⟨rfl,Br⟩)
      | false=>exact .inr (.inl ⟨rfl,Ext.refl w⟩))
     rw [Mo];refine⟨Gd.refl,?_⟩;refine fQ (C':=j8 (eB x) fp C) (fun y hy=>by simp [j8,eB,hy]) _ _ _ _ ((ih ?_ yE h3 h4 (fm.trans (mS Bs)) h5).1 rfl);intro y hy;simp only [j8,eB,alg,alu] at hy
     rcases hy with ⟨z,hz,rfl⟩ | hy
     ·exact⟨Br z hz,lk (ala lD) (by
       cases p5:cQ P x.o.op with
       | true=>rfl
       | false=>rw [yD p5] at hz;cases hz)⟩
     ·exact hC y hy
    ·have uD:Region.wanted x.o (yielded ops a.tmps)=false:=h1;rw [if_neg (by rw [uD];simp)];exact⟨Gd.refl,(ih hC yE h3 h4 (fm.trans (mS Bs)) h5).1 rfl⟩
    ·have uD:Region.wanted x.o (yielded ops a.tmps)=true:=h1;rw [if_pos uD];refine .inl (Oper.wp_mono ?_ (h2 Q));rintro a' w' ⟨nY,Qj,v,l',lO,rfl,h3,h4,h5⟩;have ik: ∀y∈C,(as.getD x.idx 0).testBit y.1=false->dY w' y.2:=by
      intro y hy hb
      cases ig:eD x.o.op with
      | true=>exact(nY ig).hold (hC y hy).1
      | false=>
       have:=Qj ig;simp only [wv,eB] at this;exact this y hy (by rw [<-sZ];exact hb)
     refine⟨⟨fun hh=>nY ?_,fun y hy hb _=>ik y hy hb⟩,?_⟩
     ·have:gT P x.o=true:=by simpa [lB,h0] using hh
      have lC:ij P x.o.op=false:=hn;simp only [gT,lC,anW] at this;exact this
     ·refine lf (C2:=oe (eB x) C) trivial _ _ _ _ ?_ ((ih ?_ yE h3 h4 (fm.trans (mS Bs)) h5).1 rfl)
      ·intro y hy
       cases hb:x.eZ.testBit y.1 with
       | false=>exact .inl (by simp [oe,eB,hy,hb])
       | true=>
        refine .inr fun i hi=>?_;rw [aQ] at hi
        split at hi
        ·rename_i pZ
         simp only [alY,anj,al7,decide_eq_false_iff_not] at hi;have hY:ops[i]? =some ops[i]:=by simp [pZ]
         obtain⟨z,hz,e1,e2,e3,e4,e5⟩:=jz i ops[i] (fun e=>hi.2 e.symm) hY hi.1;have kV:=ame.1 RI z hz;simp only [al9] at kV
         rcases kV with kV | kV
         ·left;simp only [lB,hY];rw [<-e5];exact kV
         ·right;rw [<-e3];exact dd (alB kV) (by rw [Nat.testBit_and,hb,(hC y hy).2];rfl)
        ·cases hi
      ·intro y hy;simp only [oe,eB,ama,alS] at hy;exact⟨ik y hy.1 (by rw [sZ];exact hy.2),(hC y hy.1).2⟩
   refine⟨fun hc=>?_,fun _ i hi m' gG=>?_⟩
   ·subst hc;simp only [anK,anW] at tc;exact rH hP as has rows bg fR tc ⟨_,oq⟩ (fun i hi m' gG=>by
     simp only [ali] at hi;subst hi;obtain rfl:m=m':=by omega
     exact bz) (by omega)
   ·simp only [Tr.uE,ali] at hi;subst hi;obtain rfl:m=m':=by omega
    exact bz
end
end Go.Den
end
