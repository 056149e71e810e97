/-
  WorldLoads of layer 6 is true of the given program for every input that its guards let in (of bulk at most 1048576).
-/
import Derived.Test.YtcccjgmekakabaaGreatPkH
import Derived.Test.YtcccjgmekakabaaGreatRows
import Derived.ProofKit
import Derived.ShutString
import Derived.JoinedCond
import Derived.Deep.CondSized
set_option linter.unusedSimpArgs false
set_option linter.unusedVariables false
set_option maxRecDepth 100000
namespace Go.Proofs.YtcccjgmekakabaaGreat.worldLoads
open Go.ChangeShapes Go.WideShapes Go.ChangeAt Go.RowKit
open Go.ChangeMaps (open_string shut_string)
theorem own:ownKnob Tryz.prog.godebug=none:=by kernel_rfl
theorem laidOut:laidOutB Tryz.prog=true:=by kernel_rfl
mutual
theorem tH {H:Type}: ∀d:DataW H,Go.Den.dZ d=Rows.uptoBulk d
 | .lit l=>by cases l <;> simp [Go.Den.dZ,Rows.uptoBulk]
 | .nil=>by simp [Go.Den.dZ,Rows.uptoBulk]
 | .ptr d=>by simp [Go.Den.dZ,Rows.uptoBulk,tH d]
 | .slice a b=>by simp [Go.Den.dZ,Rows.uptoBulk,ny a,ny b]
 | .agg a=>by simp [Go.Den.dZ,Rows.uptoBulk,ny a]
 | .iface _ d=>by simp [Go.Den.dZ,Rows.uptoBulk,tH d]
 | .map es=>by simp [Go.Den.dZ,Rows.uptoBulk,A0 es]
 | .held _=>by simp [Go.Den.dZ,Rows.uptoBulk]
theorem ny {H:Type}: ∀l:List (DataW H),Go.Den.dO l=Rows.uptoBulkAll l
 | []=>by simp [Go.Den.dO,Rows.uptoBulkAll]
 | d :: r=>by simp [Go.Den.dO,Rows.uptoBulkAll,tH d,ny r]
theorem A0 {H:Type}: ∀l:List (Lit×DataW H),Go.Den.gx l=Rows.uptoBulkEntries l
 | []=>by simp [Go.Den.gx,Rows.uptoBulkEntries]
 | x :: r=>by simp [Go.Den.gx,Rows.uptoBulkEntries,IQ x,A0 r]
theorem IQ {H:Type}: ∀x:Lit×DataW H,Go.Den.oN x=Rows.uptoBulkEntry x
 | (l,d)=>by cases l <;> simp [Go.Den.oN,Rows.uptoBulkEntry,tH d]
end
set_option maxRecDepth 100000 in
theorem lifted (os:Os) (started:os.Started) (H:Type) (enc:TypeId×Value->H) (Fi:Stop.Interp):
  ReturnsInHanded {} Tryz.checked os 3 .any ((Rows.OpenSpec.upto Rows.worldLoadsSpec).pre6 enc Tryz.prog Tryz.f3 Rows.worldLoadsUptoRow.domain false) (((Rows.OpenSpec.upto Rows.worldLoadsSpec).at Fi).post enc Tryz.prog Tryz.f3 false true false false):=by
 refine returnsInHanded_of_cond_sized (C:=Tryz.checked) (k:=Rows.uptoSmall) rfl own started (by kernel_rfl) Tryz.func3
  (OpenSpec.witness (enc:=enc) (C:=Tryz.checked) (k:=Rows.uptoSmall) rfl false ⟨#[],#[.slice none 0 0,.slice none 0 0,.int .i64 0,.int .i64 0],[]⟩ 8 (x:=([.nil,.nil,.lit (.int .i64 0),.lit (.int .i64 0)],[],[])) (by kernel_rfl) (by kernel_rfl) (by kernel_rfl) (by kernel_rfl) (by kernel_rfl) (by kernel_rfl)) ?_
 intro W base args ds gs before MT hW aer UM dw _
 have IS: ∀(j:Nat) t v,Tryz.f3.params[j]? =some t->args[j]? =some v->Value.okWide Tryz.prog W .any base t v:=MT
 have hW':=hW
 obtain⟨p,q,Tt,hV,rfl,hfz,bE⟩:=hW
 have hA:DataW.TrodAll enc Tryz.prog W 0 (fun _=>true) true Tryz.f3.params.toList args.toList ds p:=Tt
 rw [Tryz.params3] at hA IS
 obtain⟨v0,UX,d0,ds0,p0,q0,abh,rfl,rfl,h0,r0⟩:=trodAll_cons hA
 obtain⟨v1,vs1,d1,ds1,p1,q1,rfl,rfl,rfl,h1,r1⟩:=trodAll_cons r0
 obtain⟨v2,vs2,d2,ds2,p2,q2,rfl,rfl,rfl,h2,r2⟩:=trodAll_cons r1
 obtain⟨v3,vs3,d3,ds3,p3,q3,rfl,rfl,rfl,h3,r3⟩:=trodAll_cons r2
 obtain⟨rfl,rfl,rfl⟩:=trodAll_nil r3
 obtain rfl:args=#[v0,v1,v2,v3]:=by cases args;simp_all
 obtain⟨rfl,rfl⟩:=trodVars_none hV
 obtain⟨a0,ZQ,ZR,rfl⟩:=okWide_slice Tryz.underlying22 (IS 0 22 v0 rfl rfl)
 obtain⟨a1,ZS,ZT,rfl⟩:=okWide_slice Tryz.underlying23 (IS 1 23 v1 rfl rfl)
 obtain⟨a2,rfl,rfl,rfl,w2⟩:=open_int Tryz.underlying3 (IS 2 3 v2 rfl rfl) h2
 obtain⟨a3,rfl,rfl,rfl,w3⟩:=open_int Tryz.underlying3 (IS 3 3 v3 rfl rfl) h3
 have k0:=h0
 have lt0: ∀x∈p0,x.block < W.heap.size:=by obtain⟨m,hm⟩:=k0;exact DataW.trod_lt m _ _ _ hm
 have k1:=h1
 have lt1: ∀x∈p1,x.block < W.heap.size:=by obtain⟨m,hm⟩:=k1;exact DataW.trod_lt m _ _ _ hm
 have j7:True /\ Go.Den.dZ d0<=1048576 /\ Go.Den.dZ d1<=1048576:=by
  have:Rows.uptoBulkAll [d0,d1,DataW.lit (.int .i64 a2),DataW.lit (.int .i64 a3)]<=1048576:=by
   simpa [Rows.uptoSmall] using UM
  rw [<-ny] at this
  simp only [Go.Den.dO,Go.Den.dZ,Array.length_toList] at this
  refine⟨trivial,?_⟩
  omega
 have mk: ∀(t:Nat) (d:DataW H) (ps:List MemPlace) (a:Option Addr) (len cap:Nat),Go.Den.dZ d<=1048576->DataW.Trod enc Tryz.prog W 0 (fun _=>true) true t (.slice a len cap) d ps->(∀k∈d.weights Tryz.prog t,k<=reachBytes)-> ∃n,Go.Den.tj Tryz.prog W 1048576 n t [.slice a len cap]:=by
  intro t d ps a len cap Fl hd hw
  obtain⟨fuel,hf⟩:=hd
  exact⟨fuel,Go.Den.uj 1048576 fuel t _ d ps hf hw (.inr Fl)⟩
 obtain⟨n0,rd0⟩:=mk 22 d0 p0 a0 ZQ ZR j7.2.1 h0 (fun k hk=>by
  have:=List.all_eq_true.1 dw k (DataW.weights_mem_each (j:=0) (t:=22) (d:=d0) (by kernel_rfl) rfl k hk)
  simpa using this)
 obtain⟨n1,rd1⟩:=mk 23 d1 p1 a1 ZS ZT j7.2.2 h1 (fun k hk=>by
  have:=List.all_eq_true.1 dw k (DataW.weights_mem_each (j:=1) (t:=23) (d:=d1) (by kernel_rfl) rfl k hk)
  simpa using this)
 clear Tt MT
 refine(FW.CN rd0 rd1 w2 w3).mono fun e W' ⟨he,ZU⟩=>?_
 subst he
 exact⟨_,rfl,_,_,_,[],_,[],hW',trodAll_mk1 (shut_bool Tryz.underlying4 _),(trodAll_cons_mk (Below.trod laidOut (by kernel_rfl) (of_decide_eq_true (by kernel_rfl)) k0 ZU lt0) (trodAll_cons_mk (Below.trod laidOut (by kernel_rfl) (of_decide_eq_true (by kernel_rfl)) k1 ZU lt1) (trodAll_cons_mk (shut_int Tryz.underlying3 w2) (trodAll_cons_mk (shut_int Tryz.underlying3 w3) trodAll_mk0)))),rfl,ZU.frame _,fun h=>by cases h⟩
theorem ZV:Rows.worldLoadsUptoRow.holds Tryz.pinned (Rows.OpenSpec.upto Rows.worldLoadsSpec):=
 OpenClaim.holds_of_cond 3 Tryz.f3 rfl rfl rfl rfl rfl rfl rfl ⟨rfl,rfl,rfl,rfl,rfl⟩ rfl rfl rfl rfl rfl (by kernel_rfl) Tryz.func3 (by kernel_rfl)
  (of_decide_eq_true (by kernel_rfl)) (by unfold Func.isWrapper;first | (rw [if_pos (by decide+kernel)];kernel_rfl) | (rw [if_neg (by decide+kernel)];exact⟨rfl,rfl⟩))
  (fun os started H enc _ Fi=>by rw [OpenClaim.pre_of_none' rfl];exact lifted os started H enc Fi)
theorem proved:Rows.WorldLoadsUptoSaid:=ZV
#print axioms proved
end Go.Proofs.YtcccjgmekakabaaGreat.worldLoads
