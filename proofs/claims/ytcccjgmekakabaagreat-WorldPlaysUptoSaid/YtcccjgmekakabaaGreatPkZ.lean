/-
  WorldPlays of layer 6 is true of the given program for every input that its guards let in (of bulk at most 1048576).
-/
import Derived.Test.YtcccjgmekakabaaGreatPkI
import Derived.Test.YtcccjgmekakabaaGreatRows
import Derived.ProofKit
import Derived.ShutString
import Derived.JoinedCond
import Derived.Deep.CondSized
set_option linter.unusedSimpArgs false
set_option linter.unusedVariables false
set_option maxRecDepth 100000
namespace Go.Proofs.YtcccjgmekakabaaGreat.worldPlays
open Go.ChangeShapes Go.WideShapes Go.ChangeAt Go.RowKit
open Go.ChangeMaps (open_string shut_string)
theorem own:ownKnob Tryz.prog.godebug=none:=by kernel_rfl
theorem laidOut:laidOutB Tryz.prog=true:=by kernel_rfl
mutual
theorem wj {H:Type}: ∀d:DataW H,Go.Den.eF d=Rows.uptoBulk d
 | .lit l=>by cases l <;> simp [Go.Den.eF,Rows.uptoBulk]
 | .nil=>by simp [Go.Den.eF,Rows.uptoBulk]
 | .ptr d=>by simp [Go.Den.eF,Rows.uptoBulk,wj d]
 | .slice a b=>by simp [Go.Den.eF,Rows.uptoBulk,pd a,pd b]
 | .agg a=>by simp [Go.Den.eF,Rows.uptoBulk,pd a]
 | .iface _ d=>by simp [Go.Den.eF,Rows.uptoBulk,wj d]
 | .map es=>by simp [Go.Den.eF,Rows.uptoBulk,Dd es]
 | .held _=>by simp [Go.Den.eF,Rows.uptoBulk]
theorem pd {H:Type}: ∀l:List (DataW H),Go.Den.eG l=Rows.uptoBulkAll l
 | []=>by simp [Go.Den.eG,Rows.uptoBulkAll]
 | d :: r=>by simp [Go.Den.eG,Rows.uptoBulkAll,wj d,pd r]
theorem Dd {H:Type}: ∀l:List (Lit×DataW H),Go.Den.im l=Rows.uptoBulkEntries l
 | []=>by simp [Go.Den.im,Rows.uptoBulkEntries]
 | x :: r=>by simp [Go.Den.im,Rows.uptoBulkEntries,Mm x,Dd r]
theorem Mm {H:Type}: ∀x:Lit×DataW H,Go.Den.qG x=Rows.uptoBulkEntry x
 | (l,d)=>by cases l <;> simp [Go.Den.qG,Rows.uptoBulkEntry,wj d]
end
set_option maxRecDepth 100000 in
theorem lifted (os:Os) (started:os.Started) (H:Type) (enc:TypeId×Value->H) (Fi:Stop.Interp):
  ReturnsInHanded {} Tryz.checked os 4 .any ((Rows.OpenSpec.upto Rows.worldPlaysSpec).pre6 enc Tryz.prog Tryz.f4 Rows.worldPlaysUptoRow.domain false) (((Rows.OpenSpec.upto Rows.worldPlaysSpec).at Fi).post enc Tryz.prog Tryz.f4 false true false false):=by
 refine returnsInHanded_of_cond_sized (C:=Tryz.checked) (k:=Rows.uptoSmall) rfl own started (by kernel_rfl) Tryz.func4
  (OpenSpec.witness (enc:=enc) (C:=Tryz.checked) (k:=Rows.uptoSmall) rfl false ⟨#[],#[.slice none 0 0,.slice none 0 0,.slice none 0 0],[]⟩ 8 (x:=([.nil,.nil,.nil],[],[])) (by kernel_rfl) (by kernel_rfl) (by kernel_rfl) (by kernel_rfl) (by kernel_rfl) (by kernel_rfl)) ?_
 intro W base args ds gs before Ru hW aj1 ZP dL _;have Qg: ∀(j:Nat) t v,Tryz.f4.params[j]? =some t->args[j]? =some v->Value.okWide Tryz.prog W .any base t v:=Ru;have hW':=hW;obtain⟨p,q,Yj,hV,rfl,hfz,bJ⟩:=hW;have hA:DataW.TrodAll enc Tryz.prog W 0 (fun _=>true) true Tryz.f4.params.toList args.toList ds p:=Yj;rw [Tryz.params4] at hA Qg;obtain⟨v0,ZY,d0,ds0,p0,q0,agY,rfl,rfl,h0,r0⟩:=trodAll_cons hA;obtain⟨v1,vs1,d1,ds1,p1,q1,rfl,rfl,rfl,h1,r1⟩:=trodAll_cons r0;obtain⟨v2,vs2,d2,ds2,p2,q2,rfl,rfl,rfl,h2,r2⟩:=trodAll_cons r1;obtain⟨rfl,rfl,rfl⟩:=trodAll_nil r2;obtain rfl:args=#[v0,v1,v2]:=by cases args;simp_all
 obtain⟨rfl,rfl⟩:=trodVars_none hV;obtain⟨a0,aff,afg,rfl⟩:=okWide_slice Tryz.underlying22 (Qg 0 22 v0 rfl rfl);obtain⟨a1,afh,afi,rfl⟩:=okWide_slice Tryz.underlying22 (Qg 1 22 v1 rfl rfl);obtain⟨a2,Mj,Ml,rfl⟩:=okWide_slice Tryz.underlying28 (Qg 2 28 v2 rfl rfl);have k0:=h0;have lt0: ∀x∈p0,x.block < W.heap.size:=by obtain⟨m,hm⟩:=k0;exact DataW.trod_lt m _ _ _ hm
 have k1:=h1;have lt1: ∀x∈p1,x.block < W.heap.size:=by obtain⟨m,hm⟩:=k1;exact DataW.trod_lt m _ _ _ hm
 have k2:=h2;have lt2: ∀x∈p2,x.block < W.heap.size:=by obtain⟨m,hm⟩:=k2;exact DataW.trod_lt m _ _ _ hm
 have ke:True /\ Go.Den.eF d0<=1048576 /\ Go.Den.eF d1<=1048576 /\ Go.Den.eF d2<=1048576:=by
  have:Rows.uptoBulkAll [d0,d1,d2]<=1048576:=by
   simpa [Rows.uptoSmall] using ZP
  rw [<-pd] at this;simp only [Go.Den.eG,Go.Den.eF,Array.length_toList] at this;refine⟨trivial,?_⟩;omega
 have mk: ∀(t:Nat) (d:DataW H) (ps:List MemPlace) (a:Option Addr) (len cap:Nat),Go.Den.eF d<=1048576->DataW.Trod enc Tryz.prog W 0 (fun _=>true) true t (.slice a len cap) d ps->(∀k∈d.weights Tryz.prog t,k<=reachBytes)-> ∃n,Go.Den.rK Tryz.prog W 1048576 n t [.slice a len cap]:=by
  intro t d ps a len cap Ir hd hw;obtain⟨fuel,hf⟩:=hd;exact⟨fuel,Go.Den.wR 1048576 fuel t _ d ps hf hw (.inr Ir)⟩
 obtain⟨n0,rd0⟩:=mk 22 d0 p0 a0 aff afg ke.2.1 h0 (fun k hk=>by
  have:=List.all_eq_true.1 dL k (DataW.weights_mem_each (j:=0) (t:=22) (d:=d0) (by kernel_rfl) rfl k hk)
  simpa using this)
 obtain⟨n1,rd1⟩:=mk 22 d1 p1 a1 afh afi ke.2.2.1 h1 (fun k hk=>by
  have:=List.all_eq_true.1 dL k (DataW.weights_mem_each (j:=1) (t:=22) (d:=d1) (by kernel_rfl) rfl k hk)
  simpa using this)
 obtain⟨n2,rd2⟩:=mk 28 d2 p2 a2 Mj Ml ke.2.2.2 h2 (fun k hk=>by
  have:=List.all_eq_true.1 dL k (DataW.weights_mem_each (j:=2) (t:=28) (d:=d2) (by kernel_rfl) rfl k hk)
  simpa using this)
 clear Yj Ru;refine(FW.Fq rd0 rd1 rd2).mono fun e W' ⟨he,bel⟩=>?_;subst he;exact⟨_,rfl,_,_,_,[],_,[],hW',trodAll_mk1 (shut_bool Tryz.underlying4 _),(trodAll_cons_mk (Below.trod laidOut (by kernel_rfl) (of_decide_eq_true (by kernel_rfl)) k0 bel lt0) (trodAll_cons_mk (Below.trod laidOut (by kernel_rfl) (of_decide_eq_true (by kernel_rfl)) k1 bel lt1) (trodAll_cons_mk (Below.trod laidOut (by kernel_rfl) (of_decide_eq_true (by kernel_rfl)) k2 bel lt2) trodAll_mk0))),rfl,bel.frame _,fun h=>by cases h⟩
theorem afj:Rows.worldPlaysUptoRow.holds Tryz.pinned (Rows.OpenSpec.upto Rows.worldPlaysSpec):=
 OpenClaim.holds_of_cond 4 Tryz.f4 rfl rfl rfl rfl rfl rfl rfl ⟨rfl,rfl,rfl,rfl,rfl⟩ rfl rfl rfl rfl rfl (by kernel_rfl) Tryz.func4 (by kernel_rfl)
  (of_decide_eq_true (by kernel_rfl)) (by unfold Func.isWrapper;first | (rw [if_pos (by decide+kernel)];kernel_rfl) | (rw [if_neg (by decide+kernel)];exact⟨rfl,rfl⟩))
  (fun os started H enc _ Fi=>by rw [OpenClaim.pre_of_none' rfl];exact lifted os started H enc Fi)
theorem proved:Rows.WorldPlaysUptoSaid:=afj
#print axioms proved
end Go.Proofs.YtcccjgmekakabaaGreat.worldPlays
