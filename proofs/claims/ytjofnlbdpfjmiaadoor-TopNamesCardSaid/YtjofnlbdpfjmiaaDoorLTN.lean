/-
  TopNames: the walk: a number's text, an error's text, and what the law asks.
-/
import Derived.Test.YtjofnlbdpfjmiaaDoorFTN
import Derived.Test.YtjofnlbdpfjmiaaDoorDenO
import Derived.Test.YtjofnlbdpfjmiaaDoorDenR
set_option linter.unusedSimpArgs false
set_option linter.unusedVariables false
set_option maxRecDepth 100000
namespace Go.Proofs.YtjofnlbdpfjmiaaDoor.F
open Go Go.Den Go.Proofs

theorem und27' : (match Tryd.prog.underlying 27 with | some (.interface _) => true | _ => false) = true := by kernel_rfl
theorem und27 : ∃ ms : Array (String × TypeId), Tryd.prog.underlying 27 = some (.interface ms) := by
  have h := und27'
  split at h
  · exact ⟨_, by assumption⟩
  · cases h
theorem und23 : Tryd.prog.underlying 23 = some (.int .i64) := by kernel_rfl
theorem inf23 : (Tryd.prog.info? 23).map (fun i => i.comparable) = some true := by kernel_rfl

theorem equal_err (d : Nat) (w : World) (n : Int) : (Op.equalIn (d + 2) 27 (.iface 23 (.int .i64 n)) (.iface 23 (.int .i64 n))).run Tryd.prog w = .ok true w := by
  obtain ⟨ms, hu⟩ := und27
  obtain ⟨i, hi, hc⟩ := Option.map_eq_some_iff.1 inf23
  simp [Op.equalIn, run_underlying hu, run_underlying und23, typeInfo, hi, hc]

/-- Two errors that are numbers. -/
theorem eqErr {w : World} {x y : Operand} {n : Int} {K : Bool → Prop} (hK : K true) : RunRo .b Tryd.prog (binSem .eql 27 x y (.iface 23 (.int .i64 n)) (.iface 23 (.int .i64 n))) w K := by
  refine ⟨true, fun w' _ => ?_, hK⟩
  have e : (Op.equal 27 (.iface 23 (.int .i64 n)) (.iface 23 (.int .i64 n))).run Tryd.prog w' = .ok true w' := equal_err 9998 w' n
  unfold binSem
  simp [eqGuard, binOp, e, Kd.inj]

theorem Fr.cell {S : List Nat} {w w' : World} (h : Fr S w w') {a : Addr} {v : Value} (hs : ∀ k ∈ S, k ≠ a.block) (hc : w.cell? a = some v) : w'.cell? a = some v := by
  have hlt := cell_lt hc
  have := h.block a.block hlt (fun hm => hs _ hm rfl)
  unfold World.cell? at hc ⊢
  rw [this]
  exact hc

section
variable {S : List Nat} {w0 w : World} {its : List Thing}

theorem small_spec {i : Int} (h0 : 0 ≤ i) (h1 : i < 10) {K : ByteArray → World → Prop} (hK : ∀ r : ByteArray, r.size = 1 → K r w) : c11 i w K := by
  refine c11_of ?_
  unfold f11
  refine ifT (by simpa using h1) ?_
  have e : IntKind.i64.wrap (i + 1) = i + 1 := wr64 (by omega) (by omega)
  rw [e]
  refine ⟨h0, by omega, ?_, hK _ ?_⟩
  · show i + 1 ≤ ((36 : Nat) : Int); omega
  · rw [ByteArray.size_extract]
    show min (i + 1).toNat 36 - i.toNat = 1
    omega

theorem itoa_small {i : Int} (h0 : 0 ≤ i) (h1 : i < 10) {K : ByteArray → World → Prop} (hK : ∀ r : ByteArray, r.size = 1 → K r w) : c8 i w K := by
  refine c8_of ?_
  unfold f8
  refine c9_of ?_
  unfold f9
  refine c10_of ?_
  unfold f10
  refine ifT rfl ?_
  have e1 : decide (0 ≤ i) = true := decide_eq_true h0
  have e2 : decide (i < 100) = true := decide_eq_true (by omega)
  refine ifT (by rw [e1, e2]; rfl) ?_
  exact small_spec h0 h1 hK

theorem digits_spec (hc : w.cell? ⟨0, 2, none⟩ = some (.int .u64 100)) {K : Int → World → Prop} (hK : K 3 w) : c12 100 w K := by
  refine c12_of ?_
  unfold f12
  refine c16_of ?_
  unfold f16
  refine ⟨fun x n w' => x = 100 ∧ n = 0 ∧ w' = w, ifF (by decide) ⟨rfl, rfl, rfl⟩, ?_⟩
  rintro x n w1 ⟨rfl, rfl, rfl⟩
  refine ⟨fun x n w' => x = 100 ∧ n = 0 ∧ w' = w1, ifF (by decide) ⟨rfl, rfl, rfl⟩, ?_⟩
  rintro x n w2 ⟨rfl, rfl, rfl⟩
  refine ⟨fun x n w' => x = 100 ∧ n = 0 ∧ w' = w2, ifF (by decide) ⟨rfl, rfl, rfl⟩, ?_⟩
  rintro x n w3 ⟨rfl, rfl, rfl⟩
  refine ⟨by decide, 7, rfl, ?_⟩
  refine c15_of ?_
  unfold f15
  refine ⟨by decide, ?_⟩
  have e : Int.fdiv (IntKind.i64.wrap ((IntKind.i64.wrap (0 + IntKind.i64.wrap ((7 : UInt8).toNat : Int))) * 78913)) (2 ^ (min (Int.toNat 18) 64)) = 2 := by decide
  rw [e]
  refine ⟨by decide, by decide, 100, hc, ?_⟩
  refine c17_of ?_
  unfold f17
  refine ifT (by decide) ?_
  exact hK

theorem itoa_100 (h : Hp S w0 w its) (hc : w.cell? ⟨0, 2, none⟩ = some (.int .u64 100)) {K : ByteArray → World → Prop} (hK : ∀ (r : ByteArray) w', r.size = 3 → Fr [] w w' → K r w') : c8 100 w K := by
  refine c8_of ?_
  unfold f8
  refine c9_of ?_
  unfold f9
  refine c10_of ?_
  unfold f10
  refine ifT rfl ?_
  refine ifF (by decide) ?_
  have h1 := Hp.begin_ w
  refine h1.nw (c := [_, _, _, _, _, _, _, _, _, _, _, _, _, _, _, _, _, _, _, _, _, _, _, _]) fun b w1 h1 => ?_
  simp only [List.nil_append] at h1
  refine ⟨fun u w' => u = 100 ∧ w' = w1, ifF (by decide) ⟨by decide, rfl⟩, ?_⟩
  rintro u w2 ⟨rfl, rfl⟩
  refine digits_spec (Fr.cell h1.fr (by simp) hc) ?_
  have e4 : IntKind.i64.wrap (1 + 3) = 4 := by decide
  rw [e4]
  refine ⟨by decide, by decide, by decide, by decide, ?_⟩
  show c13 ⟨some ⟨b, 1, none⟩, 3, 23⟩ 100 w2 _
  refine c13_of ?_
  unfold f13
  refine ⟨fun u nd m w' => u = 100 ∧ nd = 3 ∧ w' = w2, ⟨0, rfl, rfl, rfl⟩, ?_⟩
  rintro u nd m w3 ⟨rfl, rfl, rfl⟩
  refine ifF (by decide) ?_
  refine ⟨fun nd x w' => nd = 3 ∧ x = 100 ∧ w' = w3, ifF (by decide) ⟨rfl, by decide, rfl⟩, ?_⟩
  rintro nd x w4 ⟨rfl, rfl, rfl⟩
  refine ⟨fun nd x w' => nd = 1 ∧ x = 1 ∧ ∃ c : List Value, c.length = 24 ∧ (∃ n1 n2 : UInt8, c[2]? = some (.int .u8 n1.toNat) ∧ c[3]? = some (.int .u8 n2.toNat)) ∧ Hp [] w w' [tBlk b 34 c], ?_, ?_⟩
  · refine ifT (by decide) ⟨by decide, by decide, ?_⟩
    refine h1.dr fun w5 h1 => ?_
    refine ⟨by decide, 48, rfl, ?_⟩
    refine ⟨by decide, 48, rfl, ?_⟩
    rw [show IntKind.i64.wrap (3 - 1) = 2 by decide, show IntKind.i64.wrap (3 - 2) = 1 by decide]
    refine ⟨by decide, by show (2 : Int) < ((3 : Nat) : Int); decide, ?_⟩
    simp only [NN_some, Addr.add_none]
    refine h1.stv 0 rfl (by decide) rfl fun w6 h1 => ?_
    refine ⟨by decide, by show (1 : Int) < ((3 : Nat) : Int); decide, ?_⟩
    simp only [NN_some, Addr.add_none]
    refine h1.stv 0 rfl (by decide) rfl fun w7 h1 => ?_
    exact ⟨by decide, by decide, _, rfl, ⟨48, 48, rfl, rfl⟩, h1⟩
  rintro nd x w5 ⟨rfl, rfl, c, hcl, ⟨n1, n2, g1, g2⟩, h1⟩
  refine ifT (by decide) ?_
  refine ⟨by decide, by show (0 : Int) < ((3 : Nat) : Int); decide, ?_⟩
  simp only [NN_some, Addr.add_none]
  refine h1.stv 0 rfl (by omega) rfl fun w6 h1 => ?_
  refine ifF (by decide) ?_
  refine ⟨by decide, by decide, by decide, by decide, ?_⟩
  show RdB w6 ⟨some ⟨b, 1, none⟩, 3, 23⟩ _
  refine ⟨⟨#[49, n1, n2]⟩, ⟨rfl, .inr ⟨⟨b, 1, none⟩, rfl, fun j x hx => ?_⟩⟩, hK _ _ rfl h1.fr⟩
  obtain ⟨O, ⟨hO, _⟩⟩ := h1.see (i := 0) rfl
  rw [Addr.add_none, hO.cell]
  match j, hx with
  | 0, hx =>
    simp at hx; subst hx
    show (c.set 1 _)[1]? = _
    rw [List.getElem?_set_self (by omega)]; rfl
  | 1, hx =>
    simp at hx; subst hx
    rw [List.getElem?_set_ne (by omega)]; exact g1
  | 2, hx =>
    simp at hx; subst hx
    rw [List.getElem?_set_ne (by omega)]; exact g2
  | j + 3, hx => simp at hx

theorem names_spec (hc : w.cell? ⟨0, 2, none⟩ = some (.int .u64 100)) {K : Bool → World → Prop} (hK : ∀ w', Fr [] w w' → K true w') : f3 w K := by
  unfold f3
  have h := Hp.begin_ w
  refine h.nw (c := [_, _]) fun b w1 h => ?_
  simp only [List.nil_append] at h
  refine c4_of ?_
  unfold f4
  refine nns ?_
  refine h.ld (k := .i .i64) (x := 100) 0 rfl rfl ?_
  refine h.ld (k := .i .i64) (x := 100) 0 rfl rfl ?_
  refine c5_of ?_
  unfold f5
  refine eqErr ?_
  refine ifT rfl ?_
  refine c6_of ?_
  unfold f6
  refine h.dr fun w2 h => ?_
  refine nns ?_
  refine h.ld (k := .i .i64) (x := 100) 0 rfl rfl ?_
  refine nns ?_
  refine h.ld0 (k := .i .i64) (x := 7) 0 rfl rfl ?_
  refine c7_of ?_
  unfold f7
  refine itoa_100 h (Fr.cell h.fr (by simp) hc) fun r w3 hr f3 => ?_
  have h := h.keep f3
  refine ⟨?_, h.cel0 0 rfl rfl, ?_, ?_⟩
  · rw [hr]; decide
  · rw [ByteArray.size_append, hr]; decide
  refine itoa_small (by decide) (by decide) fun r2 hr2 => ⟨?_, ?_⟩
  · rw [ByteArray.size_append, ByteArray.size_append, hr, hr2]; decide
  have ne : ∀ x : ByteArray, x.size ≠ 0 → (!(x.toList == (⟨#[]⟩ : ByteArray).toList)) = true := by
    intro x hx
    rw [str_beq]
    have : strL x ≠ strL ⟨#[]⟩ := by
      intro he
      have := congrArg List.length he
      rw [strL_len, strL_len] at this
      exact hx this
    simp [this]
  refine ifT (ne _ (by rw [ByteArray.size_append, ByteArray.size_append, ByteArray.size_append, hr, hr2]; decide)) ?_
  refine c7_of ?_
  unfold f7
  refine itoa_small (by decide) (by decide) fun r3 hr3 => ⟨?_, ?_⟩
  · rw [hr3]; decide
  refine ifT (ne _ (by rw [ByteArray.size_append, hr3]; decide)) ?_
  refine ifT rfl ?_
  refine h.ld0 (k := .i .i64) (x := 7) 0 rfl rfl ?_
  exact hK _ h.fr
end
end Go.Proofs.YtjofnlbdpfjmiaaDoor.F
