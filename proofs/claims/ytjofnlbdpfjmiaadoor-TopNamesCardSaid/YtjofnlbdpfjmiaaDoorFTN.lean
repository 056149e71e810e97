/-
  Printed by den.py: for each Go function its formula, the kernel's equation, and the law of its call.
-/
import Derived.Test.YtjofnlbdpfjmiaaDoorProg
import Derived.Test.YtjofnlbdpfjmiaaDoorDenH
set_option linter.unusedVariables false
set_option maxRecDepth 100000
namespace Go.Proofs.YtjofnlbdpfjmiaaDoor.F
open Go Go.Den Go.Proofs

theorem okP : OkP Tryd.prog := ⟨by kernel_rfl, by kernel_rfl⟩

/-- A call of hindcast/hindcasttop.TopNames. -/
def c3 (w : World) (R : Bool → World → Prop) : Prop :=
  CallK Tryd.prog 3 [] [.one .b] w R

/-- A call of (*hindcast/api.Fault).Unwrap. -/
def c4 (f : Option Addr) (w : World) (R : Value → World → Prop) : Prop :=
  CallK Tryd.prog 4 [.pointer f] [.one .v] w R

/-- A call of hindcast/hindcasttop.num. -/
def c5 (e : Int) (w : World) (R : Int → World → Prop) : Prop :=
  CallK Tryd.prog 5 [.int .i64 e] [.one (.i .i64)] w R

/-- A call of (*hindcast/api.Fault).Error. -/
def c6 (f : Option Addr) (w : World) (R : ByteArray → World → Prop) : Prop :=
  CallK Tryd.prog 6 [.pointer f] [.one .s] w R

/-- A call of (hindcast/api.Errno).Error. -/
def c7 (e : Int) (w : World) (R : ByteArray → World → Prop) : Prop :=
  CallK Tryd.prog 7 [.int .i64 e] [.one .s] w R

/-- A call of strconv.Itoa. -/
def c8 (i : Int) (w : World) (R : ByteArray → World → Prop) : Prop :=
  CallK Tryd.prog 8 [.int .i64 i] [.one .s] w R

/-- A call of internal/strconv.Itoa. -/
def c9 (i : Int) (w : World) (R : ByteArray → World → Prop) : Prop :=
  CallK Tryd.prog 9 [.int .i64 i] [.one .s] w R

/-- A call of internal/strconv.FormatInt. -/
def c10 (i : Int) (base : Int) (w : World) (R : ByteArray → World → Prop) : Prop :=
  CallK Tryd.prog 10 [.int .i64 i, .int .i64 base] [.one .s] w R

/-- A call of internal/strconv.small. -/
def c11 (i : Int) (w : World) (R : ByteArray → World → Prop) : Prop :=
  CallK Tryd.prog 11 [.int .i64 i] [.one .s] w R

/-- A call of internal/strconv.numDigits. -/
def c12 (d : Int) (w : World) (R : Int → World → Prop) : Prop :=
  CallK Tryd.prog 12 [.int .u64 d] [.one (.i .i64)] w R

/-- A call of internal/strconv.formatBase10. -/
def c13 (a : Sl) (u : Int) (w : World) (R : World → Prop) : Prop :=
  CallK Tryd.prog 13 [.slice a.a a.len a.cap, .int .u64 u] [] w R

/-- A call of internal/strconv.formatBits. -/
def c14 (dst : Sl) (u : Int) (base : Int) (neg : Bool) (append_ : Bool) (w : World) (R : Sl → ByteArray → World → Prop) : Prop :=
  CallK Tryd.prog 14 [.slice dst.a dst.len dst.cap, .int .u64 u, .int .i64 base, .bool neg, .bool append_] [.one .sl, .one .s] w R

/-- A call of internal/strconv.log10Pow2. -/
def c15 (x : Int) (w : World) (R : Int → World → Prop) : Prop :=
  CallK Tryd.prog 15 [.int .i64 x] [.one (.i .i64)] w R

/-- A call of math/bits.Len64. -/
def c16 (x : Int) (w : World) (R : Int → World → Prop) : Prop :=
  CallK Tryd.prog 16 [.int .u64 x] [.one (.i .i64)] w R

/-- A call of internal/strconv.bool2[int]. -/
def c17 (b : Bool) (w : World) (R : Int → World → Prop) : Prop :=
  CallK Tryd.prog 17 [.bool b] [.one (.i .i64)] w R

/-- A call of internal/strconv.isPowerOfTwo. -/
def c18 (x : Int) (w : World) (R : Bool → World → Prop) : Prop :=
  CallK Tryd.prog 18 [.int .i64 x] [.one .b] w R

/-- A call of math/bits.TrailingZeros. -/
def c19 (x : Int) (w : World) (R : Int → World → Prop) : Prop :=
  CallK Tryd.prog 19 [.int .u64 x] [.one (.i .i64)] w R

/-- A call of math/bits.TrailingZeros32. -/
def c20 (x : Int) (w : World) (R : Int → World → Prop) : Prop :=
  CallK Tryd.prog 20 [.int .u32 x] [.one (.i .i64)] w R

/-- A call of math/bits.TrailingZeros64. -/
def c21 (x : Int) (w : World) (R : Int → World → Prop) : Prop :=
  CallK Tryd.prog 21 [.int .u64 x] [.one (.i .i64)] w R

/-- hindcast/hindcasttop.TopNames. -/
def f3 (w : World) (R : Bool → World → Prop) : Prop :=
  Nw (.cells #[.int .i64 7, .int .i64 100] 25) w fun (f : Addr) (w : World) =>
  c4 (some f) w fun (w_ : Value) (w : World) =>
  Ld (.i .i64) w (f.add 1) fun (Err : Int) =>
  c5 Err w fun (n_ : Int) (w : World) =>
  RunRo .b Tryd.prog (binSem .eql 27 (.tmp 13) (.tmp 14) (w_) (.iface 23 (.int .i64 100))) w fun (eq : Bool) =>
  if eq = true then (c6 (some f) w fun (r : ByteArray) (w : World) =>
  if (!(r.toList == (⟨#[]⟩ : ByteArray).toList)) = true then (c7 1 w fun (r2 : ByteArray) (w : World) =>
  if (!(r2.toList == (⟨#[]⟩ : ByteArray).toList)) = true then (if (n_ == 100) = true then (Ld (.i .i64) w f fun (At : Int) =>
  R (At == 7) w) else (R false w)) else (R false w)) else (R false w)) else (R false w)

theorem f3_eq (w : World) (R : Bool → World → Prop) :
    f3  w R = dFunc Tryd.prog ⟨[], []⟩ Tryd.f3 [] (fun v w' => viewRet [.one .b] v R w') w := by kernel_rfl

theorem c3_of {w : World} {R : Bool → World → Prop} (h : f3  w R) : c3  w R :=
  callK_of okP Tryd.func3 (by rw [← f3_eq]; exact h)

/-- (*hindcast/api.Fault).Unwrap. -/
def f4 (f : Option Addr) (w : World) (R : Value → World → Prop) : Prop :=
  NN f fun (f_ : Addr) =>
  Ld (.i .i64) w (f_.add 1) fun (Err : Int) =>
  R (.iface 23 (.int .i64 Err)) w

theorem f4_eq (f : Option Addr) (w : World) (R : Value → World → Prop) :
    f4 f w R = dFunc Tryd.prog ⟨[], []⟩ Tryd.f4 [.pointer f] (fun v w' => viewRet [.one .v] v R w') w := by kernel_rfl

theorem c4_of {f : Option Addr} {w : World} {R : Value → World → Prop} (h : f4 f w R) : c4 f w R :=
  callK_of okP Tryd.func4 (by rw [← f4_eq]; exact h)

/-- hindcast/hindcasttop.num. -/
def f5 (e : Int) (w : World) (R : Int → World → Prop) : Prop :=
  R e w

theorem f5_eq (e : Int) (w : World) (R : Int → World → Prop) :
    f5 e w R = dFunc Tryd.prog ⟨[], []⟩ Tryd.f5 [.int .i64 e] (fun v w' => viewRet [.one (.i .i64)] v R w') w := by kernel_rfl

theorem c5_of {e : Int} {w : World} {R : Int → World → Prop} (h : f5 e w R) : c5 e w R :=
  callK_of okP Tryd.func5 (by rw [← f5_eq]; exact h)

/-- (*hindcast/api.Fault).Error. -/
def f6 (f : Option Addr) (w : World) (R : ByteArray → World → Prop) : Prop :=
  Dr w fun (w : World) =>
  NN f fun (f_ : Addr) =>
  Ld (.i .i64) w (f_.add 1) fun (Err : Int) =>
  NN f fun (f_2 : Addr) =>
  Ld (.i .i64) w f_2 fun (At : Int) =>
  c7 Err w fun (r : ByteArray) (w : World) =>
  w.cell? f_2 = some (.int .i64 At) ∧ (r.size + (⟨#[32, 97, 116, 32]⟩ : ByteArray).size ≤ 9223372036854775807 ∧ (c8 At w fun (r2 : ByteArray) (w : World) =>
  (r ++ (⟨#[32, 97, 116, 32]⟩ : ByteArray)).size + r2.size ≤ 9223372036854775807 ∧ (R ((r ++ (⟨#[32, 97, 116, 32]⟩ : ByteArray)) ++ r2) w)))

theorem f6_eq (f : Option Addr) (w : World) (R : ByteArray → World → Prop) :
    f6 f w R = dFunc Tryd.prog ⟨[], []⟩ Tryd.f6 [.pointer f] (fun v w' => viewRet [.one .s] v R w') w := by kernel_rfl

theorem c6_of {f : Option Addr} {w : World} {R : ByteArray → World → Prop} (h : f6 f w R) : c6 f w R :=
  callK_of okP Tryd.func6 (by rw [← f6_eq]; exact h)

/-- (hindcast/api.Errno).Error. -/
def f7 (e : Int) (w : World) (R : ByteArray → World → Prop) : Prop :=
  c8 e w fun (r : ByteArray) (w : World) =>
  (⟨#[104, 105, 110, 100, 99, 97, 115, 116, 58, 32, 101, 114, 114, 111, 114, 32]⟩ : ByteArray).size + r.size ≤ 9223372036854775807 ∧ (R ((⟨#[104, 105, 110, 100, 99, 97, 115, 116, 58, 32, 101, 114, 114, 111, 114, 32]⟩ : ByteArray) ++ r) w)

theorem f7_eq (e : Int) (w : World) (R : ByteArray → World → Prop) :
    f7 e w R = dFunc Tryd.prog ⟨[], []⟩ Tryd.f7 [.int .i64 e] (fun v w' => viewRet [.one .s] v R w') w := by kernel_rfl

theorem c7_of {e : Int} {w : World} {R : ByteArray → World → Prop} (h : f7 e w R) : c7 e w R :=
  callK_of okP Tryd.func7 (by rw [← f7_eq]; exact h)

/-- strconv.Itoa. -/
def f8 (i : Int) (w : World) (R : ByteArray → World → Prop) : Prop :=
  c9 i w fun (r : ByteArray) (w : World) =>
  R r w

theorem f8_eq (i : Int) (w : World) (R : ByteArray → World → Prop) :
    f8 i w R = dFunc Tryd.prog ⟨[], []⟩ Tryd.f8 [.int .i64 i] (fun v w' => viewRet [.one .s] v R w') w := by kernel_rfl

theorem c8_of {i : Int} {w : World} {R : ByteArray → World → Prop} (h : f8 i w R) : c8 i w R :=
  callK_of okP Tryd.func8 (by rw [← f8_eq]; exact h)

/-- internal/strconv.Itoa. -/
def f9 (i : Int) (w : World) (R : ByteArray → World → Prop) : Prop :=
  c10 i 10 w fun (r : ByteArray) (w : World) =>
  R r w

theorem f9_eq (i : Int) (w : World) (R : ByteArray → World → Prop) :
    f9 i w R = dFunc Tryd.prog ⟨[], []⟩ Tryd.f9 [.int .i64 i] (fun v w' => viewRet [.one .s] v R w') w := by kernel_rfl

theorem c9_of {i : Int} {w : World} {R : ByteArray → World → Prop} (h : f9 i w R) : c9 i w R :=
  callK_of okP Tryd.func9 (by rw [← f9_eq]; exact h)

/-- internal/strconv.FormatInt. -/
def f10 (i : Int) (base : Int) (w : World) (R : ByteArray → World → Prop) : Prop :=
  if (base == 10) = true then (if (cond (decide (0 ≤ i)) (decide (i < 100)) false) = true then (c11 i w fun (r : ByteArray) (w : World) =>
  R r w) else (Nw (.cells #[.int .u8 0, .int .u8 0, .int .u8 0, .int .u8 0, .int .u8 0, .int .u8 0, .int .u8 0, .int .u8 0, .int .u8 0, .int .u8 0, .int .u8 0, .int .u8 0, .int .u8 0, .int .u8 0, .int .u8 0, .int .u8 0, .int .u8 0, .int .u8 0, .int .u8 0, .int .u8 0, .int .u8 0, .int .u8 0, .int .u8 0, .int .u8 0] 34) w fun (a : Addr) (w : World) =>
  ∃ J_ : Int → World → Prop, (if (decide (i < 0)) = true then (J_ (IntKind.u64.wrap (0 - (IntKind.u64.wrap i))) w) else (J_ (IntKind.u64.wrap i) w)) ∧ ∀ u : Int, ∀ w : World, J_ u w → (c12 u w fun (nd : Int) (w : World) =>
  CutA a 24 1 (IntKind.i64.wrap (1 + nd)) (24 : Int) 1 fun (s : Sl) =>
  c13 s u w fun  (w : World) =>
  if (decide (i < 0)) = true then (IxA a 24 0 1 fun (a2 : Addr) =>
  St a2 (.int .u8 45) w fun (w : World) =>
  CutA a 24 0 (IntKind.i64.wrap (1 + nd)) (24 : Int) 1 fun (s2 : Sl) =>
  RdB w ⟨s2.a, s2.len, s2.cap⟩ fun (x : ByteArray) =>
  R x w) else (CutA a 24 1 (IntKind.i64.wrap (1 + nd)) (24 : Int) 1 fun (s3 : Sl) =>
  RdB w ⟨s3.a, s3.len, s3.cap⟩ fun (x2 : ByteArray) =>
  R x2 w)))) else (c14 ⟨none, 0, 0⟩ (IntKind.u64.wrap i) base (decide (i < 0)) false w fun (x_ : Sl) (s4 : ByteArray) (w : World) =>
  R s4 w)

theorem f10_eq (i : Int) (base : Int) (w : World) (R : ByteArray → World → Prop) :
    f10 i base w R = dFunc Tryd.prog ⟨[], [(8, ⟨[(6, .i .u64)], [0, 5]⟩)]⟩ Tryd.f10 [.int .i64 i, .int .i64 base] (fun v w' => viewRet [.one .s] v R w') w := by kernel_rfl

theorem c10_of {i : Int} {base : Int} {w : World} {R : ByteArray → World → Prop} (h : f10 i base w R) : c10 i base w R :=
  callK_of okP Tryd.func10 (by rw [← f10_eq]; exact h)

/-- internal/strconv.small. -/
def f11 (i : Int) (w : World) (R : ByteArray → World → Prop) : Prop :=
  if (decide (i < 10)) = true then (CutS (⟨#[48, 49, 50, 51, 52, 53, 54, 55, 56, 57, 97, 98, 99, 100, 101, 102, 103, 104, 105, 106, 107, 108, 109, 110, 111, 112, 113, 114, 115, 116, 117, 118, 119, 120, 121, 122]⟩ : ByteArray) i (IntKind.i64.wrap (i + 1)) fun (s : ByteArray) =>
  R s w) else (CutS (⟨#[48, 48, 48, 49, 48, 50, 48, 51, 48, 52, 48, 53, 48, 54, 48, 55, 48, 56, 48, 57, 49, 48, 49, 49, 49, 50, 49, 51, 49, 52, 49, 53, 49, 54, 49, 55, 49, 56, 49, 57, 50, 48, 50, 49, 50, 50, 50, 51, 50, 52, 50, 53, 50, 54, 50, 55, 50, 56, 50, 57, 51, 48, 51, 49, 51, 50, 51, 51, 51, 52, 51, 53, 51, 54, 51, 55, 51, 56, 51, 57, 52, 48, 52, 49, 52, 50, 52, 51, 52, 52, 52, 53, 52, 54, 52, 55, 52, 56, 52, 57, 53, 48, 53, 49, 53, 50, 53, 51, 53, 52, 53, 53, 53, 54, 53, 55, 53, 56, 53, 57, 54, 48, 54, 49, 54, 50, 54, 51, 54, 52, 54, 53, 54, 54, 54, 55, 54, 56, 54, 57, 55, 48, 55, 49, 55, 50, 55, 51, 55, 52, 55, 53, 55, 54, 55, 55, 55, 56, 55, 57, 56, 48, 56, 49, 56, 50, 56, 51, 56, 52, 56, 53, 56, 54, 56, 55, 56, 56, 56, 57, 57, 48, 57, 49, 57, 50, 57, 51, 57, 52, 57, 53, 57, 54, 57, 55, 57, 56, 57, 57]⟩ : ByteArray) (IntKind.i64.wrap (i * 2)) (IntKind.i64.wrap ((IntKind.i64.wrap (i * 2)) + 2)) fun (s2 : ByteArray) =>
  R s2 w)

theorem f11_eq (i : Int) (w : World) (R : ByteArray → World → Prop) :
    f11 i w R = dFunc Tryd.prog ⟨[], []⟩ Tryd.f11 [.int .i64 i] (fun v w' => viewRet [.one .s] v R w') w := by kernel_rfl

theorem c11_of {i : Int} {w : World} {R : ByteArray → World → Prop} (h : f11 i w R) : c11 i w R :=
  callK_of okP Tryd.func11 (by rw [← f11_eq]; exact h)

/-- internal/strconv.numDigits. -/
def f12 (d : Int) (w : World) (R : Int → World → Prop) : Prop :=
  c16 d w fun (r : Int) (w : World) =>
  c15 r w fun (nd : Int) (w : World) =>
  IxA ⟨0, 0, none⟩ 20 nd 1 fun (a : Addr) =>
  Ld (.i .u64) w a fun (x : Int) =>
  c17 (decide (d ≥ x)) w fun (r2 : Int) (w : World) =>
  R (IntKind.i64.wrap (nd + r2)) w

theorem f12_eq (d : Int) (w : World) (R : Int → World → Prop) :
    f12 d w R = dFunc Tryd.prog ⟨[], []⟩ Tryd.f12 [.int .u64 d] (fun v w' => viewRet [.one (.i .i64)] v R w') w := by kernel_rfl

theorem c12_of {d : Int} {w : World} {R : Int → World → Prop} (h : f12 d w R) : c12 d w R :=
  callK_of okP Tryd.func12 (by rw [← f12_eq]; exact h)

/-- internal/strconv.formatBase10. -/
def f13 (a : Sl) (u : Int) (w : World) (R : World → Prop) : Prop :=
  ∃ Inv_ : Int → Int → Nat → World → Prop, (∃ n : Nat, Inv_ u (a.len : Int) n w) ∧ ∀ u2 : Int, ∀ nd : Int, ∀ m : Nat, ∀ w : World, Inv_ u2 nd m w → (if (decide (nd ≥ 8)) = true then ((100000000 : Int) ≠ 0 ∧ ((100000000 : Int) ≠ 0 ∧ ((10000 : Int) ≠ 0 ∧ ((10000 : Int) ≠ 0 ∧ ((100 : Int) ≠ 0 ∧ ((100 : Int) ≠ 0 ∧ ((100 : Int) ≠ 0 ∧ ((100 : Int) ≠ 0 ∧ (Dr w fun (w : World) =>
  IxS (⟨#[48, 48, 48, 49, 48, 50, 48, 51, 48, 52, 48, 53, 48, 54, 48, 55, 48, 56, 48, 57, 49, 48, 49, 49, 49, 50, 49, 51, 49, 52, 49, 53, 49, 54, 49, 55, 49, 56, 49, 57, 50, 48, 50, 49, 50, 50, 50, 51, 50, 52, 50, 53, 50, 54, 50, 55, 50, 56, 50, 57, 51, 48, 51, 49, 51, 50, 51, 51, 51, 52, 51, 53, 51, 54, 51, 55, 51, 56, 51, 57, 52, 48, 52, 49, 52, 50, 52, 51, 52, 52, 52, 53, 52, 54, 52, 55, 52, 56, 52, 57, 53, 48, 53, 49, 53, 50, 53, 51, 53, 52, 53, 53, 53, 54, 53, 55, 53, 56, 53, 57, 54, 48, 54, 49, 54, 50, 54, 51, 54, 52, 54, 53, 54, 54, 54, 55, 54, 56, 54, 57, 55, 48, 55, 49, 55, 50, 55, 51, 55, 52, 55, 53, 55, 54, 55, 55, 55, 56, 55, 57, 56, 48, 56, 49, 56, 50, 56, 51, 56, 52, 56, 53, 56, 54, 56, 55, 56, 56, 56, 57, 57, 48, 57, 49, 57, 50, 57, 51, 57, 52, 57, 53, 57, 54, 57, 55, 57, 56, 57, 57]⟩ : ByteArray) (IntKind.u32.wrap ((IntKind.u32.wrap ((Int.tmod (Int.tmod (IntKind.u32.wrap (Int.tmod u2 100000000)) 10000) 100) * 2)) + 1)) fun (c : Int) =>
  IxS (⟨#[48, 48, 48, 49, 48, 50, 48, 51, 48, 52, 48, 53, 48, 54, 48, 55, 48, 56, 48, 57, 49, 48, 49, 49, 49, 50, 49, 51, 49, 52, 49, 53, 49, 54, 49, 55, 49, 56, 49, 57, 50, 48, 50, 49, 50, 50, 50, 51, 50, 52, 50, 53, 50, 54, 50, 55, 50, 56, 50, 57, 51, 48, 51, 49, 51, 50, 51, 51, 51, 52, 51, 53, 51, 54, 51, 55, 51, 56, 51, 57, 52, 48, 52, 49, 52, 50, 52, 51, 52, 52, 52, 53, 52, 54, 52, 55, 52, 56, 52, 57, 53, 48, 53, 49, 53, 50, 53, 51, 53, 52, 53, 53, 53, 54, 53, 55, 53, 56, 53, 57, 54, 48, 54, 49, 54, 50, 54, 51, 54, 52, 54, 53, 54, 54, 54, 55, 54, 56, 54, 57, 55, 48, 55, 49, 55, 50, 55, 51, 55, 52, 55, 53, 55, 54, 55, 55, 55, 56, 55, 57, 56, 48, 56, 49, 56, 50, 56, 51, 56, 52, 56, 53, 56, 54, 56, 55, 56, 56, 56, 57, 57, 48, 57, 49, 57, 50, 57, 51, 57, 52, 57, 53, 57, 54, 57, 55, 57, 56, 57, 57]⟩ : ByteArray) (IntKind.u32.wrap ((Int.tmod (Int.tmod (IntKind.u32.wrap (Int.tmod u2 100000000)) 10000) 100) * 2)) fun (c2 : Int) =>
  Ix a.a a.len (IntKind.i64.wrap (nd - 1)) 1 fun (a2 : Addr) =>
  St a2 (.int .u8 c) w fun (w : World) =>
  Ix a.a a.len (IntKind.i64.wrap (nd - 2)) 1 fun (a3 : Addr) =>
  St a3 (.int .u8 c2) w fun (w : World) =>
  Dr w fun (w : World) =>
  IxS (⟨#[48, 48, 48, 49, 48, 50, 48, 51, 48, 52, 48, 53, 48, 54, 48, 55, 48, 56, 48, 57, 49, 48, 49, 49, 49, 50, 49, 51, 49, 52, 49, 53, 49, 54, 49, 55, 49, 56, 49, 57, 50, 48, 50, 49, 50, 50, 50, 51, 50, 52, 50, 53, 50, 54, 50, 55, 50, 56, 50, 57, 51, 48, 51, 49, 51, 50, 51, 51, 51, 52, 51, 53, 51, 54, 51, 55, 51, 56, 51, 57, 52, 48, 52, 49, 52, 50, 52, 51, 52, 52, 52, 53, 52, 54, 52, 55, 52, 56, 52, 57, 53, 48, 53, 49, 53, 50, 53, 51, 53, 52, 53, 53, 53, 54, 53, 55, 53, 56, 53, 57, 54, 48, 54, 49, 54, 50, 54, 51, 54, 52, 54, 53, 54, 54, 54, 55, 54, 56, 54, 57, 55, 48, 55, 49, 55, 50, 55, 51, 55, 52, 55, 53, 55, 54, 55, 55, 55, 56, 55, 57, 56, 48, 56, 49, 56, 50, 56, 51, 56, 52, 56, 53, 56, 54, 56, 55, 56, 56, 56, 57, 57, 48, 57, 49, 57, 50, 57, 51, 57, 52, 57, 53, 57, 54, 57, 55, 57, 56, 57, 57]⟩ : ByteArray) (IntKind.u32.wrap ((IntKind.u32.wrap ((IntKind.u32.wrap (Int.tdiv (Int.tmod (IntKind.u32.wrap (Int.tmod u2 100000000)) 10000) 100)) * 2)) + 1)) fun (c3 : Int) =>
  IxS (⟨#[48, 48, 48, 49, 48, 50, 48, 51, 48, 52, 48, 53, 48, 54, 48, 55, 48, 56, 48, 57, 49, 48, 49, 49, 49, 50, 49, 51, 49, 52, 49, 53, 49, 54, 49, 55, 49, 56, 49, 57, 50, 48, 50, 49, 50, 50, 50, 51, 50, 52, 50, 53, 50, 54, 50, 55, 50, 56, 50, 57, 51, 48, 51, 49, 51, 50, 51, 51, 51, 52, 51, 53, 51, 54, 51, 55, 51, 56, 51, 57, 52, 48, 52, 49, 52, 50, 52, 51, 52, 52, 52, 53, 52, 54, 52, 55, 52, 56, 52, 57, 53, 48, 53, 49, 53, 50, 53, 51, 53, 52, 53, 53, 53, 54, 53, 55, 53, 56, 53, 57, 54, 48, 54, 49, 54, 50, 54, 51, 54, 52, 54, 53, 54, 54, 54, 55, 54, 56, 54, 57, 55, 48, 55, 49, 55, 50, 55, 51, 55, 52, 55, 53, 55, 54, 55, 55, 55, 56, 55, 57, 56, 48, 56, 49, 56, 50, 56, 51, 56, 52, 56, 53, 56, 54, 56, 55, 56, 56, 56, 57, 57, 48, 57, 49, 57, 50, 57, 51, 57, 52, 57, 53, 57, 54, 57, 55, 57, 56, 57, 57]⟩ : ByteArray) (IntKind.u32.wrap ((IntKind.u32.wrap (Int.tdiv (Int.tmod (IntKind.u32.wrap (Int.tmod u2 100000000)) 10000) 100)) * 2)) fun (c4 : Int) =>
  Ix a.a a.len (IntKind.i64.wrap (nd - 3)) 1 fun (a4 : Addr) =>
  St a4 (.int .u8 c3) w fun (w : World) =>
  Ix a.a a.len (IntKind.i64.wrap (nd - 4)) 1 fun (a5 : Addr) =>
  St a5 (.int .u8 c4) w fun (w : World) =>
  Dr w fun (w : World) =>
  IxS (⟨#[48, 48, 48, 49, 48, 50, 48, 51, 48, 52, 48, 53, 48, 54, 48, 55, 48, 56, 48, 57, 49, 48, 49, 49, 49, 50, 49, 51, 49, 52, 49, 53, 49, 54, 49, 55, 49, 56, 49, 57, 50, 48, 50, 49, 50, 50, 50, 51, 50, 52, 50, 53, 50, 54, 50, 55, 50, 56, 50, 57, 51, 48, 51, 49, 51, 50, 51, 51, 51, 52, 51, 53, 51, 54, 51, 55, 51, 56, 51, 57, 52, 48, 52, 49, 52, 50, 52, 51, 52, 52, 52, 53, 52, 54, 52, 55, 52, 56, 52, 57, 53, 48, 53, 49, 53, 50, 53, 51, 53, 52, 53, 53, 53, 54, 53, 55, 53, 56, 53, 57, 54, 48, 54, 49, 54, 50, 54, 51, 54, 52, 54, 53, 54, 54, 54, 55, 54, 56, 54, 57, 55, 48, 55, 49, 55, 50, 55, 51, 55, 52, 55, 53, 55, 54, 55, 55, 55, 56, 55, 57, 56, 48, 56, 49, 56, 50, 56, 51, 56, 52, 56, 53, 56, 54, 56, 55, 56, 56, 56, 57, 57, 48, 57, 49, 57, 50, 57, 51, 57, 52, 57, 53, 57, 54, 57, 55, 57, 56, 57, 57]⟩ : ByteArray) (IntKind.u32.wrap ((IntKind.u32.wrap ((Int.tmod (IntKind.u32.wrap (Int.tdiv (IntKind.u32.wrap (Int.tmod u2 100000000)) 10000)) 100) * 2)) + 1)) fun (c5 : Int) =>
  IxS (⟨#[48, 48, 48, 49, 48, 50, 48, 51, 48, 52, 48, 53, 48, 54, 48, 55, 48, 56, 48, 57, 49, 48, 49, 49, 49, 50, 49, 51, 49, 52, 49, 53, 49, 54, 49, 55, 49, 56, 49, 57, 50, 48, 50, 49, 50, 50, 50, 51, 50, 52, 50, 53, 50, 54, 50, 55, 50, 56, 50, 57, 51, 48, 51, 49, 51, 50, 51, 51, 51, 52, 51, 53, 51, 54, 51, 55, 51, 56, 51, 57, 52, 48, 52, 49, 52, 50, 52, 51, 52, 52, 52, 53, 52, 54, 52, 55, 52, 56, 52, 57, 53, 48, 53, 49, 53, 50, 53, 51, 53, 52, 53, 53, 53, 54, 53, 55, 53, 56, 53, 57, 54, 48, 54, 49, 54, 50, 54, 51, 54, 52, 54, 53, 54, 54, 54, 55, 54, 56, 54, 57, 55, 48, 55, 49, 55, 50, 55, 51, 55, 52, 55, 53, 55, 54, 55, 55, 55, 56, 55, 57, 56, 48, 56, 49, 56, 50, 56, 51, 56, 52, 56, 53, 56, 54, 56, 55, 56, 56, 56, 57, 57, 48, 57, 49, 57, 50, 57, 51, 57, 52, 57, 53, 57, 54, 57, 55, 57, 56, 57, 57]⟩ : ByteArray) (IntKind.u32.wrap ((Int.tmod (IntKind.u32.wrap (Int.tdiv (IntKind.u32.wrap (Int.tmod u2 100000000)) 10000)) 100) * 2)) fun (c6 : Int) =>
  Ix a.a a.len (IntKind.i64.wrap (nd - 5)) 1 fun (a6 : Addr) =>
  St a6 (.int .u8 c5) w fun (w : World) =>
  Ix a.a a.len (IntKind.i64.wrap (nd - 6)) 1 fun (a7 : Addr) =>
  St a7 (.int .u8 c6) w fun (w : World) =>
  Dr w fun (w : World) =>
  IxS (⟨#[48, 48, 48, 49, 48, 50, 48, 51, 48, 52, 48, 53, 48, 54, 48, 55, 48, 56, 48, 57, 49, 48, 49, 49, 49, 50, 49, 51, 49, 52, 49, 53, 49, 54, 49, 55, 49, 56, 49, 57, 50, 48, 50, 49, 50, 50, 50, 51, 50, 52, 50, 53, 50, 54, 50, 55, 50, 56, 50, 57, 51, 48, 51, 49, 51, 50, 51, 51, 51, 52, 51, 53, 51, 54, 51, 55, 51, 56, 51, 57, 52, 48, 52, 49, 52, 50, 52, 51, 52, 52, 52, 53, 52, 54, 52, 55, 52, 56, 52, 57, 53, 48, 53, 49, 53, 50, 53, 51, 53, 52, 53, 53, 53, 54, 53, 55, 53, 56, 53, 57, 54, 48, 54, 49, 54, 50, 54, 51, 54, 52, 54, 53, 54, 54, 54, 55, 54, 56, 54, 57, 55, 48, 55, 49, 55, 50, 55, 51, 55, 52, 55, 53, 55, 54, 55, 55, 55, 56, 55, 57, 56, 48, 56, 49, 56, 50, 56, 51, 56, 52, 56, 53, 56, 54, 56, 55, 56, 56, 56, 57, 57, 48, 57, 49, 57, 50, 57, 51, 57, 52, 57, 53, 57, 54, 57, 55, 57, 56, 57, 57]⟩ : ByteArray) (IntKind.u32.wrap ((IntKind.u32.wrap ((IntKind.u32.wrap (Int.tdiv (IntKind.u32.wrap (Int.tdiv (IntKind.u32.wrap (Int.tmod u2 100000000)) 10000)) 100)) * 2)) + 1)) fun (c7 : Int) =>
  IxS (⟨#[48, 48, 48, 49, 48, 50, 48, 51, 48, 52, 48, 53, 48, 54, 48, 55, 48, 56, 48, 57, 49, 48, 49, 49, 49, 50, 49, 51, 49, 52, 49, 53, 49, 54, 49, 55, 49, 56, 49, 57, 50, 48, 50, 49, 50, 50, 50, 51, 50, 52, 50, 53, 50, 54, 50, 55, 50, 56, 50, 57, 51, 48, 51, 49, 51, 50, 51, 51, 51, 52, 51, 53, 51, 54, 51, 55, 51, 56, 51, 57, 52, 48, 52, 49, 52, 50, 52, 51, 52, 52, 52, 53, 52, 54, 52, 55, 52, 56, 52, 57, 53, 48, 53, 49, 53, 50, 53, 51, 53, 52, 53, 53, 53, 54, 53, 55, 53, 56, 53, 57, 54, 48, 54, 49, 54, 50, 54, 51, 54, 52, 54, 53, 54, 54, 54, 55, 54, 56, 54, 57, 55, 48, 55, 49, 55, 50, 55, 51, 55, 52, 55, 53, 55, 54, 55, 55, 55, 56, 55, 57, 56, 48, 56, 49, 56, 50, 56, 51, 56, 52, 56, 53, 56, 54, 56, 55, 56, 56, 56, 57, 57, 48, 57, 49, 57, 50, 57, 51, 57, 52, 57, 53, 57, 54, 57, 55, 57, 56, 57, 57]⟩ : ByteArray) (IntKind.u32.wrap ((IntKind.u32.wrap (Int.tdiv (IntKind.u32.wrap (Int.tdiv (IntKind.u32.wrap (Int.tmod u2 100000000)) 10000)) 100)) * 2)) fun (c8 : Int) =>
  Ix a.a a.len (IntKind.i64.wrap (nd - 7)) 1 fun (a8 : Addr) =>
  St a8 (.int .u8 c7) w fun (w : World) =>
  Ix a.a a.len (IntKind.i64.wrap (nd - 8)) 1 fun (a9 : Addr) =>
  St a9 (.int .u8 c8) w fun (w : World) =>
  ∃ m2 : Nat, m2 < m ∧ Inv_ (IntKind.u64.wrap (Int.tdiv u2 100000000)) (IntKind.i64.wrap (nd - 8)) m2 w))))))))) else (∃ J_ : Int → Int → World → Prop, (if (decide (nd ≥ 4)) = true then ((10000 : Int) ≠ 0 ∧ ((10000 : Int) ≠ 0 ∧ ((100 : Int) ≠ 0 ∧ ((100 : Int) ≠ 0 ∧ (Dr w fun (w : World) =>
  IxS (⟨#[48, 48, 48, 49, 48, 50, 48, 51, 48, 52, 48, 53, 48, 54, 48, 55, 48, 56, 48, 57, 49, 48, 49, 49, 49, 50, 49, 51, 49, 52, 49, 53, 49, 54, 49, 55, 49, 56, 49, 57, 50, 48, 50, 49, 50, 50, 50, 51, 50, 52, 50, 53, 50, 54, 50, 55, 50, 56, 50, 57, 51, 48, 51, 49, 51, 50, 51, 51, 51, 52, 51, 53, 51, 54, 51, 55, 51, 56, 51, 57, 52, 48, 52, 49, 52, 50, 52, 51, 52, 52, 52, 53, 52, 54, 52, 55, 52, 56, 52, 57, 53, 48, 53, 49, 53, 50, 53, 51, 53, 52, 53, 53, 53, 54, 53, 55, 53, 56, 53, 57, 54, 48, 54, 49, 54, 50, 54, 51, 54, 52, 54, 53, 54, 54, 54, 55, 54, 56, 54, 57, 55, 48, 55, 49, 55, 50, 55, 51, 55, 52, 55, 53, 55, 54, 55, 55, 55, 56, 55, 57, 56, 48, 56, 49, 56, 50, 56, 51, 56, 52, 56, 53, 56, 54, 56, 55, 56, 56, 56, 57, 57, 48, 57, 49, 57, 50, 57, 51, 57, 52, 57, 53, 57, 54, 57, 55, 57, 56, 57, 57]⟩ : ByteArray) (IntKind.u32.wrap ((IntKind.u32.wrap ((Int.tmod (Int.tmod (IntKind.u32.wrap u2) 10000) 100) * 2)) + 1)) fun (c9 : Int) =>
  IxS (⟨#[48, 48, 48, 49, 48, 50, 48, 51, 48, 52, 48, 53, 48, 54, 48, 55, 48, 56, 48, 57, 49, 48, 49, 49, 49, 50, 49, 51, 49, 52, 49, 53, 49, 54, 49, 55, 49, 56, 49, 57, 50, 48, 50, 49, 50, 50, 50, 51, 50, 52, 50, 53, 50, 54, 50, 55, 50, 56, 50, 57, 51, 48, 51, 49, 51, 50, 51, 51, 51, 52, 51, 53, 51, 54, 51, 55, 51, 56, 51, 57, 52, 48, 52, 49, 52, 50, 52, 51, 52, 52, 52, 53, 52, 54, 52, 55, 52, 56, 52, 57, 53, 48, 53, 49, 53, 50, 53, 51, 53, 52, 53, 53, 53, 54, 53, 55, 53, 56, 53, 57, 54, 48, 54, 49, 54, 50, 54, 51, 54, 52, 54, 53, 54, 54, 54, 55, 54, 56, 54, 57, 55, 48, 55, 49, 55, 50, 55, 51, 55, 52, 55, 53, 55, 54, 55, 55, 55, 56, 55, 57, 56, 48, 56, 49, 56, 50, 56, 51, 56, 52, 56, 53, 56, 54, 56, 55, 56, 56, 56, 57, 57, 48, 57, 49, 57, 50, 57, 51, 57, 52, 57, 53, 57, 54, 57, 55, 57, 56, 57, 57]⟩ : ByteArray) (IntKind.u32.wrap ((Int.tmod (Int.tmod (IntKind.u32.wrap u2) 10000) 100) * 2)) fun (c10 : Int) =>
  Ix a.a a.len (IntKind.i64.wrap (nd - 1)) 1 fun (a10 : Addr) =>
  St a10 (.int .u8 c9) w fun (w : World) =>
  Ix a.a a.len (IntKind.i64.wrap (nd - 2)) 1 fun (a11 : Addr) =>
  St a11 (.int .u8 c10) w fun (w : World) =>
  Dr w fun (w : World) =>
  IxS (⟨#[48, 48, 48, 49, 48, 50, 48, 51, 48, 52, 48, 53, 48, 54, 48, 55, 48, 56, 48, 57, 49, 48, 49, 49, 49, 50, 49, 51, 49, 52, 49, 53, 49, 54, 49, 55, 49, 56, 49, 57, 50, 48, 50, 49, 50, 50, 50, 51, 50, 52, 50, 53, 50, 54, 50, 55, 50, 56, 50, 57, 51, 48, 51, 49, 51, 50, 51, 51, 51, 52, 51, 53, 51, 54, 51, 55, 51, 56, 51, 57, 52, 48, 52, 49, 52, 50, 52, 51, 52, 52, 52, 53, 52, 54, 52, 55, 52, 56, 52, 57, 53, 48, 53, 49, 53, 50, 53, 51, 53, 52, 53, 53, 53, 54, 53, 55, 53, 56, 53, 57, 54, 48, 54, 49, 54, 50, 54, 51, 54, 52, 54, 53, 54, 54, 54, 55, 54, 56, 54, 57, 55, 48, 55, 49, 55, 50, 55, 51, 55, 52, 55, 53, 55, 54, 55, 55, 55, 56, 55, 57, 56, 48, 56, 49, 56, 50, 56, 51, 56, 52, 56, 53, 56, 54, 56, 55, 56, 56, 56, 57, 57, 48, 57, 49, 57, 50, 57, 51, 57, 52, 57, 53, 57, 54, 57, 55, 57, 56, 57, 57]⟩ : ByteArray) (IntKind.u32.wrap ((IntKind.u32.wrap ((IntKind.u32.wrap (Int.tdiv (Int.tmod (IntKind.u32.wrap u2) 10000) 100)) * 2)) + 1)) fun (c11 : Int) =>
  IxS (⟨#[48, 48, 48, 49, 48, 50, 48, 51, 48, 52, 48, 53, 48, 54, 48, 55, 48, 56, 48, 57, 49, 48, 49, 49, 49, 50, 49, 51, 49, 52, 49, 53, 49, 54, 49, 55, 49, 56, 49, 57, 50, 48, 50, 49, 50, 50, 50, 51, 50, 52, 50, 53, 50, 54, 50, 55, 50, 56, 50, 57, 51, 48, 51, 49, 51, 50, 51, 51, 51, 52, 51, 53, 51, 54, 51, 55, 51, 56, 51, 57, 52, 48, 52, 49, 52, 50, 52, 51, 52, 52, 52, 53, 52, 54, 52, 55, 52, 56, 52, 57, 53, 48, 53, 49, 53, 50, 53, 51, 53, 52, 53, 53, 53, 54, 53, 55, 53, 56, 53, 57, 54, 48, 54, 49, 54, 50, 54, 51, 54, 52, 54, 53, 54, 54, 54, 55, 54, 56, 54, 57, 55, 48, 55, 49, 55, 50, 55, 51, 55, 52, 55, 53, 55, 54, 55, 55, 55, 56, 55, 57, 56, 48, 56, 49, 56, 50, 56, 51, 56, 52, 56, 53, 56, 54, 56, 55, 56, 56, 56, 57, 57, 48, 57, 49, 57, 50, 57, 51, 57, 52, 57, 53, 57, 54, 57, 55, 57, 56, 57, 57]⟩ : ByteArray) (IntKind.u32.wrap ((IntKind.u32.wrap (Int.tdiv (Int.tmod (IntKind.u32.wrap u2) 10000) 100)) * 2)) fun (c12 : Int) =>
  Ix a.a a.len (IntKind.i64.wrap (nd - 3)) 1 fun (a12 : Addr) =>
  St a12 (.int .u8 c11) w fun (w : World) =>
  Ix a.a a.len (IntKind.i64.wrap (nd - 4)) 1 fun (a13 : Addr) =>
  St a13 (.int .u8 c12) w fun (w : World) =>
  J_ (IntKind.i64.wrap (nd - 4)) (IntKind.u32.wrap (Int.tdiv (IntKind.u32.wrap u2) 10000)) w))))) else (J_ nd (IntKind.u32.wrap u2) w)) ∧ ∀ nd2 : Int, ∀ x : Int, ∀ w : World, J_ nd2 x w → (∃ J_2 : Int → Int → World → Prop, (if (decide (nd2 ≥ 2)) = true then ((100 : Int) ≠ 0 ∧ ((100 : Int) ≠ 0 ∧ (Dr w fun (w : World) =>
  IxS (⟨#[48, 48, 48, 49, 48, 50, 48, 51, 48, 52, 48, 53, 48, 54, 48, 55, 48, 56, 48, 57, 49, 48, 49, 49, 49, 50, 49, 51, 49, 52, 49, 53, 49, 54, 49, 55, 49, 56, 49, 57, 50, 48, 50, 49, 50, 50, 50, 51, 50, 52, 50, 53, 50, 54, 50, 55, 50, 56, 50, 57, 51, 48, 51, 49, 51, 50, 51, 51, 51, 52, 51, 53, 51, 54, 51, 55, 51, 56, 51, 57, 52, 48, 52, 49, 52, 50, 52, 51, 52, 52, 52, 53, 52, 54, 52, 55, 52, 56, 52, 57, 53, 48, 53, 49, 53, 50, 53, 51, 53, 52, 53, 53, 53, 54, 53, 55, 53, 56, 53, 57, 54, 48, 54, 49, 54, 50, 54, 51, 54, 52, 54, 53, 54, 54, 54, 55, 54, 56, 54, 57, 55, 48, 55, 49, 55, 50, 55, 51, 55, 52, 55, 53, 55, 54, 55, 55, 55, 56, 55, 57, 56, 48, 56, 49, 56, 50, 56, 51, 56, 52, 56, 53, 56, 54, 56, 55, 56, 56, 56, 57, 57, 48, 57, 49, 57, 50, 57, 51, 57, 52, 57, 53, 57, 54, 57, 55, 57, 56, 57, 57]⟩ : ByteArray) (IntKind.u32.wrap ((IntKind.u32.wrap ((Int.tmod x 100) * 2)) + 1)) fun (c13 : Int) =>
  IxS (⟨#[48, 48, 48, 49, 48, 50, 48, 51, 48, 52, 48, 53, 48, 54, 48, 55, 48, 56, 48, 57, 49, 48, 49, 49, 49, 50, 49, 51, 49, 52, 49, 53, 49, 54, 49, 55, 49, 56, 49, 57, 50, 48, 50, 49, 50, 50, 50, 51, 50, 52, 50, 53, 50, 54, 50, 55, 50, 56, 50, 57, 51, 48, 51, 49, 51, 50, 51, 51, 51, 52, 51, 53, 51, 54, 51, 55, 51, 56, 51, 57, 52, 48, 52, 49, 52, 50, 52, 51, 52, 52, 52, 53, 52, 54, 52, 55, 52, 56, 52, 57, 53, 48, 53, 49, 53, 50, 53, 51, 53, 52, 53, 53, 53, 54, 53, 55, 53, 56, 53, 57, 54, 48, 54, 49, 54, 50, 54, 51, 54, 52, 54, 53, 54, 54, 54, 55, 54, 56, 54, 57, 55, 48, 55, 49, 55, 50, 55, 51, 55, 52, 55, 53, 55, 54, 55, 55, 55, 56, 55, 57, 56, 48, 56, 49, 56, 50, 56, 51, 56, 52, 56, 53, 56, 54, 56, 55, 56, 56, 56, 57, 57, 48, 57, 49, 57, 50, 57, 51, 57, 52, 57, 53, 57, 54, 57, 55, 57, 56, 57, 57]⟩ : ByteArray) (IntKind.u32.wrap ((Int.tmod x 100) * 2)) fun (c14 : Int) =>
  Ix a.a a.len (IntKind.i64.wrap (nd2 - 1)) 1 fun (a14 : Addr) =>
  St a14 (.int .u8 c13) w fun (w : World) =>
  Ix a.a a.len (IntKind.i64.wrap (nd2 - 2)) 1 fun (a15 : Addr) =>
  St a15 (.int .u8 c14) w fun (w : World) =>
  J_2 (IntKind.i64.wrap (nd2 - 2)) (IntKind.u32.wrap (Int.tdiv x 100)) w))) else (J_2 nd2 x w)) ∧ ∀ nd3 : Int, ∀ x2 : Int, ∀ w : World, J_2 nd3 x2 w → (if (decide (nd3 > 0)) = true then (Ix a.a a.len 0 1 fun (a16 : Addr) =>
  St a16 (.int .u8 (IntKind.u8.wrap (IntKind.u32.wrap (48 + x2)))) w fun (w : World) =>
  R w) else (R w)))))

theorem f13_eq (a : Sl) (u : Int) (w : World) (R : World → Prop) :
    f13 a u w R = dFunc Tryd.prog ⟨[(1, ⟨[(1, .i .u64), (4, .i .i64)], [0]⟩)], [(20, ⟨[(4, .i .i64), (12, .i .u32)], [0]⟩), (25, ⟨[(4, .i .i64), (12, .i .u32)], [0]⟩)]⟩ Tryd.f13 [.slice a.a a.len a.cap, .int .u64 u] (fun v w' => viewRet [] v R w') w := by kernel_rfl

theorem c13_of {a : Sl} {u : Int} {w : World} {R : World → Prop} (h : f13 a u w R) : c13 a u w R :=
  callK_of okP Tryd.func13 (by rw [← f13_eq]; exact h)

/-- internal/strconv.log10Pow2. -/
def f15 (x : Int) (w : World) (R : Int → World → Prop) : Prop :=
  (0 : Int) ≤ 18 ∧ (R (Int.fdiv (IntKind.i64.wrap (x * 78913)) (2 ^ (min (Int.toNat 18) 64))) w)

theorem f15_eq (x : Int) (w : World) (R : Int → World → Prop) :
    f15 x w R = dFunc Tryd.prog ⟨[], []⟩ Tryd.f15 [.int .i64 x] (fun v w' => viewRet [.one (.i .i64)] v R w') w := by kernel_rfl

theorem c15_of {x : Int} {w : World} {R : Int → World → Prop} (h : f15 x w R) : c15 x w R :=
  callK_of okP Tryd.func15 (by rw [← f15_eq]; exact h)

/-- math/bits.Len64. -/
def f16 (x : Int) (w : World) (R : Int → World → Prop) : Prop :=
  ∃ J_ : Int → Int → World → Prop, (if (decide (x ≥ 4294967296)) = true then ((0 : Int) ≤ 32 ∧ (J_ (Int.fdiv x (2 ^ (min (Int.toNat 32) 64))) 32 w)) else (J_ x 0 w)) ∧ ∀ x2 : Int, ∀ n_ : Int, ∀ w : World, J_ x2 n_ w → (∃ J_2 : Int → Int → World → Prop, (if (decide (x2 ≥ 65536)) = true then ((0 : Int) ≤ 16 ∧ (J_2 (Int.fdiv x2 (2 ^ (min (Int.toNat 16) 64))) (IntKind.i64.wrap (n_ + 16)) w)) else (J_2 x2 n_ w)) ∧ ∀ x3 : Int, ∀ n_2 : Int, ∀ w : World, J_2 x3 n_2 w → (∃ J_3 : Int → Int → World → Prop, (if (decide (x3 ≥ 256)) = true then ((0 : Int) ≤ 8 ∧ (J_3 (Int.fdiv x3 (2 ^ (min (Int.toNat 8) 64))) (IntKind.i64.wrap (n_2 + 8)) w)) else (J_3 x3 n_2 w)) ∧ ∀ x4 : Int, ∀ n_3 : Int, ∀ w : World, J_3 x4 n_3 w → (IxS (⟨#[0, 1, 2, 2, 3, 3, 3, 3, 4, 4, 4, 4, 4, 4, 4, 4, 5, 5, 5, 5, 5, 5, 5, 5, 5, 5, 5, 5, 5, 5, 5, 5, 6, 6, 6, 6, 6, 6, 6, 6, 6, 6, 6, 6, 6, 6, 6, 6, 6, 6, 6, 6, 6, 6, 6, 6, 6, 6, 6, 6, 6, 6, 6, 6, 7, 7, 7, 7, 7, 7, 7, 7, 7, 7, 7, 7, 7, 7, 7, 7, 7, 7, 7, 7, 7, 7, 7, 7, 7, 7, 7, 7, 7, 7, 7, 7, 7, 7, 7, 7, 7, 7, 7, 7, 7, 7, 7, 7, 7, 7, 7, 7, 7, 7, 7, 7, 7, 7, 7, 7, 7, 7, 7, 7, 7, 7, 7, 7, 8, 8, 8, 8, 8, 8, 8, 8, 8, 8, 8, 8, 8, 8, 8, 8, 8, 8, 8, 8, 8, 8, 8, 8, 8, 8, 8, 8, 8, 8, 8, 8, 8, 8, 8, 8, 8, 8, 8, 8, 8, 8, 8, 8, 8, 8, 8, 8, 8, 8, 8, 8, 8, 8, 8, 8, 8, 8, 8, 8, 8, 8, 8, 8, 8, 8, 8, 8, 8, 8, 8, 8, 8, 8, 8, 8, 8, 8, 8, 8, 8, 8, 8, 8, 8, 8, 8, 8, 8, 8, 8, 8, 8, 8, 8, 8, 8, 8, 8, 8, 8, 8, 8, 8, 8, 8, 8, 8, 8, 8, 8, 8, 8, 8, 8, 8, 8, 8, 8, 8, 8, 8, 8, 8, 8, 8, 8, 8]⟩ : ByteArray) (IntKind.u8.wrap x4) fun (c : Int) =>
  R (IntKind.i64.wrap (n_3 + (IntKind.i64.wrap c))) w)))

theorem f16_eq (x : Int) (w : World) (R : Int → World → Prop) :
    f16 x w R = dFunc Tryd.prog ⟨[], [(4, ⟨[(0, .i .u64), (2, .i .i64)], []⟩), (7, ⟨[(0, .i .u64), (2, .i .i64)], []⟩), (10, ⟨[(0, .i .u64), (2, .i .i64)], []⟩)]⟩ Tryd.f16 [.int .u64 x] (fun v w' => viewRet [.one (.i .i64)] v R w') w := by kernel_rfl

theorem c16_of {x : Int} {w : World} {R : Int → World → Prop} (h : f16 x w R) : c16 x w R :=
  callK_of okP Tryd.func16 (by rw [← f16_eq]; exact h)

/-- internal/strconv.bool2[int]. -/
def f17 (b : Bool) (w : World) (R : Int → World → Prop) : Prop :=
  if b = true then (R 1 w) else (R 0 w)

theorem f17_eq (b : Bool) (w : World) (R : Int → World → Prop) :
    f17 b w R = dFunc Tryd.prog ⟨[], []⟩ Tryd.f17 [.bool b] (fun v w' => viewRet [.one (.i .i64)] v R w') w := by kernel_rfl

theorem c17_of {b : Bool} {w : World} {R : Int → World → Prop} (h : f17 b w R) : c17 b w R :=
  callK_of okP Tryd.func17 (by rw [← f17_eq]; exact h)

/-- internal/strconv.isPowerOfTwo. -/
def f18 (x : Int) (w : World) (R : Bool → World → Prop) : Prop :=
  R ((IntKind.i64.wrap ((BitVec.ofInt 64 x &&& BitVec.ofInt 64 (IntKind.i64.wrap (x - 1))).toNat : Nat)) == 0) w

theorem f18_eq (x : Int) (w : World) (R : Bool → World → Prop) :
    f18 x w R = dFunc Tryd.prog ⟨[], []⟩ Tryd.f18 [.int .i64 x] (fun v w' => viewRet [.one .b] v R w') w := by kernel_rfl

theorem c18_of {x : Int} {w : World} {R : Bool → World → Prop} (h : f18 x w R) : c18 x w R :=
  callK_of okP Tryd.func18 (by rw [← f18_eq]; exact h)

/-- math/bits.TrailingZeros. -/
def f19 (x : Int) (w : World) (R : Int → World → Prop) : Prop :=
  c21 x w fun (r : Int) (w : World) =>
  R r w

theorem f19_eq (x : Int) (w : World) (R : Int → World → Prop) :
    f19 x w R = dFunc Tryd.prog ⟨[], []⟩ Tryd.f19 [.int .u64 x] (fun v w' => viewRet [.one (.i .i64)] v R w') w := by kernel_rfl

theorem c19_of {x : Int} {w : World} {R : Int → World → Prop} (h : f19 x w R) : c19 x w R :=
  callK_of okP Tryd.func19 (by rw [← f19_eq]; exact h)

/-- math/bits.TrailingZeros32. -/
def f20 (x : Int) (w : World) (R : Int → World → Prop) : Prop :=
  if (x == 0) = true then (R 32 w) else ((0 : Int) ≤ 27 ∧ (IxA ⟨1, 0, none⟩ 32 (Int.fdiv (IntKind.u32.wrap ((IntKind.u32.wrap ((BitVec.ofInt 32 x &&& BitVec.ofInt 32 (IntKind.u32.wrap (0 - x))).toNat : Nat)) * 125613361)) (2 ^ (min (Int.toNat 27) 32))) 1 fun (a : Addr) =>
  Ld (.i .u8) w a fun (x2 : Int) =>
  R (IntKind.i64.wrap x2) w))

theorem f20_eq (x : Int) (w : World) (R : Int → World → Prop) :
    f20 x w R = dFunc Tryd.prog ⟨[], []⟩ Tryd.f20 [.int .u32 x] (fun v w' => viewRet [.one (.i .i64)] v R w') w := by kernel_rfl

theorem c20_of {x : Int} {w : World} {R : Int → World → Prop} (h : f20 x w R) : c20 x w R :=
  callK_of okP Tryd.func20 (by rw [← f20_eq]; exact h)

/-- math/bits.TrailingZeros64. -/
def f21 (x : Int) (w : World) (R : Int → World → Prop) : Prop :=
  if (x == 0) = true then (R 64 w) else ((0 : Int) ≤ 58 ∧ (IxA ⟨2, 0, none⟩ 64 (Int.fdiv (IntKind.u64.wrap ((IntKind.u64.wrap ((BitVec.ofInt 64 x &&& BitVec.ofInt 64 (IntKind.u64.wrap (0 - x))).toNat : Nat)) * 285870213051353865)) (2 ^ (min (Int.toNat 58) 64))) 1 fun (a : Addr) =>
  Ld (.i .u8) w a fun (x2 : Int) =>
  R (IntKind.i64.wrap x2) w))

theorem f21_eq (x : Int) (w : World) (R : Int → World → Prop) :
    f21 x w R = dFunc Tryd.prog ⟨[], []⟩ Tryd.f21 [.int .u64 x] (fun v w' => viewRet [.one (.i .i64)] v R w') w := by kernel_rfl

theorem c21_of {x : Int} {w : World} {R : Int → World → Prop} (h : f21 x w R) : c21 x w R :=
  callK_of okP Tryd.func21 (by rw [← f21_eq]; exact h)

end Go.Proofs.YtjofnlbdpfjmiaaDoor.F
