/-
  Printed by den.py: for each Go function its formula, the kernel's equation, and the law of its call.
-/
import Derived.Test.YtbmpgjheiknjlaaProg
import Derived.Test.YtbmpgjheiknjlaaDenH
set_option linter.unusedVariables false
set_option maxRecDepth 100000
namespace Go.Proofs.Ytbmpgjheiknjlaa.F
open Go Go.Den Go.Proofs

theorem okP : OkP Try.prog := ⟨by kernel_rfl, by kernel_rfl⟩

/-- A call of gosem.cut.init. -/
def c2 (w : World) (R : World → Prop) : Prop :=
  CallK Try.prog 2 [] [] w R

/-- A call of hindcast/hindcastlaw01.PackPuts. -/
def c3 (b : Sl) (n_ : Int) (m : Int) (s : ByteArray) (l : Sl) (w : World) (R : Bool → World → Prop) : Prop :=
  CallK Try.prog 3 [.slice b.a b.len b.cap, .int .u64 n_, .int .i64 m, .string s, .slice l.a l.len l.cap] [.one .b] w R

/-- A call of hindcast/hindcastlaw01.PackGets. -/
def c4 (b : Sl) (most : Int) (w : World) (R : Bool → World → Prop) : Prop :=
  CallK Try.prog 4 [.slice b.a b.len b.cap, .int .i64 most] [.one .b] w R

/-- A call of hindcast/hindcastlaw01.PackSums. -/
def c5 (b : Sl) (w : World) (R : Bool → World → Prop) : Prop :=
  CallK Try.prog 5 [.slice b.a b.len b.cap] [.one .b] w R

/-- A call of hindcast/hindcastlaw01.PackBack. -/
def c6 (n_ : Int) (m : Int) (s : ByteArray) (l : Sl) (b : Sl) (w : World) (R : Bool → World → Prop) : Prop :=
  CallK Try.prog 6 [.int .u64 n_, .int .i64 m, .string s, .slice l.a l.len l.cap, .slice b.a b.len b.cap] [.one .b] w R

/-- A call of hindcast/hindcastlaw01.PackTells. -/
def c7 (b : Sl) (at_ : Int) (bits : Int) (w : World) (R : Bool → World → Prop) : Prop :=
  CallK Try.prog 7 [.slice b.a b.len b.cap, .int .i64 at_, .int .u32 bits] [.one .b] w R

/-- A call of hindcast/hindcastlaw01.shown. -/
def c8 (w : World) (R : Bool → World → Prop) : Prop :=
  CallK Try.prog 8 [] [.one .b] w R

/-- A call of hindcast/hindcastlaw01.lent. -/
def c9 (s : Sl) (w : World) (R : Sl → World → Prop) : Prop :=
  CallK Try.prog 9 [.slice s.a s.len s.cap] [.one .sl] w R

/-- A call of hindcast/pack.Put. -/
def c10 (b : Sl) (n_ : Int) (w : World) (R : Sl → World → Prop) : Prop :=
  CallK Try.prog 10 [.slice b.a b.len b.cap, .int .u64 n_] [.one .sl] w R

/-- A call of hindcast/pack.PutInt. -/
def c11 (b : Sl) (n_ : Int) (w : World) (R : Sl → World → Prop) : Prop :=
  CallK Try.prog 11 [.slice b.a b.len b.cap, .int .i64 n_] [.one .sl] w R

/-- A call of hindcast/pack.PutText. -/
def c12 (b : Sl) (s : ByteArray) (w : World) (R : Sl → World → Prop) : Prop :=
  CallK Try.prog 12 [.slice b.a b.len b.cap, .string s] [.one .sl] w R

/-- A call of hindcast/pack.PutRow. -/
def c13 (b : Sl) (l : Sl) (w : World) (R : Sl → World → Prop) : Prop :=
  CallK Try.prog 13 [.slice b.a b.len b.cap, .slice l.a l.len l.cap] [.one .sl] w R

/-- A call of hindcast/hindcastref01.Put. -/
def c14 (b : Sl) (n_ : Int) (w : World) (R : Sl → World → Prop) : Prop :=
  CallK Try.prog 14 [.slice b.a b.len b.cap, .int .u64 n_] [.one .sl] w R

/-- A call of hindcast/hindcastref01.PutInt. -/
def c15 (b : Sl) (n_ : Int) (w : World) (R : Sl → World → Prop) : Prop :=
  CallK Try.prog 15 [.slice b.a b.len b.cap, .int .i64 n_] [.one .sl] w R

/-- A call of hindcast/hindcastref01.PutText. -/
def c16 (b : Sl) (s : ByteArray) (w : World) (R : Sl → World → Prop) : Prop :=
  CallK Try.prog 16 [.slice b.a b.len b.cap, .string s] [.one .sl] w R

/-- A call of hindcast/hindcastref01.PutRow. -/
def c17 (b : Sl) (l : Sl) (w : World) (R : Sl → World → Prop) : Prop :=
  CallK Try.prog 17 [.slice b.a b.len b.cap, .slice l.a l.len l.cap] [.one .sl] w R

/-- A call of hindcast/hindcastlaw01.still. -/
def c18 (b : Sl) (s : Sl) (w : World) (R : Bool → World → Prop) : Prop :=
  CallK Try.prog 18 [.slice b.a b.len b.cap, .slice s.a s.len s.cap] [.one .b] w R

/-- A call of (*hindcast/hindcastlaw01.owner).fill. -/
def c19 (o : Option Addr) (l : Sl) (w : World) (R : World → Prop) : Prop :=
  CallK Try.prog 19 [.pointer o, .slice l.a l.len l.cap] [] w R

/-- A call of (*hindcast/hindcastlaw01.owner).looks. -/
def c20 (o : Option Addr) (w : World) (R : Bool → World → Prop) : Prop :=
  CallK Try.prog 20 [.pointer o] [.one .b] w R

/-- A call of hindcast/pack.Get. -/
def c21 (b : Sl) (w : World) (R : Int → Int → World → Prop) : Prop :=
  CallK Try.prog 21 [.slice b.a b.len b.cap] [.one (.i .u64), .one (.i .i64)] w R

/-- A call of hindcast/hindcastref01.Get. -/
def c22 (b : Sl) (w : World) (R : Int → Int → World → Prop) : Prop :=
  CallK Try.prog 22 [.slice b.a b.len b.cap] [.one (.i .u64), .one (.i .i64)] w R

/-- A call of hindcast/pack.GetInt. -/
def c23 (b : Sl) (w : World) (R : Int → Int → World → Prop) : Prop :=
  CallK Try.prog 23 [.slice b.a b.len b.cap] [.one (.i .i64), .one (.i .i64)] w R

/-- A call of hindcast/hindcastref01.GetInt. -/
def c24 (b : Sl) (w : World) (R : Int → Int → World → Prop) : Prop :=
  CallK Try.prog 24 [.slice b.a b.len b.cap] [.one (.i .i64), .one (.i .i64)] w R

/-- A call of hindcast/pack.GetText. -/
def c25 (b : Sl) (w : World) (R : ByteArray → Int → World → Prop) : Prop :=
  CallK Try.prog 25 [.slice b.a b.len b.cap] [.one .s, .one (.i .i64)] w R

/-- A call of hindcast/hindcastref01.GetText. -/
def c26 (b : Sl) (w : World) (R : ByteArray → Int → World → Prop) : Prop :=
  CallK Try.prog 26 [.slice b.a b.len b.cap] [.one .s, .one (.i .i64)] w R

/-- A call of hindcast/hindcastref01.GetRow. -/
def c27 (b : Sl) (most : Int) (w : World) (R : Sl → Int → World → Prop) : Prop :=
  CallK Try.prog 27 [.slice b.a b.len b.cap, .int .i64 most] [.one .sl, .one (.i .i64)] w R

/-- A call of hindcast/hindcastlaw01.row. -/
def c28 (in_ : Sl) (most : Int) (want : Sl) (size : Int) (w : World) (R : Sl → Bool → World → Prop) : Prop :=
  CallK Try.prog 28 [.slice in_.a in_.len in_.cap, .int .i64 most, .slice want.a want.len want.cap, .int .i64 size] [.one .sl, .one .b] w R

/-- A call of hindcast/hindcastlaw01.rows. -/
def c29 (a : Sl) (b : Sl) (w : World) (R : Bool → World → Prop) : Prop :=
  CallK Try.prog 29 [.slice a.a a.len a.cap, .slice b.a b.len b.cap] [.one .b] w R

/-- A call of hindcast/hindcastlaw01.apart. -/
def c30 (a : Sl) (b : Sl) (w : World) (R : Bool → World → Prop) : Prop :=
  CallK Try.prog 30 [.slice a.a a.len a.cap, .slice b.a b.len b.cap] [.one .b] w R

/-- A call of hindcast/pack.Sum. -/
def c31 (b : Sl) (w : World) (R : Int → World → Prop) : Prop :=
  CallK Try.prog 31 [.slice b.a b.len b.cap] [.one (.i .u32)] w R

/-- A call of hindcast/hindcastref01.Sum. -/
def c32 (b : Sl) (w : World) (R : Int → World → Prop) : Prop :=
  CallK Try.prog 32 [.slice b.a b.len b.cap] [.one (.i .u32)] w R

/-- A call of hindcast/pack.GetRow. -/
def c33 (b : Sl) (most : Int) (w : World) (R : Sl → Int → World → Prop) : Prop :=
  CallK Try.prog 33 [.slice b.a b.len b.cap, .int .i64 most] [.one .sl, .one (.i .i64)] w R

/-- A call of hindcast/pack.add. -/
def c34 (b : Sl) (n_ : Int) (w : World) (R : Sl → World → Prop) : Prop :=
  CallK Try.prog 34 [.slice b.a b.len b.cap, .int .u64 n_] [.one .sl] w R

/-- A call of hindcast/pack.fresh. -/
def c35 (b : Sl) (w : World) (R : Sl → World → Prop) : Prop :=
  CallK Try.prog 35 [.slice b.a b.len b.cap] [.one .sl] w R

/-- A call of hindcast/pack.signed. -/
def c36 (n_ : Int) (w : World) (R : Int → World → Prop) : Prop :=
  CallK Try.prog 36 [.int .i64 n_] [.one (.i .u64)] w R

/-- A call of hindcast/pack.row. -/
def c37 (l : Sl) (w : World) (R : Sl → World → Prop) : Prop :=
  CallK Try.prog 37 [.slice l.a l.len l.cap] [.one .sl] w R

/-- A call of hindcast/hindcastref01.folded. -/
def c38 (n_ : Int) (w : World) (R : Int → World → Prop) : Prop :=
  CallK Try.prog 38 [.int .i64 n_] [.one (.i .u64)] w R

/-- A call of hindcast/hindcastref01.shortest. -/
def c39 (l : Sl) (w : World) (R : Sl → World → Prop) : Prop :=
  CallK Try.prog 39 [.slice l.a l.len l.cap] [.one .sl] w R

/-- A call of hindcast/pack.plain. -/
def c40 (n_ : Int) (w : World) (R : Int → World → Prop) : Prop :=
  CallK Try.prog 40 [.int .u64 n_] [.one (.i .i64)] w R

/-- A call of hindcast/hindcastref01.unfolded. -/
def c41 (n_ : Int) (w : World) (R : Int → World → Prop) : Prop :=
  CallK Try.prog 41 [.int .u64 n_] [.one (.i .i64)] w R

/-- A call of hindcast/hindcastref01.row. -/
def c42 (b : Sl) (n_ : Int) (form : Int) (w : World) (R : Sl → Int → World → Prop) : Prop :=
  CallK Try.prog 42 [.slice b.a b.len b.cap, .int .i64 n_, .int .u8 form] [.one .sl, .one (.i .i64)] w R

/-- A call of (*hindcast/pack.reader).number. -/
def c43 (r : Option Addr) (w : World) (R : Int → World → Prop) : Prop :=
  CallK Try.prog 43 [.pointer r] [.one (.i .u64)] w R

/-- A call of (*hindcast/pack.reader).read. -/
def c44 (r : Option Addr) (form : Int) (n_ : Int) (w : World) (R : Sl → World → Prop) : Prop :=
  CallK Try.prog 44 [.pointer r, .int .u8 form, .int .u64 n_] [.one .sl] w R

/-- A call of hindcast/pack.row$1. -/
def c45 (form : Int) (t1 : Option Addr) (t2 : Option Addr) (w : World) (R : Sl → World → Prop) : Prop :=
  CallK Try.prog 45 [.int .u8 form, .pointer t1, .pointer t2] [.one .sl] w R

/-- A call of hindcast/pack.written. -/
def c46 (form : Int) (b : Sl) (l : Sl) (w : World) (R : Sl → World → Prop) : Prop :=
  CallK Try.prog 46 [.int .u8 form, .slice b.a b.len b.cap, .slice l.a l.len l.cap] [.one .sl] w R

/-- A call of hindcast/hindcastref01.forms. -/
def c47 (l : Sl) (w : World) (R : Sl → Sl → Sl → World → Prop) : Prop :=
  CallK Try.prog 47 [.slice l.a l.len l.cap] [.agg [.sl, .sl, .sl]] w R

/-- A call of hindcast/pack.runs. -/
def c48 (l : Sl) (w : World) (R : Sl → World → Prop) : Prop :=
  CallK Try.prog 48 [.slice l.a l.len l.cap] [.one .sl] w R

/-- gosem.cut.init. -/
def f2 (w : World) (R : World → Prop) : Prop :=
  CallX Try.prog 1 [] [] w fun  (w : World) =>
  R w

theorem f2_eq (w : World) (R : World → Prop) :
    f2  w R = dFunc Try.prog ⟨[], []⟩ Try.f2 [] (fun v w' => viewRet [] v R w') w := by kernel_rfl

theorem c2_of {w : World} {R : World → Prop} (h : f2  w R) : c2  w R :=
  callK_of okP Try.func2 (by rw [← f2_eq]; exact h)

/-- hindcast/hindcastlaw01.PackPuts. -/
def f3 (b : Sl) (n_ : Int) (m : Int) (s : ByteArray) (l : Sl) (w : World) (R : Bool → World → Prop) : Prop :=
  c8  w fun (head : Bool) (w : World) =>
  Nw (.cells #[.slice none 0 0] 29) w fun (o : Addr) (w : World) =>
  ∃ Inv_ : Sl → Sl → Int → Nat → World → Prop, (∃ n : Nat, Inv_ ⟨none, 0, 0⟩ ⟨none, 0, 0⟩ 0 n w) ∧ ∀ kept : Sl, ∀ row : Sl, ∀ turn : Int, ∀ m2 : Nat, ∀ w : World, Inv_ kept row turn m2 w → (if (decide (turn < 3)) = true then (c9 b w fun (x : Sl) (w : World) =>
  Cut ⟨x.a, x.len, x.cap⟩ 0 (b.len : Int) (x.cap : Int) 1 fun (in_ : Sl) =>
  ∃ J_ : Sl → World → Prop, (if (turn == 0) = true then (Mk [.int .i64 0] 2 8 (IntKind.i64.wrap ((l.len : Int) + 80)) (IntKind.i64.wrap ((l.len : Int) + 80)) w fun (row2 : Sl) (w : World) =>
  J_ row2 w) else (J_ row w)) ∧ ∀ row3 : Sl, ∀ w : World, J_ row3 w → (∃ Inv_2 : Int → Nat → World → Prop, (∃ n : Nat, Inv_2 (l.len : Int) n w) ∧ ∀ i : Int, ∀ m4 : Nat, ∀ w : World, Inv_2 i m4 w → (if (decide (i < (row3.len : Int))) = true then (Ix row3.a row3.len i 1 fun (a : Addr) =>
  St a (.int .i64 0) w fun (w : World) =>
  ∃ m5 : Nat, m5 < m4 ∧ Inv_2 (IntKind.i64.wrap (i + 1)) m5 w) else (Run (.i .i64) Try.prog (Builtin.copy_ #[24, 24] 3 #[.slice row3.a row3.len row3.cap, .slice l.a l.len l.cap]) w fun (n_2 : Int) (w : World) =>
  c10 in_ n_ w fun (p : Sl) (w : World) =>
  c11 in_ m w fun (q : Sl) (w : World) =>
  c12 in_ s w fun (r : Sl) (w : World) =>
  Cut ⟨row3.a, row3.len, row3.cap⟩ 0 (l.len : Int) (row3.cap : Int) 1 fun (s2 : Sl) =>
  c13 in_ s2 w fun (u : Sl) (w : World) =>
  ∃ J_2 : Bool → World → Prop, (Dr w fun (w : World) =>
  RdB w ⟨p.a, p.len, p.cap⟩ fun (x2 : ByteArray) =>
  c14 b n_ w fun (r2 : Sl) (w : World) =>
  BytesAt w ⟨p.a, p.len, p.cap⟩ x2 ∧ (RdB w ⟨r2.a, r2.len, r2.cap⟩ fun (x3 : ByteArray) =>
  if (x2.toList == x3.toList) = true then (RdB w ⟨q.a, q.len, q.cap⟩ fun (x4 : ByteArray) =>
  c15 b m w fun (r3 : Sl) (w : World) =>
  BytesAt w ⟨q.a, q.len, q.cap⟩ x4 ∧ (RdB w ⟨r3.a, r3.len, r3.cap⟩ fun (x5 : ByteArray) =>
  if (x4.toList == x5.toList) = true then (RdB w ⟨r.a, r.len, r.cap⟩ fun (x6 : ByteArray) =>
  c16 b s w fun (r4 : Sl) (w : World) =>
  BytesAt w ⟨r.a, r.len, r.cap⟩ x6 ∧ (RdB w ⟨r4.a, r4.len, r4.cap⟩ fun (x7 : ByteArray) =>
  if (x6.toList == x7.toList) = true then (RdB w ⟨u.a, u.len, u.cap⟩ fun (x8 : ByteArray) =>
  c17 b l w fun (r5 : Sl) (w : World) =>
  BytesAt w ⟨u.a, u.len, u.cap⟩ x8 ∧ (RdB w ⟨r5.a, r5.len, r5.cap⟩ fun (x9 : ByteArray) =>
  J_2 (x8.toList == x9.toList) w)) else (J_2 false w))) else (J_2 false w))) else (J_2 false w))) ∧ ∀ one : Bool, ∀ w : World, J_2 one w → (c18 x b w fun (k : Bool) (w : World) =>
  ∃ Inv_3 : Bool → Int → Nat → World → Prop, (∃ n : Nat, Inv_3 k 0 n w) ∧ ∀ k2 : Bool, ∀ i2 : Int, ∀ m6 : Nat, ∀ w : World, Inv_3 k2 i2 m6 w → (if (decide (i2 < (row3.len : Int))) = true then (∃ J_3 : Bool → World → Prop, (Dr w fun (w : World) =>
  if k2 = true then (if (decide (i2 < (l.len : Int))) = true then (Ix row3.a row3.len i2 1 fun (a2 : Addr) =>
  Ld (.i .i64) w a2 fun (x10 : Int) =>
  Ix l.a l.len i2 1 fun (a3 : Addr) =>
  Ld (.i .i64) w a3 fun (x11 : Int) =>
  if (x10 == x11) = true then (J_3 true w) else (if (decide (i2 ≥ (l.len : Int))) = true then (Ix row3.a row3.len i2 1 fun (a4 : Addr) =>
  Ld (.i .i64) w a4 fun (x12 : Int) =>
  J_3 (x12 == 0) w) else (J_3 false w))) else (if (decide (i2 ≥ (l.len : Int))) = true then (Ix row3.a row3.len i2 1 fun (a5 : Addr) =>
  Ld (.i .i64) w a5 fun (x13 : Int) =>
  J_3 (x13 == 0) w) else (J_3 false w))) else (J_3 false w)) ∧ ∀ k3 : Bool, ∀ w : World, J_3 k3 w → ((2 : Int) ≠ 0 ∧ (Ix row3.a row3.len i2 1 fun (a6 : Addr) =>
  St a6 (.int .i64 (IntKind.i64.wrap ((-7) - (Int.tmod i2 2)))) w fun (w : World) =>
  ∃ m7 : Nat, m7 < m6 ∧ Inv_3 k3 (IntKind.i64.wrap (i2 + 1)) m7 w))) else (Cut ⟨row3.a, row3.len, row3.cap⟩ 0 (l.len : Int) (row3.cap : Int) 1 fun (s3 : Sl) =>
  c13 b s3 w fun (again : Sl) (w : World) =>
  ∃ J_4 : Bool → World → Prop, (Dr w fun (w : World) =>
  if k2 = true then (RdB w ⟨again.a, again.len, again.cap⟩ fun (x14 : ByteArray) =>
  Cut ⟨row3.a, row3.len, row3.cap⟩ 0 (l.len : Int) (row3.cap : Int) 1 fun (s4 : Sl) =>
  c17 b s4 w fun (r6 : Sl) (w : World) =>
  BytesAt w ⟨again.a, again.len, again.cap⟩ x14 ∧ (RdB w ⟨r6.a, r6.len, r6.cap⟩ fun (x15 : ByteArray) =>
  J_4 (x14.toList == x15.toList) w)) else (J_4 false w)) ∧ ∀ k4 : Bool, ∀ w : World, J_4 k4 w → (Nw (.cells #[.slice p.a p.len p.cap, .slice q.a q.len q.cap, .slice r.a r.len r.cap, .slice u.a u.len u.cap, .slice x.a x.len x.cap] 22) w fun (b2 : Addr) (w : World) =>
  Run .sl Try.prog (Builtin.append_ #[30, 30] 30 #[.slice kept.a kept.len kept.cap, .slice (some b2) 5 5]) w fun (kept2 : Sl) (w : World) =>
  if (cond (cond (!head) true (!one)) true (!k4)) = true then (R false w) else (∃ m3 : Nat, m3 < m2 ∧ Inv_ kept2 row3 (IntKind.i64.wrap (turn + 1)) m3 w))))))))) else (Dr w fun (w : World) =>
  c14 b n_ w fun (r7 : Sl) (w : World) =>
  RdB w ⟨r7.a, r7.len, r7.cap⟩ fun (x16 : ByteArray) =>
  c15 b m w fun (r8 : Sl) (w : World) =>
  BytesAt w ⟨r7.a, r7.len, r7.cap⟩ x16 ∧ (RdB w ⟨r8.a, r8.len, r8.cap⟩ fun (x17 : ByteArray) =>
  c16 b s w fun (r9 : Sl) (w : World) =>
  BytesAt w ⟨r8.a, r8.len, r8.cap⟩ x17 ∧ BytesAt w ⟨r7.a, r7.len, r7.cap⟩ x16 ∧ (RdB w ⟨r9.a, r9.len, r9.cap⟩ fun (x18 : ByteArray) =>
  c17 b l w fun (r10 : Sl) (w : World) =>
  BytesAt w ⟨r9.a, r9.len, r9.cap⟩ x18 ∧ BytesAt w ⟨r8.a, r8.len, r8.cap⟩ x17 ∧ BytesAt w ⟨r7.a, r7.len, r7.cap⟩ x16 ∧ (RdB w ⟨r10.a, r10.len, r10.cap⟩ fun (x19 : ByteArray) =>
  Nw (.cells #[.string x16, .string x17, .string x18, .string x19] 9) w fun (b3 : Addr) (w : World) =>
  ∃ Inv_4 : Int → Nat → World → Prop, (∃ n : Nat, Inv_4 0 n w) ∧ ∀ i3 : Int, ∀ m8 : Nat, ∀ w : World, Inv_4 i3 m8 w → (if (decide (i3 < (kept.len : Int))) = true then (Dr w fun (w : World) =>
  (5 : Int) ≠ 0 ∧ (if (decide ((Int.tmod i3 5) < 4)) = true then (Ix kept.a kept.len i3 1 fun (a7 : Addr) =>
  Ld .sl w a7 fun (x20 : Sl) =>
  RdB w ⟨x20.a, x20.len, x20.cap⟩ fun (x21 : ByteArray) =>
  (5 : Int) ≠ 0 ∧ (Ix (some b3) 4 (Int.tmod i3 5) 1 fun (a8 : Addr) =>
  Ld .s w a8 fun (x22 : ByteArray) =>
  if (!(x21.toList == x22.toList)) = true then (R false w) else (∃ m9 : Nat, m9 < m8 ∧ Inv_4 (IntKind.i64.wrap (i3 + 1)) m9 w))) else (∃ m9 : Nat, m9 < m8 ∧ Inv_4 (IntKind.i64.wrap (i3 + 1)) m9 w))) else (c19 (some o) kept w fun  (w : World) =>
  c20 (some o) w fun (looks : Bool) (w : World) =>
  Ix kept.a kept.len 14 1 fun (a9 : Addr) =>
  Ld .sl w a9 fun (x23 : Sl) =>
  Cut ⟨x23.a, x23.len, x23.cap⟩ 0 (b.len : Int) (x23.cap : Int) 1 fun (y : Sl) =>
  Nw (.cells #[] 5) w fun (b4 : Addr) (w : World) =>
  Run .sl Try.prog (Builtin.append_ #[22, 22] 22 #[.slice (some b4) 0 0, .slice y.a y.len y.cap]) w fun (z : Sl) (w : World) =>
  Dr w fun (w : World) =>
  if looks = true then (c10 y n_ w fun (r11 : Sl) (w : World) =>
  RdB w ⟨r11.a, r11.len, r11.cap⟩ fun (x24 : ByteArray) =>
  c14 z n_ w fun (r12 : Sl) (w : World) =>
  BytesAt w ⟨r11.a, r11.len, r11.cap⟩ x24 ∧ (RdB w ⟨r12.a, r12.len, r12.cap⟩ fun (x25 : ByteArray) =>
  if (x24.toList == x25.toList) = true then (c11 y m w fun (r13 : Sl) (w : World) =>
  RdB w ⟨r13.a, r13.len, r13.cap⟩ fun (x26 : ByteArray) =>
  c15 z m w fun (r14 : Sl) (w : World) =>
  BytesAt w ⟨r13.a, r13.len, r13.cap⟩ x26 ∧ (RdB w ⟨r14.a, r14.len, r14.cap⟩ fun (x27 : ByteArray) =>
  if (x26.toList == x27.toList) = true then (c12 y s w fun (r15 : Sl) (w : World) =>
  RdB w ⟨r15.a, r15.len, r15.cap⟩ fun (x28 : ByteArray) =>
  c16 z s w fun (r16 : Sl) (w : World) =>
  BytesAt w ⟨r15.a, r15.len, r15.cap⟩ x28 ∧ (RdB w ⟨r16.a, r16.len, r16.cap⟩ fun (x29 : ByteArray) =>
  if (x28.toList == x29.toList) = true then (c13 y l w fun (r17 : Sl) (w : World) =>
  RdB w ⟨r17.a, r17.len, r17.cap⟩ fun (x30 : ByteArray) =>
  c17 z l w fun (r18 : Sl) (w : World) =>
  BytesAt w ⟨r17.a, r17.len, r17.cap⟩ x30 ∧ (RdB w ⟨r18.a, r18.len, r18.cap⟩ fun (x31 : ByteArray) =>
  R (x30.toList == x31.toList) w)) else (R false w))) else (R false w))) else (R false w))) else (R false w))))))))

theorem f3_eq (b : Sl) (n_ : Int) (m : Int) (s : ByteArray) (l : Sl) (w : World) (R : Bool → World → Prop) :
    f3 b n_ m s l w R = dFunc Try.prog ⟨[(6, ⟨[(13, .sl), (14, .sl), (15, .i .i64)], [0, 1, 2, 3, 4, 11, 12]⟩), (13, ⟨[(18, .i .i64)], [0, 1, 2, 3, 4, 11, 12, 13, 14, 15, 16, 17]⟩), (24, ⟨[(24, .b), (25, .i .i64)], [0, 1, 2, 3, 4, 11, 12, 13, 14, 15, 16, 19, 20, 21, 22, 23]⟩), (35, ⟨[(28, .i .i64)], [0, 1, 2, 3, 4, 12, 13, 27]⟩)], [(12, ⟨[(14, .sl)], [0, 1, 2, 3, 4, 11, 12, 13, 15, 16, 17]⟩), (22, ⟨[(23, .b)], [0, 1, 2, 3, 4, 11, 12, 13, 14, 15, 16, 19, 20, 21, 22]⟩), (27, ⟨[(24, .b)], [0, 1, 2, 3, 4, 11, 12, 13, 14, 15, 16, 19, 20, 21, 22, 23, 25]⟩), (30, ⟨[(24, .b)], [0, 1, 2, 3, 4, 11, 12, 13, 14, 15, 16, 19, 20, 21, 22, 23]⟩)]⟩ Try.f3 [.slice b.a b.len b.cap, .int .u64 n_, .int .i64 m, .string s, .slice l.a l.len l.cap] (fun v w' => viewRet [.one .b] v R w') w := by kernel_rfl

theorem c3_of {b : Sl} {n_ : Int} {m : Int} {s : ByteArray} {l : Sl} {w : World} {R : Bool → World → Prop} (h : f3 b n_ m s l w R) : c3 b n_ m s l w R :=
  callK_of okP Try.func3 (by rw [← f3_eq]; exact h)

/-- hindcast/hindcastlaw01.PackGets. -/
def f4 (b : Sl) (most : Int) (w : World) (R : Bool → World → Prop) : Prop :=
  c8  w fun (head : Bool) (w : World) =>
  c9 b w fun (x : Sl) (w : World) =>
  Cut ⟨x.a, x.len, x.cap⟩ 0 (b.len : Int) (x.cap : Int) 1 fun (in_ : Sl) =>
  c21 in_ w fun (n_ : Int) (k : Int) (w : World) =>
  c22 b w fun (m : Int) (j : Int) (w : World) =>
  c23 in_ w fun (a : Int) (c : Int) (w : World) =>
  c24 b w fun (d : Int) (e : Int) (w : World) =>
  c25 in_ w fun (s : ByteArray) (f : Int) (w : World) =>
  c26 b w fun (t : ByteArray) (g : Int) (w : World) =>
  if (cond (cond (cond (cond (cond (cond (!head) true (n_ != m)) true (k != j)) true (a != d)) true (c != e)) true (!(s.toList == t.toList))) true (f != g)) = true then (R false w) else (c27 b most w fun (want : Sl) (size : Int) (w : World) =>
  c28 in_ most want size w fun (one : Sl) (two : Bool) (w : World) =>
  c28 in_ most want size w fun (three : Sl) (four : Bool) (w : World) =>
  c29 one want w fun (again : Bool) (w : World) =>
  ∃ J_ : World → Prop, (if (!two) = true then (R false w) else (if (!four) = true then (R false w) else (if (!again) = true then (R false w) else (c30 one three w fun (r : Bool) (w : World) =>
  if (!r) = true then (R false w) else (J_  w))))) ∧ ∀ w : World, J_  w → (c18 x b w fun (keeps : Bool) (w : World) =>
  ∃ Inv_ : Sl → Int → Nat → World → Prop, (∃ n : Nat, Inv_ ⟨none, 0, 0⟩ 0 n w) ∧ ∀ turned : Sl, ∀ i : Int, ∀ m2 : Nat, ∀ w : World, Inv_ turned i m2 w → (if (decide (i < (in_.len : Int))) = true then (Ix in_.a in_.len i 1 fun (a2 : Addr) =>
  Ld (.i .u8) w a2 fun (x2 : Int) =>
  Ix in_.a in_.len i 1 fun (a3 : Addr) =>
  St a3 (.int .u8 (IntKind.u8.wrap (x2 + 1))) w fun (w : World) =>
  Ix in_.a in_.len i 1 fun (a4 : Addr) =>
  Ld (.i .u8) w a4 fun (x3 : Int) =>
  Nw (.cells #[.int .u8 x3] 5) w fun (b2 : Addr) (w : World) =>
  Run .sl Try.prog (Builtin.append_ #[22, 22] 22 #[.slice turned.a turned.len turned.cap, .slice (some b2) 1 1]) w fun (turned2 : Sl) (w : World) =>
  ∃ m3 : Nat, m3 < m2 ∧ Inv_ turned2 (IntKind.i64.wrap (i + 1)) m3 w) else (c21 in_ w fun (n_2 : Int) (k2 : Int) (w : World) =>
  c22 turned w fun (m4 : Int) (j2 : Int) (w : World) =>
  c23 in_ w fun (a5 : Int) (c2 : Int) (w : World) =>
  c24 turned w fun (d2 : Int) (e2 : Int) (w : World) =>
  c25 in_ w fun (s2 : ByteArray) (f2 : Int) (w : World) =>
  c26 turned w fun (t2 : ByteArray) (g2 : Int) (w : World) =>
  c27 turned most w fun (want2 : Sl) (size2 : Int) (w : World) =>
  c28 in_ most want2 size2 w fun (x_ : Sl) (five : Bool) (w : World) =>
  if (cond (cond (cond (cond (cond (cond (n_2 != m4) true (k2 != j2)) true (a5 != d2)) true (c2 != e2)) true (!(s2.toList == t2.toList))) true (f2 != g2)) true (!five)) = true then (R false w) else (R keeps w)))))

theorem f4_eq (b : Sl) (most : Int) (w : World) (R : Bool → World → Prop) :
    f4 b most w R = dFunc Try.prog ⟨[(21, ⟨[(28, .sl), (29, .i .i64)], [1, 7, 27]⟩)], [(18, ⟨[], [0, 1, 6, 7]⟩)]⟩ Try.f4 [.slice b.a b.len b.cap, .int .i64 most] (fun v w' => viewRet [.one .b] v R w') w := by kernel_rfl

theorem c4_of {b : Sl} {most : Int} {w : World} {R : Bool → World → Prop} (h : f4 b most w R) : c4 b most w R :=
  callK_of okP Try.func4 (by rw [← f4_eq]; exact h)

/-- hindcast/hindcastlaw01.PackSums. -/
def f5 (b : Sl) (w : World) (R : Bool → World → Prop) : Prop :=
  c8  w fun (head : Bool) (w : World) =>
  c9 b w fun (x : Sl) (w : World) =>
  Cut ⟨x.a, x.len, x.cap⟩ 0 (b.len : Int) (x.cap : Int) 1 fun (s : Sl) =>
  c31 s w fun (s2 : Int) (w : World) =>
  c18 x b w fun (k : Bool) (w : World) =>
  ∃ Inv_ : Sl → Int → Nat → World → Prop, (∃ n : Nat, Inv_ ⟨none, 0, 0⟩ 0 n w) ∧ ∀ turned : Sl, ∀ i : Int, ∀ m : Nat, ∀ w : World, Inv_ turned i m w → (if (decide (i < (b.len : Int))) = true then (Ix x.a x.len i 1 fun (a : Addr) =>
  Ld (.i .u8) w a fun (x2 : Int) =>
  Ix x.a x.len i 1 fun (a2 : Addr) =>
  St a2 (.int .u8 (IntKind.u8.wrap (x2 + 1))) w fun (w : World) =>
  Ix x.a x.len i 1 fun (a3 : Addr) =>
  Ld (.i .u8) w a3 fun (x3 : Int) =>
  Nw (.cells #[.int .u8 x3] 5) w fun (b2 : Addr) (w : World) =>
  Run .sl Try.prog (Builtin.append_ #[22, 22] 22 #[.slice turned.a turned.len turned.cap, .slice (some b2) 1 1]) w fun (turned2 : Sl) (w : World) =>
  ∃ m2 : Nat, m2 < m ∧ Inv_ turned2 (IntKind.i64.wrap (i + 1)) m2 w) else (if head = true then (if k = true then (c32 b w fun (r : Int) (w : World) =>
  if (s2 == r) = true then (Cut ⟨x.a, x.len, x.cap⟩ 0 (b.len : Int) (x.cap : Int) 1 fun (s3 : Sl) =>
  c31 s3 w fun (r2 : Int) (w : World) =>
  c32 turned w fun (r3 : Int) (w : World) =>
  R (r2 == r3) w) else (R false w)) else (R false w)) else (R false w)))

theorem f5_eq (b : Sl) (w : World) (R : Bool → World → Prop) :
    f5 b w R = dFunc Try.prog ⟨[(7, ⟨[(7, .sl), (8, .i .i64)], [0, 3, 4, 5, 6]⟩)], []⟩ Try.f5 [.slice b.a b.len b.cap] (fun v w' => viewRet [.one .b] v R w') w := by kernel_rfl

theorem c5_of {b : Sl} {w : World} {R : Bool → World → Prop} (h : f5 b w R) : c5 b w R :=
  callK_of okP Try.func5 (by rw [← f5_eq]; exact h)

/-- hindcast/hindcastlaw01.PackBack. -/
def f6 (n_ : Int) (m : Int) (s : ByteArray) (l : Sl) (b : Sl) (w : World) (R : Bool → World → Prop) : Prop :=
  c8  w fun (head : Bool) (w : World) =>
  if (!head) = true then (R false w) else (c10 ⟨none, 0, 0⟩ n_ w fun (r : Sl) (w : World) =>
  Run .sl Try.prog (Builtin.append_ #[22, 22] 22 #[.slice r.a r.len r.cap, .slice b.a b.len b.cap]) w fun (s2 : Sl) (w : World) =>
  c21 s2 w fun (x : Int) (k : Int) (w : World) =>
  c11 ⟨none, 0, 0⟩ m w fun (r2 : Sl) (w : World) =>
  Run .sl Try.prog (Builtin.append_ #[22, 22] 22 #[.slice r2.a r2.len r2.cap, .slice b.a b.len b.cap]) w fun (s3 : Sl) (w : World) =>
  c23 s3 w fun (y : Int) (j : Int) (w : World) =>
  c12 ⟨none, 0, 0⟩ s w fun (r3 : Sl) (w : World) =>
  Run .sl Try.prog (Builtin.append_ #[22, 22] 22 #[.slice r3.a r3.len r3.cap, .slice b.a b.len b.cap]) w fun (s4 : Sl) (w : World) =>
  c25 s4 w fun (t : ByteArray) (i : Int) (w : World) =>
  ∃ J_ : World → Prop, (if (x != n_) = true then (R false w) else (if (y != m) = true then (R false w) else (if (!(t.toList == s.toList)) = true then (R false w) else (c10 ⟨none, 0, 0⟩ n_ w fun (r4 : Sl) (w : World) =>
  if (k != (r4.len : Int)) = true then (R false w) else (c11 ⟨none, 0, 0⟩ m w fun (r5 : Sl) (w : World) =>
  if (j != (r5.len : Int)) = true then (R false w) else (c12 ⟨none, 0, 0⟩ s w fun (r6 : Sl) (w : World) =>
  if (i != (r6.len : Int)) = true then (R false w) else (J_  w))))))) ∧ ∀ w : World, J_  w → (∃ J_2 : World → Prop, (if (decide ((l.len : Int) ≤ 100000)) = true then (c13 ⟨none, 0, 0⟩ l w fun (w_ : Sl) (w : World) =>
  Nw (.cells #[] 5) w fun (b2 : Addr) (w : World) =>
  Run .sl Try.prog (Builtin.append_ #[22, 22] 22 #[.slice (some b2) 0 0, .slice w_.a w_.len w_.cap]) w fun (s5 : Sl) (w : World) =>
  Run .sl Try.prog (Builtin.append_ #[22, 22] 22 #[.slice s5.a s5.len s5.cap, .slice b.a b.len b.cap]) w fun (s6 : Sl) (w : World) =>
  c33 s6 (l.len : Int) w fun (r7 : Sl) (size : Int) (w : World) =>
  if (cond (size != (w_.len : Int)) true ((r7.len : Int) != (l.len : Int))) = true then (R false w) else (∃ Inv_ : Int → Nat → World → Prop, (∃ n : Nat, Inv_ 0 n w) ∧ ∀ o : Int, ∀ m2 : Nat, ∀ w : World, Inv_ o m2 w → (if (decide (o < (l.len : Int))) = true then (Dr w fun (w : World) =>
  Ix r7.a r7.len o 1 fun (a : Addr) =>
  Ld (.i .i64) w a fun (x2 : Int) =>
  Ix l.a l.len o 1 fun (a2 : Addr) =>
  Ld (.i .i64) w a2 fun (x3 : Int) =>
  if (x2 != x3) = true then (R false w) else (∃ m3 : Nat, m3 < m2 ∧ Inv_ (IntKind.i64.wrap (o + 1)) m3 w)) else (c33 w_ (IntKind.i64.wrap ((l.len : Int) - 1)) w fun (short : Sl) (none_ : Int) (w : World) =>
  if (cond (cond (none_ != 0) true ((short.len : Int) != 0)) true (decide ((w_.len : Int) > (IntKind.i64.wrap (5 + (IntKind.i64.wrap (10 * (l.len : Int)))))))) = true then (R false w) else (J_2  w))))) else (J_2  w)) ∧ ∀ w : World, J_2  w → (c21 b w fun (x4 : Int) (k2 : Int) (w : World) =>
  c23 b w fun (y2 : Int) (j2 : Int) (w : World) =>
  c25 b w fun (t2 : ByteArray) (i2 : Int) (w : World) =>
  c33 b 100000 w fun (r8 : Sl) (size2 : Int) (w : World) =>
  if (cond (cond (cond (cond (cond (cond (cond (decide (k2 < 0)) true (decide (j2 < 0))) true (decide (i2 < 0))) true (decide (size2 < 0))) true (decide (k2 > (b.len : Int)))) true (decide (j2 > (b.len : Int)))) true (decide (i2 > (b.len : Int)))) true (decide (size2 > (b.len : Int)))) = true then (R false w) else (Dr w fun (w : World) =>
  if (k2 == 0) = true then (if (j2 == 0) = true then (if (i2 == 0) = true then (if (size2 == 0) = true then (R true w) else (Cut ⟨b.a, b.len, b.cap⟩ 0 size2 (b.cap : Int) 1 fun (s7 : Sl) =>
  RdB w ⟨s7.a, s7.len, s7.cap⟩ fun (x5 : ByteArray) =>
  c13 ⟨none, 0, 0⟩ r8 w fun (r9 : Sl) (w : World) =>
  BytesAt w ⟨s7.a, s7.len, s7.cap⟩ x5 ∧ (RdB w ⟨r9.a, r9.len, r9.cap⟩ fun (x6 : ByteArray) =>
  R (x6.toList == x5.toList) w))) else (Cut ⟨b.a, b.len, b.cap⟩ 0 i2 (b.cap : Int) 1 fun (s8 : Sl) =>
  RdB w ⟨s8.a, s8.len, s8.cap⟩ fun (x7 : ByteArray) =>
  c12 ⟨none, 0, 0⟩ t2 w fun (r10 : Sl) (w : World) =>
  BytesAt w ⟨s8.a, s8.len, s8.cap⟩ x7 ∧ (RdB w ⟨r10.a, r10.len, r10.cap⟩ fun (x8 : ByteArray) =>
  if (x8.toList == x7.toList) = true then (if (size2 == 0) = true then (R true w) else (Cut ⟨b.a, b.len, b.cap⟩ 0 size2 (b.cap : Int) 1 fun (s9 : Sl) =>
  RdB w ⟨s9.a, s9.len, s9.cap⟩ fun (x9 : ByteArray) =>
  c13 ⟨none, 0, 0⟩ r8 w fun (r11 : Sl) (w : World) =>
  BytesAt w ⟨s9.a, s9.len, s9.cap⟩ x9 ∧ (RdB w ⟨r11.a, r11.len, r11.cap⟩ fun (x10 : ByteArray) =>
  R (x10.toList == x9.toList) w))) else (R false w)))) else (Cut ⟨b.a, b.len, b.cap⟩ 0 j2 (b.cap : Int) 1 fun (s10 : Sl) =>
  RdB w ⟨s10.a, s10.len, s10.cap⟩ fun (x11 : ByteArray) =>
  c11 ⟨none, 0, 0⟩ y2 w fun (r12 : Sl) (w : World) =>
  BytesAt w ⟨s10.a, s10.len, s10.cap⟩ x11 ∧ (RdB w ⟨r12.a, r12.len, r12.cap⟩ fun (x12 : ByteArray) =>
  if (x12.toList == x11.toList) = true then (if (i2 == 0) = true then (if (size2 == 0) = true then (R true w) else (Cut ⟨b.a, b.len, b.cap⟩ 0 size2 (b.cap : Int) 1 fun (s11 : Sl) =>
  RdB w ⟨s11.a, s11.len, s11.cap⟩ fun (x13 : ByteArray) =>
  c13 ⟨none, 0, 0⟩ r8 w fun (r13 : Sl) (w : World) =>
  BytesAt w ⟨s11.a, s11.len, s11.cap⟩ x13 ∧ (RdB w ⟨r13.a, r13.len, r13.cap⟩ fun (x14 : ByteArray) =>
  R (x14.toList == x13.toList) w))) else (Cut ⟨b.a, b.len, b.cap⟩ 0 i2 (b.cap : Int) 1 fun (s12 : Sl) =>
  RdB w ⟨s12.a, s12.len, s12.cap⟩ fun (x15 : ByteArray) =>
  c12 ⟨none, 0, 0⟩ t2 w fun (r14 : Sl) (w : World) =>
  BytesAt w ⟨s12.a, s12.len, s12.cap⟩ x15 ∧ (RdB w ⟨r14.a, r14.len, r14.cap⟩ fun (x16 : ByteArray) =>
  if (x16.toList == x15.toList) = true then (if (size2 == 0) = true then (R true w) else (Cut ⟨b.a, b.len, b.cap⟩ 0 size2 (b.cap : Int) 1 fun (s13 : Sl) =>
  RdB w ⟨s13.a, s13.len, s13.cap⟩ fun (x17 : ByteArray) =>
  c13 ⟨none, 0, 0⟩ r8 w fun (r15 : Sl) (w : World) =>
  BytesAt w ⟨s13.a, s13.len, s13.cap⟩ x17 ∧ (RdB w ⟨r15.a, r15.len, r15.cap⟩ fun (x18 : ByteArray) =>
  R (x18.toList == x17.toList) w))) else (R false w)))) else (R false w)))) else (Cut ⟨b.a, b.len, b.cap⟩ 0 k2 (b.cap : Int) 1 fun (s14 : Sl) =>
  RdB w ⟨s14.a, s14.len, s14.cap⟩ fun (x19 : ByteArray) =>
  c10 ⟨none, 0, 0⟩ x4 w fun (r16 : Sl) (w : World) =>
  BytesAt w ⟨s14.a, s14.len, s14.cap⟩ x19 ∧ (RdB w ⟨r16.a, r16.len, r16.cap⟩ fun (x20 : ByteArray) =>
  if (x20.toList == x19.toList) = true then (if (j2 == 0) = true then (if (i2 == 0) = true then (if (size2 == 0) = true then (R true w) else (Cut ⟨b.a, b.len, b.cap⟩ 0 size2 (b.cap : Int) 1 fun (s15 : Sl) =>
  RdB w ⟨s15.a, s15.len, s15.cap⟩ fun (x21 : ByteArray) =>
  c13 ⟨none, 0, 0⟩ r8 w fun (r17 : Sl) (w : World) =>
  BytesAt w ⟨s15.a, s15.len, s15.cap⟩ x21 ∧ (RdB w ⟨r17.a, r17.len, r17.cap⟩ fun (x22 : ByteArray) =>
  R (x22.toList == x21.toList) w))) else (Cut ⟨b.a, b.len, b.cap⟩ 0 i2 (b.cap : Int) 1 fun (s16 : Sl) =>
  RdB w ⟨s16.a, s16.len, s16.cap⟩ fun (x23 : ByteArray) =>
  c12 ⟨none, 0, 0⟩ t2 w fun (r18 : Sl) (w : World) =>
  BytesAt w ⟨s16.a, s16.len, s16.cap⟩ x23 ∧ (RdB w ⟨r18.a, r18.len, r18.cap⟩ fun (x24 : ByteArray) =>
  if (x24.toList == x23.toList) = true then (if (size2 == 0) = true then (R true w) else (Cut ⟨b.a, b.len, b.cap⟩ 0 size2 (b.cap : Int) 1 fun (s17 : Sl) =>
  RdB w ⟨s17.a, s17.len, s17.cap⟩ fun (x25 : ByteArray) =>
  c13 ⟨none, 0, 0⟩ r8 w fun (r19 : Sl) (w : World) =>
  BytesAt w ⟨s17.a, s17.len, s17.cap⟩ x25 ∧ (RdB w ⟨r19.a, r19.len, r19.cap⟩ fun (x26 : ByteArray) =>
  R (x26.toList == x25.toList) w))) else (R false w)))) else (Cut ⟨b.a, b.len, b.cap⟩ 0 j2 (b.cap : Int) 1 fun (s18 : Sl) =>
  RdB w ⟨s18.a, s18.len, s18.cap⟩ fun (x27 : ByteArray) =>
  c11 ⟨none, 0, 0⟩ y2 w fun (r20 : Sl) (w : World) =>
  BytesAt w ⟨s18.a, s18.len, s18.cap⟩ x27 ∧ (RdB w ⟨r20.a, r20.len, r20.cap⟩ fun (x28 : ByteArray) =>
  if (x28.toList == x27.toList) = true then (if (i2 == 0) = true then (if (size2 == 0) = true then (R true w) else (Cut ⟨b.a, b.len, b.cap⟩ 0 size2 (b.cap : Int) 1 fun (s19 : Sl) =>
  RdB w ⟨s19.a, s19.len, s19.cap⟩ fun (x29 : ByteArray) =>
  c13 ⟨none, 0, 0⟩ r8 w fun (r21 : Sl) (w : World) =>
  BytesAt w ⟨s19.a, s19.len, s19.cap⟩ x29 ∧ (RdB w ⟨r21.a, r21.len, r21.cap⟩ fun (x30 : ByteArray) =>
  R (x30.toList == x29.toList) w))) else (Cut ⟨b.a, b.len, b.cap⟩ 0 i2 (b.cap : Int) 1 fun (s20 : Sl) =>
  RdB w ⟨s20.a, s20.len, s20.cap⟩ fun (x31 : ByteArray) =>
  c12 ⟨none, 0, 0⟩ t2 w fun (r22 : Sl) (w : World) =>
  BytesAt w ⟨s20.a, s20.len, s20.cap⟩ x31 ∧ (RdB w ⟨r22.a, r22.len, r22.cap⟩ fun (x32 : ByteArray) =>
  if (x32.toList == x31.toList) = true then (if (size2 == 0) = true then (R true w) else (Cut ⟨b.a, b.len, b.cap⟩ 0 size2 (b.cap : Int) 1 fun (s21 : Sl) =>
  RdB w ⟨s21.a, s21.len, s21.cap⟩ fun (x33 : ByteArray) =>
  c13 ⟨none, 0, 0⟩ r8 w fun (r23 : Sl) (w : World) =>
  BytesAt w ⟨s21.a, s21.len, s21.cap⟩ x33 ∧ (RdB w ⟨r23.a, r23.len, r23.cap⟩ fun (x34 : ByteArray) =>
  R (x34.toList == x33.toList) w))) else (R false w)))) else (R false w)))) else (R false w)))))))

theorem f6_eq (n_ : Int) (m : Int) (s : ByteArray) (l : Sl) (b : Sl) (w : World) (R : Bool → World → Prop) :
    f6 n_ m s l b w R = dFunc Try.prog ⟨[(15, ⟨[(21, .i .i64)], [3, 4, 18, 19]⟩)], [(9, ⟨[], [3, 4]⟩), (22, ⟨[], [4]⟩)]⟩ Try.f6 [.int .u64 n_, .int .i64 m, .string s, .slice l.a l.len l.cap, .slice b.a b.len b.cap] (fun v w' => viewRet [.one .b] v R w') w := by kernel_rfl

theorem c6_of {n_ : Int} {m : Int} {s : ByteArray} {l : Sl} {b : Sl} {w : World} {R : Bool → World → Prop} (h : f6 n_ m s l b w R) : c6 n_ m s l b w R :=
  callK_of okP Try.func6 (by rw [← f6_eq]; exact h)

/-- hindcast/hindcastlaw01.PackTells. -/
def f7 (b : Sl) (at_ : Int) (bits : Int) (w : World) (R : Bool → World → Prop) : Prop :=
  c8  w fun (head : Bool) (w : World) =>
  if (cond (cond (!head) true (decide ((b.len : Int) < 4))) true (bits == 0)) = true then (R head w) else (∃ J_ : Int → World → Prop, (if (decide (at_ < 0)) = true then (J_ (IntKind.i64.wrap (0 - (IntKind.i64.wrap (at_ + 1)))) w) else (J_ at_ w)) ∧ ∀ at_2 : Int, ∀ w : World, J_ at_2 w → ((IntKind.i64.wrap ((b.len : Int) - 3) : Int) ≠ 0 ∧ (c9 b w fun (x : Sl) (w : World) =>
  Cut ⟨x.a, x.len, x.cap⟩ 0 (b.len : Int) (x.cap : Int) 1 fun (s : Sl) =>
  c31 s w fun (one : Int) (w : World) =>
  ∃ Inv_ : Int → Nat → World → Prop, (∃ n : Nat, Inv_ 0 n w) ∧ ∀ i : Int, ∀ m : Nat, ∀ w : World, Inv_ i m w → (if (decide (i < 4)) = true then (Dr w fun (w : World) =>
  Ix x.a x.len (IntKind.i64.wrap ((Int.tmod at_2 (IntKind.i64.wrap ((b.len : Int) - 3))) + i)) 1 fun (a : Addr) =>
  Ld (.i .u8) w a fun (x2 : Int) =>
  (0 : Int) ≤ (IntKind.i64.wrap (8 * i)) ∧ (Ix x.a x.len (IntKind.i64.wrap ((Int.tmod at_2 (IntKind.i64.wrap ((b.len : Int) - 3))) + i)) 1 fun (a2 : Addr) =>
  St a2 (.int .u8 (IntKind.u8.wrap ((BitVec.ofInt 8 x2 ^^^ BitVec.ofInt 8 (IntKind.u8.wrap (Int.fdiv bits (2 ^ (min (Int.toNat (IntKind.i64.wrap (8 * i))) 32))))).toNat : Nat))) w fun (w : World) =>
  ∃ m2 : Nat, m2 < m ∧ Inv_ (IntKind.i64.wrap (i + 1)) m2 w)) else (Cut ⟨x.a, x.len, x.cap⟩ 0 (b.len : Int) (x.cap : Int) 1 fun (s2 : Sl) =>
  c31 s2 w fun (two : Int) (w : World) =>
  ∃ Inv_2 : Int → Nat → World → Prop, (∃ n : Nat, Inv_2 0 n w) ∧ ∀ i2 : Int, ∀ m3 : Nat, ∀ w : World, Inv_2 i2 m3 w → (if (decide (i2 < 4)) = true then (Dr w fun (w : World) =>
  Ix x.a x.len (IntKind.i64.wrap ((Int.tmod at_2 (IntKind.i64.wrap ((b.len : Int) - 3))) + i2)) 1 fun (a3 : Addr) =>
  Ld (.i .u8) w a3 fun (x3 : Int) =>
  (0 : Int) ≤ (IntKind.i64.wrap (8 * i2)) ∧ (Ix x.a x.len (IntKind.i64.wrap ((Int.tmod at_2 (IntKind.i64.wrap ((b.len : Int) - 3))) + i2)) 1 fun (a4 : Addr) =>
  St a4 (.int .u8 (IntKind.u8.wrap ((BitVec.ofInt 8 x3 ^^^ BitVec.ofInt 8 (IntKind.u8.wrap (Int.fdiv bits (2 ^ (min (Int.toNat (IntKind.i64.wrap (8 * i2))) 32))))).toNat : Nat))) w fun (w : World) =>
  ∃ m4 : Nat, m4 < m3 ∧ Inv_2 (IntKind.i64.wrap (i2 + 1)) m4 w)) else (c18 x b w fun (k : Bool) (w : World) =>
  R (cond k (one != two) false) w)))))))

theorem f7_eq (b : Sl) (at_ : Int) (bits : Int) (w : World) (R : Bool → World → Prop) :
    f7 b at_ bits w R = dFunc Try.prog ⟨[(10, ⟨[(10, .i .i64)], [0, 1, 2, 8, 9]⟩), (15, ⟨[(12, .i .i64)], [0, 1, 2, 8, 9, 11]⟩)], [(6, ⟨[(1, .i .i64)], [0, 2]⟩)]⟩ Try.f7 [.slice b.a b.len b.cap, .int .i64 at_, .int .u32 bits] (fun v w' => viewRet [.one .b] v R w') w := by kernel_rfl

theorem c7_of {b : Sl} {at_ : Int} {bits : Int} {w : World} {R : Bool → World → Prop} (h : f7 b at_ bits w R) : c7 b at_ bits w R :=
  callK_of okP Try.func7 (by rw [← f7_eq]; exact h)

/-- hindcast/hindcastlaw01.shown. -/
def f8 (w : World) (R : Bool → World → Prop) : Prop :=
  Nw (.cells #[.int .u8 1, .int .u8 2] 5) w fun (b : Addr) (w : World) =>
  c10 ⟨some b, 2, 2⟩ 300 w fun (a : Sl) (w : World) =>
  Nw (.cells #[.int .i64 5, .int .i64 5, .int .i64 5, .int .i64 5] 2) w fun (b2 : Addr) (w : World) =>
  c13 ⟨none, 0, 0⟩ ⟨some b2, 4, 4⟩ w fun (b3 : Sl) (w : World) =>
  Nw (.cells #[.int .i64 1000, .int .i64 1001, .int .i64 1002] 2) w fun (b4 : Addr) (w : World) =>
  c13 ⟨none, 0, 0⟩ ⟨some b4, 3, 3⟩ w fun (c : Sl) (w : World) =>
  Nw (.cells #[.int .u8 4, .int .u8 2, .int .u8 1, .int .u8 4, .int .u8 10, .int .u8 9] 5) w fun (b5 : Addr) (w : World) =>
  c33 ⟨some b5, 6, 6⟩ 4 w fun (l : Sl) (k : Int) (w : World) =>
  Nw (.cells #[.int .u8 1, .int .u8 97, .int .u8 98] 5) w fun (b6 : Addr) (w : World) =>
  c25 ⟨some b6, 3, 3⟩ w fun (s : ByteArray) (n_ : Int) (w : World) =>
  Nw (.cells #[.int .u8 1] 5) w fun (b7 : Addr) (w : World) =>
  c23 ⟨some b7, 1, 1⟩ w fun (x : Int) (m : Int) (w : World) =>
  Nw (.cells #[.int .u8 172, .int .u8 2] 5) w fun (b8 : Addr) (w : World) =>
  c21 ⟨some b8, 2, 2⟩ w fun (y : Int) (o : Int) (w : World) =>
  RdB w ⟨a.a, a.len, a.cap⟩ fun (x2 : ByteArray) =>
  if (x2.toList == (⟨#[1, 2, 172, 2]⟩ : ByteArray).toList) = true then (RdB w ⟨b3.a, b3.len, b3.cap⟩ fun (x3 : ByteArray) =>
  if (x3.toList == (⟨#[4, 2, 1, 4, 10]⟩ : ByteArray).toList) = true then (RdB w ⟨c.a, c.len, c.cap⟩ fun (x4 : ByteArray) =>
  if (x4.toList == (⟨#[3, 1, 208, 15, 2, 2]⟩ : ByteArray).toList) = true then (if (k == 5) = true then (if ((l.len : Int) == 4) = true then (Ix l.a l.len 3 1 fun (a2 : Addr) =>
  Ld (.i .i64) w a2 fun (x5 : Int) =>
  if (x5 == 5) = true then (if (s.toList == (⟨#[97]⟩ : ByteArray).toList) = true then (if (n_ == 2) = true then (if (x == (-1)) = true then (if (m == 1) = true then (if (y == 300) = true then (if (o == 2) = true then (Nw (.cells #[.int .u8 49, .int .u8 50, .int .u8 51, .int .u8 52, .int .u8 53, .int .u8 54, .int .u8 55, .int .u8 56, .int .u8 57] 5) w fun (b9 : Addr) (w : World) =>
  Run .sl Try.prog (convert 22 22 (.slice (some b9) 9 9)) w fun (x6 : Sl) (w : World) =>
  c31 x6 w fun (r : Int) (w : World) =>
  if (r == 3808858755) = true then (c12 ⟨none, 0, 0⟩ (⟨#[97]⟩ : ByteArray) w fun (r2 : Sl) (w : World) =>
  RdB w ⟨r2.a, r2.len, r2.cap⟩ fun (x7 : ByteArray) =>
  if (x7.toList == (⟨#[1, 97]⟩ : ByteArray).toList) = true then (c11 ⟨none, 0, 0⟩ (-1) w fun (r3 : Sl) (w : World) =>
  RdB w ⟨r3.a, r3.len, r3.cap⟩ fun (x8 : ByteArray) =>
  R (x8.toList == (⟨#[1]⟩ : ByteArray).toList) w) else (R false w)) else (R false w)) else (R false w)) else (R false w)) else (R false w)) else (R false w)) else (R false w)) else (R false w)) else (R false w)) else (R false w)) else (R false w)) else (R false w)) else (R false w)) else (R false w)

theorem f8_eq (w : World) (R : Bool → World → Prop) :
    f8  w R = dFunc Try.prog ⟨[], []⟩ Try.f8 [] (fun v w' => viewRet [.one .b] v R w') w := by kernel_rfl

theorem c8_of {w : World} {R : Bool → World → Prop} (h : f8  w R) : c8  w R :=
  callK_of okP Try.func8 (by rw [← f8_eq]; exact h)

/-- hindcast/hindcastlaw01.lent. -/
def f9 (s : Sl) (w : World) (R : Sl → World → Prop) : Prop :=
  Mk [.int .u8 0] 5 1 (IntKind.i64.wrap ((s.len : Int) + 80)) (IntKind.i64.wrap ((s.len : Int) + 80)) w fun (b : Sl) (w : World) =>
  Run (.i .i64) Try.prog (Builtin.copy_ #[22, 22] 3 #[.slice b.a b.len b.cap, .slice s.a s.len s.cap]) w fun (n_ : Int) (w : World) =>
  ∃ Inv_ : Int → Nat → World → Prop, (∃ n : Nat, Inv_ (s.len : Int) n w) ∧ ∀ i : Int, ∀ m : Nat, ∀ w : World, Inv_ i m w → (if (decide (i < (b.len : Int))) = true then (Ix b.a b.len i 1 fun (a : Addr) =>
  St a (.int .u8 201) w fun (w : World) =>
  ∃ m2 : Nat, m2 < m ∧ Inv_ (IntKind.i64.wrap (i + 1)) m2 w) else (R b w))

theorem f9_eq (s : Sl) (w : World) (R : Sl → World → Prop) :
    f9 s w R = dFunc Try.prog ⟨[(4, ⟨[(4, .i .i64)], [3]⟩)], []⟩ Try.f9 [.slice s.a s.len s.cap] (fun v w' => viewRet [.one .sl] v R w') w := by kernel_rfl

theorem c9_of {s : Sl} {w : World} {R : Sl → World → Prop} (h : f9 s w R) : c9 s w R :=
  callK_of okP Try.func9 (by rw [← f9_eq]; exact h)

/-- hindcast/pack.Put. -/
def f10 (b : Sl) (n_ : Int) (w : World) (R : Sl → World → Prop) : Prop :=
  c35 b w fun (r : Sl) (w : World) =>
  c34 r n_ w fun (r2 : Sl) (w : World) =>
  R r2 w

theorem f10_eq (b : Sl) (n_ : Int) (w : World) (R : Sl → World → Prop) :
    f10 b n_ w R = dFunc Try.prog ⟨[], []⟩ Try.f10 [.slice b.a b.len b.cap, .int .u64 n_] (fun v w' => viewRet [.one .sl] v R w') w := by kernel_rfl

theorem c10_of {b : Sl} {n_ : Int} {w : World} {R : Sl → World → Prop} (h : f10 b n_ w R) : c10 b n_ w R :=
  callK_of okP Try.func10 (by rw [← f10_eq]; exact h)

/-- hindcast/pack.PutInt. -/
def f11 (b : Sl) (n_ : Int) (w : World) (R : Sl → World → Prop) : Prop :=
  c36 n_ w fun (r : Int) (w : World) =>
  c10 b r w fun (r2 : Sl) (w : World) =>
  R r2 w

theorem f11_eq (b : Sl) (n_ : Int) (w : World) (R : Sl → World → Prop) :
    f11 b n_ w R = dFunc Try.prog ⟨[], []⟩ Try.f11 [.slice b.a b.len b.cap, .int .i64 n_] (fun v w' => viewRet [.one .sl] v R w') w := by kernel_rfl

theorem c11_of {b : Sl} {n_ : Int} {w : World} {R : Sl → World → Prop} (h : f11 b n_ w R) : c11 b n_ w R :=
  callK_of okP Try.func11 (by rw [← f11_eq]; exact h)

/-- hindcast/pack.PutText. -/
def f12 (b : Sl) (s : ByteArray) (w : World) (R : Sl → World → Prop) : Prop :=
  c10 b (IntKind.u64.wrap (s.size : Int)) w fun (r : Sl) (w : World) =>
  Run .sl Try.prog (Builtin.append_ #[22, 9] 22 #[.slice r.a r.len r.cap, .string s]) w fun (s2 : Sl) (w : World) =>
  R s2 w

theorem f12_eq (b : Sl) (s : ByteArray) (w : World) (R : Sl → World → Prop) :
    f12 b s w R = dFunc Try.prog ⟨[], []⟩ Try.f12 [.slice b.a b.len b.cap, .string s] (fun v w' => viewRet [.one .sl] v R w') w := by kernel_rfl

theorem c12_of {b : Sl} {s : ByteArray} {w : World} {R : Sl → World → Prop} (h : f12 b s w R) : c12 b s w R :=
  callK_of okP Try.func12 (by rw [← f12_eq]; exact h)

/-- hindcast/pack.PutRow. -/
def f13 (b : Sl) (l : Sl) (w : World) (R : Sl → World → Prop) : Prop :=
  c35 b w fun (r : Sl) (w : World) =>
  c37 l w fun (r2 : Sl) (w : World) =>
  Run .sl Try.prog (Builtin.append_ #[22, 22] 22 #[.slice r.a r.len r.cap, .slice r2.a r2.len r2.cap]) w fun (s : Sl) (w : World) =>
  R s w

theorem f13_eq (b : Sl) (l : Sl) (w : World) (R : Sl → World → Prop) :
    f13 b l w R = dFunc Try.prog ⟨[], []⟩ Try.f13 [.slice b.a b.len b.cap, .slice l.a l.len l.cap] (fun v w' => viewRet [.one .sl] v R w') w := by kernel_rfl

theorem c13_of {b : Sl} {l : Sl} {w : World} {R : Sl → World → Prop} (h : f13 b l w R) : c13 b l w R :=
  callK_of okP Try.func13 (by rw [← f13_eq]; exact h)

/-- hindcast/hindcastref01.Put. -/
def f14 (b : Sl) (n_ : Int) (w : World) (R : Sl → World → Prop) : Prop :=
  Run .sl Try.prog (Builtin.append_ #[22, 22] 22 #[.slice none 0 0, .slice b.a b.len b.cap]) w fun (out : Sl) (w : World) =>
  ∃ Inv_ : Int → Sl → Nat → World → Prop, (∃ n : Nat, Inv_ n_ out n w) ∧ ∀ n_2 : Int, ∀ out2 : Sl, ∀ m : Nat, ∀ w : World, Inv_ n_2 out2 m w → (if (decide (n_2 ≥ 128)) = true then ((128 : Int) ≠ 0 ∧ (Nw (.cells #[.int .u8 (IntKind.u8.wrap (IntKind.u64.wrap ((Int.tmod n_2 128) + 128)))] 5) w fun (b2 : Addr) (w : World) =>
  Run .sl Try.prog (Builtin.append_ #[22, 22] 22 #[.slice out2.a out2.len out2.cap, .slice (some b2) 1 1]) w fun (out3 : Sl) (w : World) =>
  (128 : Int) ≠ 0 ∧ (∃ m2 : Nat, m2 < m ∧ Inv_ (IntKind.u64.wrap (Int.tdiv n_2 128)) out3 m2 w))) else (Nw (.cells #[.int .u8 (IntKind.u8.wrap n_2)] 5) w fun (b3 : Addr) (w : World) =>
  Run .sl Try.prog (Builtin.append_ #[22, 22] 22 #[.slice out2.a out2.len out2.cap, .slice (some b3) 1 1]) w fun (s : Sl) (w : World) =>
  R s w))

theorem f14_eq (b : Sl) (n_ : Int) (w : World) (R : Sl → World → Prop) :
    f14 b n_ w R = dFunc Try.prog ⟨[(3, ⟨[(1, .i .u64), (5, .sl)], []⟩)], []⟩ Try.f14 [.slice b.a b.len b.cap, .int .u64 n_] (fun v w' => viewRet [.one .sl] v R w') w := by kernel_rfl

theorem c14_of {b : Sl} {n_ : Int} {w : World} {R : Sl → World → Prop} (h : f14 b n_ w R) : c14 b n_ w R :=
  callK_of okP Try.func14 (by rw [← f14_eq]; exact h)

/-- hindcast/hindcastref01.PutInt. -/
def f15 (b : Sl) (n_ : Int) (w : World) (R : Sl → World → Prop) : Prop :=
  c38 n_ w fun (r : Int) (w : World) =>
  c14 b r w fun (r2 : Sl) (w : World) =>
  R r2 w

theorem f15_eq (b : Sl) (n_ : Int) (w : World) (R : Sl → World → Prop) :
    f15 b n_ w R = dFunc Try.prog ⟨[], []⟩ Try.f15 [.slice b.a b.len b.cap, .int .i64 n_] (fun v w' => viewRet [.one .sl] v R w') w := by kernel_rfl

theorem c15_of {b : Sl} {n_ : Int} {w : World} {R : Sl → World → Prop} (h : f15 b n_ w R) : c15 b n_ w R :=
  callK_of okP Try.func15 (by rw [← f15_eq]; exact h)

/-- hindcast/hindcastref01.PutText. -/
def f16 (b : Sl) (s : ByteArray) (w : World) (R : Sl → World → Prop) : Prop :=
  c14 b (IntKind.u64.wrap (s.size : Int)) w fun (r : Sl) (w : World) =>
  Run .sl Try.prog (Builtin.append_ #[22, 9] 22 #[.slice r.a r.len r.cap, .string s]) w fun (s2 : Sl) (w : World) =>
  R s2 w

theorem f16_eq (b : Sl) (s : ByteArray) (w : World) (R : Sl → World → Prop) :
    f16 b s w R = dFunc Try.prog ⟨[], []⟩ Try.f16 [.slice b.a b.len b.cap, .string s] (fun v w' => viewRet [.one .sl] v R w') w := by kernel_rfl

theorem c16_of {b : Sl} {s : ByteArray} {w : World} {R : Sl → World → Prop} (h : f16 b s w R) : c16 b s w R :=
  callK_of okP Try.func16 (by rw [← f16_eq]; exact h)

/-- hindcast/hindcastref01.PutRow. -/
def f17 (b : Sl) (l : Sl) (w : World) (R : Sl → World → Prop) : Prop :=
  c14 b (IntKind.u64.wrap (l.len : Int)) w fun (out : Sl) (w : World) =>
  if ((l.len : Int) == 0) = true then (R out w) else (c39 l w fun (r : Sl) (w : World) =>
  Run .sl Try.prog (Builtin.append_ #[22, 22] 22 #[.slice out.a out.len out.cap, .slice r.a r.len r.cap]) w fun (s : Sl) (w : World) =>
  R s w)

theorem f17_eq (b : Sl) (l : Sl) (w : World) (R : Sl → World → Prop) :
    f17 b l w R = dFunc Try.prog ⟨[], []⟩ Try.f17 [.slice b.a b.len b.cap, .slice l.a l.len l.cap] (fun v w' => viewRet [.one .sl] v R w') w := by kernel_rfl

theorem c17_of {b : Sl} {l : Sl} {w : World} {R : Sl → World → Prop} (h : f17 b l w R) : c17 b l w R :=
  callK_of okP Try.func17 (by rw [← f17_eq]; exact h)

/-- hindcast/hindcastlaw01.still. -/
def f18 (b : Sl) (s : Sl) (w : World) (R : Bool → World → Prop) : Prop :=
  ∃ Inv_ : Int → Nat → World → Prop, (∃ n : Nat, Inv_ 0 n w) ∧ ∀ i : Int, ∀ m : Nat, ∀ w : World, Inv_ i m w → (if (decide (i < (b.len : Int))) = true then (Dr w fun (w : World) =>
  if (decide (i < (s.len : Int))) = true then (Ix b.a b.len i 1 fun (a : Addr) =>
  Ld (.i .u8) w a fun (x : Int) =>
  Ix s.a s.len i 1 fun (a2 : Addr) =>
  Ld (.i .u8) w a2 fun (x2 : Int) =>
  if (x != x2) = true then (R false w) else (if (decide (i ≥ (s.len : Int))) = true then (Ix b.a b.len i 1 fun (a3 : Addr) =>
  Ld (.i .u8) w a3 fun (x3 : Int) =>
  if (x3 != 201) = true then (R false w) else (∃ m2 : Nat, m2 < m ∧ Inv_ (IntKind.i64.wrap (i + 1)) m2 w)) else (∃ m2 : Nat, m2 < m ∧ Inv_ (IntKind.i64.wrap (i + 1)) m2 w))) else (if (decide (i ≥ (s.len : Int))) = true then (Ix b.a b.len i 1 fun (a4 : Addr) =>
  Ld (.i .u8) w a4 fun (x4 : Int) =>
  if (x4 != 201) = true then (R false w) else (∃ m2 : Nat, m2 < m ∧ Inv_ (IntKind.i64.wrap (i + 1)) m2 w)) else (∃ m2 : Nat, m2 < m ∧ Inv_ (IntKind.i64.wrap (i + 1)) m2 w))) else (R true w))

theorem f18_eq (b : Sl) (s : Sl) (w : World) (R : Bool → World → Prop) :
    f18 b s w R = dFunc Try.prog ⟨[(2, ⟨[(5, .i .i64)], [0, 1]⟩)], []⟩ Try.f18 [.slice b.a b.len b.cap, .slice s.a s.len s.cap] (fun v w' => viewRet [.one .b] v R w') w := by kernel_rfl

theorem c18_of {b : Sl} {s : Sl} {w : World} {R : Bool → World → Prop} (h : f18 b s w R) : c18 b s w R :=
  callK_of okP Try.func18 (by rw [← f18_eq]; exact h)

/-- (*hindcast/hindcastlaw01.owner).fill. -/
def f19 (o : Option Addr) (l : Sl) (w : World) (R : World → Prop) : Prop :=
  NN o fun (o_ : Addr) =>
  Ld .sl w o_ fun (l2 : Sl) =>
  ∃ Inv_ : Int → Nat → World → Prop, (∃ n : Nat, Inv_ 0 n w) ∧ ∀ i : Int, ∀ m : Nat, ∀ w : World, Inv_ i m w → (if (decide (i < (l.len : Int))) = true then (NN o fun (o_2 : Addr) =>
  Ld .sl w o_2 fun (l3 : Sl) =>
  ∃ Inv_2 : Int → Nat → World → Prop, (∃ n : Nat, Inv_2 0 n w) ∧ ∀ k : Int, ∀ m3 : Nat, ∀ w : World, Inv_2 k m3 w → (Ix l.a l.len i 1 fun (a : Addr) =>
  Ld .sl w a fun (x : Sl) =>
  if (decide (k < (x.len : Int))) = true then (Ix l.a l.len i 1 fun (a2 : Addr) =>
  Ld .sl w a2 fun (x2 : Sl) =>
  Ix x2.a x2.len k 1 fun (a3 : Addr) =>
  St a3 (.int .u8 (IntKind.u8.wrap (IntKind.i64.wrap ((l3.len : Int) + 1)))) w fun (w : World) =>
  ∃ m4 : Nat, m4 < m3 ∧ Inv_2 (IntKind.i64.wrap (k + 1)) m4 w) else (Dr w fun (w : World) =>
  NN o fun (o_3 : Addr) =>
  Ld .sl w o_3 fun (l4 : Sl) =>
  Ix l.a l.len i 1 fun (a4 : Addr) =>
  Ld .sl w a4 fun (x3 : Sl) =>
  Nw (.cells #[.slice x3.a x3.len x3.cap, .int .u8 (IntKind.u8.wrap (IntKind.i64.wrap ((l3.len : Int) + 1)))] 60) w fun (b : Addr) (w : World) =>
  Run .sl Try.prog (Builtin.append_ #[27, 27] 27 #[.slice l4.a l4.len l4.cap, .slice (some b) 1 1]) w fun (s : Sl) (w : World) =>
  NN o fun (o_4 : Addr) =>
  St o_4 (.slice s.a s.len s.cap) w fun (w : World) =>
  ∃ m2 : Nat, m2 < m ∧ Inv_ (IntKind.i64.wrap (i + 1)) m2 w))) else (NN o fun (o_5 : Addr) =>
  Ld .sl w o_5 fun (l5 : Sl) =>
  ∃ Inv_3 : Int → Nat → World → Prop, (∃ n : Nat, Inv_3 (l2.len : Int) n w) ∧ ∀ i2 : Int, ∀ m5 : Nat, ∀ w : World, Inv_3 i2 m5 w → (if (decide (i2 < (l5.len : Int))) = true then (NN o fun (o_6 : Addr) =>
  Ld .sl w o_6 fun (l6 : Sl) =>
  Ix l6.a l6.len i2 2 fun (a5 : Addr) =>
  Ld .sl w a5 fun (w_b : Sl) => Ld (.i .u8) w (a5.add 1) fun (w_mark : Int) => 
  Nw (.cells #[.slice none 0 0, .int .u8 0] 60) w fun (w_ : Addr) (w : World) =>
  St w_ (.slice w_b.a w_b.len w_b.cap) w fun (w : World) =>
  St (w_.add 1) (.int .u8 w_mark) w fun (w : World) =>
  ∃ Inv_4 : Int → Nat → World → Prop, (∃ n : Nat, Inv_4 0 n w) ∧ ∀ k2 : Int, ∀ m7 : Nat, ∀ w : World, Inv_4 k2 m7 w → (if (decide (k2 < 70)) = true then (Ld .sl w w_ fun (b2 : Sl) =>
  Ld (.i .u8) w (w_.add 1) fun (mark : Int) =>
  Nw (.cells #[.int .u8 mark] 5) w fun (b3 : Addr) (w : World) =>
  Run .sl Try.prog (Builtin.append_ #[22, 22] 22 #[.slice b2.a b2.len b2.cap, .slice (some b3) 1 1]) w fun (s2 : Sl) (w : World) =>
  St w_ (.slice s2.a s2.len s2.cap) w fun (w : World) =>
  ∃ m8 : Nat, m8 < m7 ∧ Inv_4 (IntKind.i64.wrap (k2 + 1)) m8 w) else (Dr w fun (w : World) =>
  NN o fun (o_7 : Addr) =>
  Ld .sl w o_7 fun (l7 : Sl) =>
  Ld .sl w w_ fun (w_b2 : Sl) => Ld (.i .u8) w (w_.add 1) fun (w_mark2 : Int) => 
  Nw (.cells #[.slice w_b2.a w_b2.len w_b2.cap, .int .u8 w_mark2] 60) w fun (b4 : Addr) (w : World) =>
  Run .sl Try.prog (Builtin.append_ #[27, 27] 27 #[.slice l7.a l7.len l7.cap, .slice (some b4) 1 1]) w fun (s3 : Sl) (w : World) =>
  NN o fun (o_8 : Addr) =>
  St o_8 (.slice s3.a s3.len s3.cap) w fun (w : World) =>
  ∃ m6 : Nat, m6 < m5 ∧ Inv_3 (IntKind.i64.wrap (i2 + 1)) m6 w))) else (R w))))

theorem f19_eq (o : Option Addr) (l : Sl) (w : World) (R : World → Prop) :
    f19 o l w R = dFunc Try.prog ⟨[(2, ⟨[(5, .i .i64)], [0, 1, 4]⟩), (6, ⟨[(7, .i .i64)], [0, 1, 4, 5, 6]⟩), (12, ⟨[(9, .i .i64)], [0, 8]⟩), (16, ⟨[(11, .i .i64)], [0, 8, 9, 10]⟩)], []⟩ Try.f19 [.pointer o, .slice l.a l.len l.cap] (fun v w' => viewRet [] v R w') w := by kernel_rfl

theorem c19_of {o : Option Addr} {l : Sl} {w : World} {R : World → Prop} (h : f19 o l w R) : c19 o l w R :=
  callK_of okP Try.func19 (by rw [← f19_eq]; exact h)

/-- (*hindcast/hindcastlaw01.owner).looks. -/
def f20 (o : Option Addr) (w : World) (R : Bool → World → Prop) : Prop :=
  ∃ Inv_ : Int → Nat → World → Prop, (∃ n : Nat, Inv_ 0 n w) ∧ ∀ i : Int, ∀ m : Nat, ∀ w : World, Inv_ i m w → (NN o fun (o_ : Addr) =>
  Ld .sl w o_ fun (l : Sl) =>
  if (decide (i < (l.len : Int))) = true then (∃ Inv_2 : Int → Nat → World → Prop, (∃ n : Nat, Inv_2 0 n w) ∧ ∀ k : Int, ∀ m3 : Nat, ∀ w : World, Inv_2 k m3 w → (NN o fun (o_2 : Addr) =>
  Ld .sl w o_2 fun (l2 : Sl) =>
  Ix l2.a l2.len i 2 fun (a : Addr) =>
  Ld .sl w a fun (b : Sl) =>
  if (decide (k < (b.len : Int))) = true then (Dr w fun (w : World) =>
  NN o fun (o_3 : Addr) =>
  Ld .sl w o_3 fun (l3 : Sl) =>
  Ix l3.a l3.len i 2 fun (a2 : Addr) =>
  Ld .sl w a2 fun (b2 : Sl) =>
  Ix b2.a b2.len k 1 fun (a3 : Addr) =>
  Ld (.i .u8) w a3 fun (x : Int) =>
  NN o fun (o_4 : Addr) =>
  Ld .sl w o_4 fun (l4 : Sl) =>
  Ix l4.a l4.len i 2 fun (a4 : Addr) =>
  Ld (.i .u8) w (a4.add 1) fun (mark : Int) =>
  if (x != mark) = true then (R false w) else (∃ m4 : Nat, m4 < m3 ∧ Inv_2 (IntKind.i64.wrap (k + 1)) m4 w)) else (∃ m2 : Nat, m2 < m ∧ Inv_ (IntKind.i64.wrap (i + 1)) m2 w))) else (R true w))

theorem f20_eq (o : Option Addr) (w : World) (R : Bool → World → Prop) :
    f20 o w R = dFunc Try.prog ⟨[(2, ⟨[(3, .i .i64)], [0]⟩), (5, ⟨[(4, .i .i64)], [0, 3]⟩)], []⟩ Try.f20 [.pointer o] (fun v w' => viewRet [.one .b] v R w') w := by kernel_rfl

theorem c20_of {o : Option Addr} {w : World} {R : Bool → World → Prop} (h : f20 o w R) : c20 o w R :=
  callK_of okP Try.func20 (by rw [← f20_eq]; exact h)

/-- hindcast/pack.Get. -/
def f21 (b : Sl) (w : World) (R : Int → Int → World → Prop) : Prop :=
  ∃ Inv_ : Int → Int → Nat → World → Prop, (∃ n : Nat, Inv_ 0 0 n w) ∧ ∀ n_ : Int, ∀ t9 : Int, ∀ m : Nat, ∀ w : World, Inv_ n_ t9 m w → (if (decide (t9 < (b.len : Int))) = true then (Ix b.a b.len t9 1 fun (a : Addr) =>
  Ld (.i .u8) w a fun (c : Int) =>
  if (cond (t9 == 9) (decide (c > 1)) false) = true then (R 0 0 w) else ((0 : Int) ≤ (IntKind.i64.wrap (7 * t9)) ∧ (if (decide (c ≥ 128)) = true then (∃ m2 : Nat, m2 < m ∧ Inv_ (IntKind.u64.wrap ((BitVec.ofInt 64 n_ ||| BitVec.ofInt 64 (IntKind.u64.wrap ((IntKind.u64.wrap (IntKind.u8.wrap ((BitVec.ofInt 8 c &&& BitVec.ofInt 8 127).toNat : Nat))) * 2 ^ (min (Int.toNat (IntKind.i64.wrap (7 * t9))) 64)))).toNat : Nat)) (IntKind.i64.wrap (t9 + 1)) m2 w) else (if (cond (c == 0) (decide (t9 > 0)) false) = true then (R 0 0 w) else (R (IntKind.u64.wrap ((BitVec.ofInt 64 n_ ||| BitVec.ofInt 64 (IntKind.u64.wrap ((IntKind.u64.wrap (IntKind.u8.wrap ((BitVec.ofInt 8 c &&& BitVec.ofInt 8 127).toNat : Nat))) * 2 ^ (min (Int.toNat (IntKind.i64.wrap (7 * t9))) 64)))).toNat : Nat)) (IntKind.i64.wrap (t9 + 1)) w))))) else (R 0 0 w))

theorem f21_eq (b : Sl) (w : World) (R : Int → Int → World → Prop) :
    f21 b w R = dFunc Try.prog ⟨[(3, ⟨[(4, .i .u64), (9, .i .i64)], [7, 8]⟩)], []⟩ Try.f21 [.slice b.a b.len b.cap] (fun v w' => viewRet [.one (.i .u64), .one (.i .i64)] v R w') w := by kernel_rfl

theorem c21_of {b : Sl} {w : World} {R : Int → Int → World → Prop} (h : f21 b w R) : c21 b w R :=
  callK_of okP Try.func21 (by rw [← f21_eq]; exact h)

/-- hindcast/hindcastref01.Get. -/
def f22 (b : Sl) (w : World) (R : Int → Int → World → Prop) : Prop :=
  ∃ Inv_ : Int → Int → Nat → World → Prop, (∃ n : Nat, Inv_ 0 0 n w) ∧ ∀ n_ : Int, ∀ i : Int, ∀ m : Nat, ∀ w : World, Inv_ n_ i m w → (if (cond (decide (i < 10)) (decide (i < (b.len : Int))) false) = true then (Ix b.a b.len i 1 fun (a : Addr) =>
  Ld (.i .u8) w a fun (x : Int) =>
  if (cond (i == 9) (decide ((IntKind.u64.wrap x) > 1)) false) = true then (R 0 0 w) else ((128 : Int) ≠ 0 ∧ ((0 : Int) ≤ (IntKind.i64.wrap (7 * i)) ∧ (if (decide ((IntKind.u64.wrap x) ≥ 128)) = true then (∃ m2 : Nat, m2 < m ∧ Inv_ (IntKind.u64.wrap (n_ + (IntKind.u64.wrap ((Int.tmod (IntKind.u64.wrap x) 128) * 2 ^ (min (Int.toNat (IntKind.i64.wrap (7 * i))) 64))))) (IntKind.i64.wrap (i + 1)) m2 w) else (if (cond ((IntKind.u64.wrap x) == 0) (decide (i > 0)) false) = true then (R 0 0 w) else (R (IntKind.u64.wrap (n_ + (IntKind.u64.wrap ((Int.tmod (IntKind.u64.wrap x) 128) * 2 ^ (min (Int.toNat (IntKind.i64.wrap (7 * i))) 64))))) (IntKind.i64.wrap (i + 1)) w)))))) else (R 0 0 w))

theorem f22_eq (b : Sl) (w : World) (R : Int → Int → World → Prop) :
    f22 b w R = dFunc Try.prog ⟨[(3, ⟨[(4, .i .u64), (5, .i .i64)], [0]⟩)], []⟩ Try.f22 [.slice b.a b.len b.cap] (fun v w' => viewRet [.one (.i .u64), .one (.i .i64)] v R w') w := by kernel_rfl

theorem c22_of {b : Sl} {w : World} {R : Int → Int → World → Prop} (h : f22 b w R) : c22 b w R :=
  callK_of okP Try.func22 (by rw [← f22_eq]; exact h)

/-- hindcast/pack.GetInt. -/
def f23 (b : Sl) (w : World) (R : Int → Int → World → Prop) : Prop :=
  c21 b w fun (n_ : Int) (size : Int) (w : World) =>
  c40 n_ w fun (r : Int) (w : World) =>
  R r size w

theorem f23_eq (b : Sl) (w : World) (R : Int → Int → World → Prop) :
    f23 b w R = dFunc Try.prog ⟨[], []⟩ Try.f23 [.slice b.a b.len b.cap] (fun v w' => viewRet [.one (.i .i64), .one (.i .i64)] v R w') w := by kernel_rfl

theorem c23_of {b : Sl} {w : World} {R : Int → Int → World → Prop} (h : f23 b w R) : c23 b w R :=
  callK_of okP Try.func23 (by rw [← f23_eq]; exact h)

/-- hindcast/hindcastref01.GetInt. -/
def f24 (b : Sl) (w : World) (R : Int → Int → World → Prop) : Prop :=
  c22 b w fun (n_ : Int) (k : Int) (w : World) =>
  if (k == 0) = true then (R 0 0 w) else (c41 n_ w fun (r : Int) (w : World) =>
  R r k w)

theorem f24_eq (b : Sl) (w : World) (R : Int → Int → World → Prop) :
    f24 b w R = dFunc Try.prog ⟨[], []⟩ Try.f24 [.slice b.a b.len b.cap] (fun v w' => viewRet [.one (.i .i64), .one (.i .i64)] v R w') w := by kernel_rfl

theorem c24_of {b : Sl} {w : World} {R : Int → Int → World → Prop} (h : f24 b w R) : c24 b w R :=
  callK_of okP Try.func24 (by rw [← f24_eq]; exact h)

/-- hindcast/pack.GetText. -/
def f25 (b : Sl) (w : World) (R : ByteArray → Int → World → Prop) : Prop :=
  c21 b w fun (n_ : Int) (size : Int) (w : World) =>
  if (cond (size == 0) true (decide (n_ > (IntKind.u64.wrap (IntKind.i64.wrap ((b.len : Int) - size)))))) = true then (R (⟨#[]⟩ : ByteArray) 0 w) else (Cut ⟨b.a, b.len, b.cap⟩ size (IntKind.i64.wrap (size + (IntKind.i64.wrap n_))) (b.cap : Int) 1 fun (s : Sl) =>
  RdB w ⟨s.a, s.len, s.cap⟩ fun (x : ByteArray) =>
  R x (IntKind.i64.wrap (size + (IntKind.i64.wrap n_))) w)

theorem f25_eq (b : Sl) (w : World) (R : ByteArray → Int → World → Prop) :
    f25 b w R = dFunc Try.prog ⟨[], []⟩ Try.f25 [.slice b.a b.len b.cap] (fun v w' => viewRet [.one .s, .one (.i .i64)] v R w') w := by kernel_rfl

theorem c25_of {b : Sl} {w : World} {R : ByteArray → Int → World → Prop} (h : f25 b w R) : c25 b w R :=
  callK_of okP Try.func25 (by rw [← f25_eq]; exact h)

/-- hindcast/hindcastref01.GetText. -/
def f26 (b : Sl) (w : World) (R : ByteArray → Int → World → Prop) : Prop :=
  c22 b w fun (n_ : Int) (k : Int) (w : World) =>
  if (cond (k == 0) true (decide (n_ > (IntKind.u64.wrap (IntKind.i64.wrap ((b.len : Int) - k)))))) = true then (R (⟨#[]⟩ : ByteArray) 0 w) else (Cut ⟨b.a, b.len, b.cap⟩ k (IntKind.i64.wrap (k + (IntKind.i64.wrap n_))) (b.cap : Int) 1 fun (s : Sl) =>
  RdB w ⟨s.a, s.len, s.cap⟩ fun (x : ByteArray) =>
  R x (IntKind.i64.wrap (k + (IntKind.i64.wrap n_))) w)

theorem f26_eq (b : Sl) (w : World) (R : ByteArray → Int → World → Prop) :
    f26 b w R = dFunc Try.prog ⟨[], []⟩ Try.f26 [.slice b.a b.len b.cap] (fun v w' => viewRet [.one .s, .one (.i .i64)] v R w') w := by kernel_rfl

theorem c26_of {b : Sl} {w : World} {R : ByteArray → Int → World → Prop} (h : f26 b w R) : c26 b w R :=
  callK_of okP Try.func26 (by rw [← f26_eq]; exact h)

/-- hindcast/hindcastref01.GetRow. -/
def f27 (b : Sl) (most : Int) (w : World) (R : Sl → Int → World → Prop) : Prop :=
  ∃ J_ : Int → World → Prop, (if (decide (most > 100000)) = true then (J_ 100000 w) else (J_ most w)) ∧ ∀ most2 : Int, ∀ w : World, J_ most2 w → (c22 b w fun (n_ : Int) (k : Int) (w : World) =>
  if (cond (cond (k == 0) true (decide (most2 < 0))) true (decide (n_ > (IntKind.u64.wrap most2)))) = true then (R ⟨none, 0, 0⟩ 0 w) else (if (n_ == 0) = true then (R ⟨none, 0, 0⟩ k w) else (if (decide (k ≥ (b.len : Int))) = true then (R ⟨none, 0, 0⟩ 0 w) else (Dr w fun (w : World) =>
  Cut ⟨b.a, b.len, b.cap⟩ (IntKind.i64.wrap (k + 1)) (b.len : Int) (b.cap : Int) 1 fun (s : Sl) =>
  Ix b.a b.len k 1 fun (a : Addr) =>
  Ld (.i .u8) w a fun (x : Int) =>
  c42 s (IntKind.i64.wrap n_) x w fun (l : Sl) (size : Int) (w : World) =>
  if (size == 0) = true then (R ⟨none, 0, 0⟩ 0 w) else (c39 l w fun (want : Sl) (w : World) =>
  Dr w fun (w : World) =>
  RdB w ⟨want.a, want.len, want.cap⟩ fun (x2 : ByteArray) =>
  Cut ⟨b.a, b.len, b.cap⟩ k (IntKind.i64.wrap ((IntKind.i64.wrap (k + 1)) + size)) (b.cap : Int) 1 fun (s2 : Sl) =>
  RdB w ⟨s2.a, s2.len, s2.cap⟩ fun (x3 : ByteArray) =>
  if (!(x2.toList == x3.toList)) = true then (R ⟨none, 0, 0⟩ 0 w) else (R l (IntKind.i64.wrap ((IntKind.i64.wrap (k + 1)) + size)) w))))))

theorem f27_eq (b : Sl) (most : Int) (w : World) (R : Sl → Int → World → Prop) :
    f27 b most w R = dFunc Try.prog ⟨[], [(3, ⟨[(1, .i .i64)], [0]⟩)]⟩ Try.f27 [.slice b.a b.len b.cap, .int .i64 most] (fun v w' => viewRet [.one .sl, .one (.i .i64)] v R w') w := by kernel_rfl

theorem c27_of {b : Sl} {most : Int} {w : World} {R : Sl → Int → World → Prop} (h : f27 b most w R) : c27 b most w R :=
  callK_of okP Try.func27 (by rw [← f27_eq]; exact h)

/-- hindcast/hindcastlaw01.row. -/
def f28 (in_ : Sl) (most : Int) (want : Sl) (size : Int) (w : World) (R : Sl → Bool → World → Prop) : Prop :=
  c33 in_ most w fun (l : Sl) (n_ : Int) (w : World) =>
  if (cond (n_ != size) true ((l.len : Int) != (want.len : Int))) = true then (R ⟨none, 0, 0⟩ false w) else (∃ Inv_ : Int → Nat → World → Prop, (∃ n : Nat, Inv_ 0 n w) ∧ ∀ i : Int, ∀ m : Nat, ∀ w : World, Inv_ i m w → (if (decide (i < (l.len : Int))) = true then (Dr w fun (w : World) =>
  Ix l.a l.len i 1 fun (a : Addr) =>
  Ld (.i .i64) w a fun (x : Int) =>
  Ix want.a want.len i 1 fun (a2 : Addr) =>
  Ld (.i .i64) w a2 fun (x2 : Int) =>
  if (x != x2) = true then (R ⟨none, 0, 0⟩ false w) else (∃ m2 : Nat, m2 < m ∧ Inv_ (IntKind.i64.wrap (i + 1)) m2 w)) else (R l true w)))

theorem f28_eq (in_ : Sl) (most : Int) (want : Sl) (size : Int) (w : World) (R : Sl → Bool → World → Prop) :
    f28 in_ most want size w R = dFunc Try.prog ⟨[(5, ⟨[(12, .i .i64)], [2, 10]⟩)], []⟩ Try.f28 [.slice in_.a in_.len in_.cap, .int .i64 most, .slice want.a want.len want.cap, .int .i64 size] (fun v w' => viewRet [.one .sl, .one .b] v R w') w := by kernel_rfl

theorem c28_of {in_ : Sl} {most : Int} {want : Sl} {size : Int} {w : World} {R : Sl → Bool → World → Prop} (h : f28 in_ most want size w R) : c28 in_ most want size w R :=
  callK_of okP Try.func28 (by rw [← f28_eq]; exact h)

/-- hindcast/hindcastlaw01.rows. -/
def f29 (a : Sl) (b : Sl) (w : World) (R : Bool → World → Prop) : Prop :=
  if ((a.len : Int) != (b.len : Int)) = true then (R false w) else (∃ Inv_ : Int → Nat → World → Prop, (∃ n : Nat, Inv_ 0 n w) ∧ ∀ i : Int, ∀ m : Nat, ∀ w : World, Inv_ i m w → (if (decide (i < (a.len : Int))) = true then (Dr w fun (w : World) =>
  Ix a.a a.len i 1 fun (a2 : Addr) =>
  Ld (.i .i64) w a2 fun (x : Int) =>
  Ix b.a b.len i 1 fun (a3 : Addr) =>
  Ld (.i .i64) w a3 fun (x2 : Int) =>
  if (x != x2) = true then (R false w) else (∃ m2 : Nat, m2 < m ∧ Inv_ (IntKind.i64.wrap (i + 1)) m2 w)) else (R true w)))

theorem f29_eq (a : Sl) (b : Sl) (w : World) (R : Bool → World → Prop) :
    f29 a b w R = dFunc Try.prog ⟨[(4, ⟨[(5, .i .i64)], [0, 1]⟩)], []⟩ Try.f29 [.slice a.a a.len a.cap, .slice b.a b.len b.cap] (fun v w' => viewRet [.one .b] v R w') w := by kernel_rfl

theorem c29_of {a : Sl} {b : Sl} {w : World} {R : Bool → World → Prop} (h : f29 a b w R) : c29 a b w R :=
  callK_of okP Try.func29 (by rw [← f29_eq]; exact h)

/-- hindcast/hindcastlaw01.apart. -/
def f30 (a : Sl) (b : Sl) (w : World) (R : Bool → World → Prop) : Prop :=
  ∃ Inv_ : Int → Nat → World → Prop, (∃ n : Nat, Inv_ 0 n w) ∧ ∀ i : Int, ∀ m : Nat, ∀ w : World, Inv_ i m w → (if (decide (i < (a.len : Int))) = true then (Ix a.a a.len i 1 fun (a2 : Addr) =>
  St a2 (.int .i64 7) w fun (w : World) =>
  ∃ m2 : Nat, m2 < m ∧ Inv_ (IntKind.i64.wrap (i + 1)) m2 w) else (∃ Inv_2 : Int → Nat → World → Prop, (∃ n : Nat, Inv_2 0 n w) ∧ ∀ i2 : Int, ∀ m3 : Nat, ∀ w : World, Inv_2 i2 m3 w → (if (decide (i2 < (b.len : Int))) = true then (Ix b.a b.len i2 1 fun (a3 : Addr) =>
  St a3 (.int .i64 8) w fun (w : World) =>
  ∃ m4 : Nat, m4 < m3 ∧ Inv_2 (IntKind.i64.wrap (i2 + 1)) m4 w) else (∃ Inv_3 : Sl → Int → Nat → World → Prop, (∃ n : Nat, Inv_3 a 0 n w) ∧ ∀ x : Sl, ∀ i3 : Int, ∀ m5 : Nat, ∀ w : World, Inv_3 x i3 m5 w → (if (decide (i3 < 70)) = true then (Nw (.cells #[.int .i64 7] 2) w fun (b2 : Addr) (w : World) =>
  Run .sl Try.prog (Builtin.append_ #[24, 24] 24 #[.slice x.a x.len x.cap, .slice (some b2) 1 1]) w fun (x2 : Sl) (w : World) =>
  ∃ m6 : Nat, m6 < m5 ∧ Inv_3 x2 (IntKind.i64.wrap (i3 + 1)) m6 w) else (∃ Inv_4 : Sl → Int → Nat → World → Prop, (∃ n : Nat, Inv_4 b 0 n w) ∧ ∀ y : Sl, ∀ i4 : Int, ∀ m7 : Nat, ∀ w : World, Inv_4 y i4 m7 w → (if (decide (i4 < 70)) = true then (Nw (.cells #[.int .i64 8] 2) w fun (b3 : Addr) (w : World) =>
  Run .sl Try.prog (Builtin.append_ #[24, 24] 24 #[.slice y.a y.len y.cap, .slice (some b3) 1 1]) w fun (y2 : Sl) (w : World) =>
  ∃ m8 : Nat, m8 < m7 ∧ Inv_4 y2 (IntKind.i64.wrap (i4 + 1)) m8 w) else (∃ Inv_5 : Int → Nat → World → Prop, (∃ n : Nat, Inv_5 0 n w) ∧ ∀ i5 : Int, ∀ m9 : Nat, ∀ w : World, Inv_5 i5 m9 w → (if (decide (i5 < (x.len : Int))) = true then (Ix x.a x.len i5 1 fun (a4 : Addr) =>
  Ld (.i .i64) w a4 fun (x3 : Int) =>
  if (x3 != 7) = true then (R false w) else (if (decide (i5 < (a.len : Int))) = true then (Ix a.a a.len i5 1 fun (a5 : Addr) =>
  Ld (.i .i64) w a5 fun (x4 : Int) =>
  if (x4 != 7) = true then (R false w) else (∃ m10 : Nat, m10 < m9 ∧ Inv_5 (IntKind.i64.wrap (i5 + 1)) m10 w)) else (∃ m10 : Nat, m10 < m9 ∧ Inv_5 (IntKind.i64.wrap (i5 + 1)) m10 w))) else (∃ Inv_6 : Int → Nat → World → Prop, (∃ n : Nat, Inv_6 0 n w) ∧ ∀ i6 : Int, ∀ m11 : Nat, ∀ w : World, Inv_6 i6 m11 w → (if (decide (i6 < (y.len : Int))) = true then (Ix y.a y.len i6 1 fun (a6 : Addr) =>
  Ld (.i .i64) w a6 fun (x5 : Int) =>
  if (x5 != 8) = true then (R false w) else (if (decide (i6 < (b.len : Int))) = true then (Ix b.a b.len i6 1 fun (a7 : Addr) =>
  Ld (.i .i64) w a7 fun (x6 : Int) =>
  if (x6 != 8) = true then (R false w) else (∃ m12 : Nat, m12 < m11 ∧ Inv_6 (IntKind.i64.wrap (i6 + 1)) m12 w)) else (∃ m12 : Nat, m12 < m11 ∧ Inv_6 (IntKind.i64.wrap (i6 + 1)) m12 w))) else (R true w))))))))))))

theorem f30_eq (a : Sl) (b : Sl) (w : World) (R : Bool → World → Prop) :
    f30 a b w R = dFunc Try.prog ⟨[(2, ⟨[(5, .i .i64)], [0, 1]⟩), (6, ⟨[(6, .i .i64)], [0, 1]⟩), (12, ⟨[(7, .sl), (9, .i .i64)], [0, 1, 8]⟩), (16, ⟨[(8, .sl), (10, .i .i64)], [0, 1, 7]⟩), (20, ⟨[(11, .i .i64)], [0, 1, 7, 8]⟩), (25, ⟨[(12, .i .i64)], [1, 8]⟩)], []⟩ Try.f30 [.slice a.a a.len a.cap, .slice b.a b.len b.cap] (fun v w' => viewRet [.one .b] v R w') w := by kernel_rfl

theorem c30_of {a : Sl} {b : Sl} {w : World} {R : Bool → World → Prop} (h : f30 a b w R) : c30 a b w R :=
  callK_of okP Try.func30 (by rw [← f30_eq]; exact h)

/-- hindcast/pack.Sum. -/
def f31 (b : Sl) (w : World) (R : Int → World → Prop) : Prop :=
  ∃ Inv_ : Int → Int → Nat → World → Prop, (∃ n : Nat, Inv_ 4294967295 0 n w) ∧ ∀ n_ : Int, ∀ t8 : Int, ∀ m : Nat, ∀ w : World, Inv_ n_ t8 m w → (if (decide (t8 < (b.len : Int))) = true then (Ix b.a b.len t8 1 fun (a : Addr) =>
  Ld (.i .u8) w a fun (c : Int) =>
  ∃ Inv_2 : Int → Int → Nat → World → Prop, (∃ n : Nat, Inv_2 (IntKind.u32.wrap ((BitVec.ofInt 32 n_ ^^^ BitVec.ofInt 32 (IntKind.u32.wrap c)).toNat : Nat)) 0 n w) ∧ ∀ n_2 : Int, ∀ t16 : Int, ∀ m3 : Nat, ∀ w : World, Inv_2 n_2 t16 m3 w → (if (decide (t16 < 8)) = true then ((0 : Int) ≤ 1 ∧ (∃ m4 : Nat, m4 < m3 ∧ Inv_2 (IntKind.u32.wrap ((BitVec.ofInt 32 (Int.fdiv n_2 (2 ^ (min (Int.toNat 1) 32))) ^^^ BitVec.ofInt 32 (IntKind.u32.wrap ((BitVec.ofInt 32 2197175160 &&& BitVec.ofInt 32 (IntKind.u32.wrap (0 - (IntKind.u32.wrap ((BitVec.ofInt 32 n_2 &&& BitVec.ofInt 32 1).toNat : Nat))))).toNat : Nat))).toNat : Nat)) (IntKind.i64.wrap (t16 + 1)) m4 w)) else (∃ m2 : Nat, m2 < m ∧ Inv_ n_2 (IntKind.i64.wrap (t8 + 1)) m2 w))) else (R (IntKind.u32.wrap ((BitVec.ofInt 32 4294967295 ^^^ BitVec.ofInt 32 n_).toNat : Nat)) w))

theorem f31_eq (b : Sl) (w : World) (R : Int → World → Prop) :
    f31 b w R = dFunc Try.prog ⟨[(3, ⟨[(3, .i .u32), (8, .i .i64)], [6, 7]⟩), (7, ⟨[(3, .i .u32), (16, .i .i64)], [6, 7, 8]⟩)], []⟩ Try.f31 [.slice b.a b.len b.cap] (fun v w' => viewRet [.one (.i .u32)] v R w') w := by kernel_rfl

theorem c31_of {b : Sl} {w : World} {R : Int → World → Prop} (h : f31 b w R) : c31 b w R :=
  callK_of okP Try.func31 (by rw [← f31_eq]; exact h)

/-- hindcast/hindcastref01.Sum. -/
def f32 (b : Sl) (w : World) (R : Int → World → Prop) : Prop :=
  ∃ Inv_ : Int → Int → Nat → World → Prop, (∃ n : Nat, Inv_ 4294967295 0 n w) ∧ ∀ s : Int, ∀ i : Int, ∀ m : Nat, ∀ w : World, Inv_ s i m w → (if (decide (i < (b.len : Int))) = true then (∃ Inv_2 : Int → Int → Nat → World → Prop, (∃ n : Nat, Inv_2 s 0 n w) ∧ ∀ s2 : Int, ∀ k : Int, ∀ m3 : Nat, ∀ w : World, Inv_2 s2 k m3 w → (if (decide (k < 8)) = true then (Ix b.a b.len i 1 fun (a : Addr) =>
  Ld (.i .u8) w a fun (x : Int) =>
  (0 : Int) ≤ k ∧ ((2 : Int) ≠ 0 ∧ ((2 : Int) ≠ 0 ∧ ((2 : Int) ≠ 0 ∧ (if ((Int.tmod (Int.fdiv (IntKind.u32.wrap x) (2 ^ (min (Int.toNat k) 32))) 2) != (Int.tmod s2 2)) = true then (∃ m4 : Nat, m4 < m3 ∧ Inv_2 (IntKind.u32.wrap ((BitVec.ofInt 32 (IntKind.u32.wrap (Int.tdiv s2 2)) ^^^ BitVec.ofInt 32 2197175160).toNat : Nat)) (IntKind.i64.wrap (k + 1)) m4 w) else (∃ m4 : Nat, m4 < m3 ∧ Inv_2 (IntKind.u32.wrap (Int.tdiv s2 2)) (IntKind.i64.wrap (k + 1)) m4 w)))))) else (∃ m2 : Nat, m2 < m ∧ Inv_ s2 (IntKind.i64.wrap (i + 1)) m2 w))) else (R (IntKind.u32.wrap ((BitVec.ofInt 32 s ^^^ BitVec.ofInt 32 4294967295).toNat : Nat)) w))

theorem f32_eq (b : Sl) (w : World) (R : Int → World → Prop) :
    f32 b w R = dFunc Try.prog ⟨[(3, ⟨[(3, .i .u32), (4, .i .i64)], [0]⟩), (6, ⟨[(3, .i .u32), (5, .i .i64)], [0, 4]⟩)], []⟩ Try.f32 [.slice b.a b.len b.cap] (fun v w' => viewRet [.one (.i .u32)] v R w') w := by kernel_rfl

theorem c32_of {b : Sl} {w : World} {R : Int → World → Prop} (h : f32 b w R) : c32 b w R :=
  callK_of okP Try.func32 (by rw [← f32_eq]; exact h)

/-- hindcast/pack.GetRow. -/
def f33 (b : Sl) (most : Int) (w : World) (R : Sl → Int → World → Prop) : Prop :=
  Nw (.cells #[.slice b.a b.len b.cap, .bool false] 66) w fun (r : Addr) (w : World) =>
  c43 (some r) w fun (n_ : Int) (w : World) =>
  ∃ J_ : World → Prop, (Ld .b w (r.add 1) fun (bad : Bool) =>
  if bad = true then (R ⟨none, 0, 0⟩ 0 w) else (if (decide (most < 0)) = true then (R ⟨none, 0, 0⟩ 0 w) else (if (decide (n_ > (IntKind.u64.wrap (if 100000 < most then 100000 else most)))) = true then (R ⟨none, 0, 0⟩ 0 w) else (J_  w)))) ∧ ∀ w : World, J_  w → (if (n_ == 0) = true then (R ⟨none, 0, 0⟩ 1 w) else (Ld .sl w r fun (b2 : Sl) =>
  if ((b2.len : Int) == 0) = true then (R ⟨none, 0, 0⟩ 0 w) else (Ld .sl w r fun (b3 : Sl) =>
  Ix b3.a b3.len 0 1 fun (a : Addr) =>
  Ld (.i .u8) w a fun (form : Int) =>
  Ld .sl w r fun (b4 : Sl) =>
  Cut ⟨b4.a, b4.len, b4.cap⟩ 1 (b4.len : Int) (b4.cap : Int) 1 fun (s : Sl) =>
  St r (.slice s.a s.len s.cap) w fun (w : World) =>
  c44 (some r) form n_ w fun (l : Sl) (w : World) =>
  Ld .sl w r fun (b5 : Sl) =>
  Dr w fun (w : World) =>
  Ld .b w (r.add 1) fun (bad2 : Bool) =>
  if bad2 = true then (R ⟨none, 0, 0⟩ 0 w) else (if ((IntKind.u64.wrap (l.len : Int)) != n_) = true then (R ⟨none, 0, 0⟩ 0 w) else (Cut ⟨b.a, b.len, b.cap⟩ 0 (IntKind.i64.wrap ((b.len : Int) - (b5.len : Int))) (b.cap : Int) 1 fun (s2 : Sl) =>
  RdB w ⟨s2.a, s2.len, s2.cap⟩ fun (x : ByteArray) =>
  c37 l w fun (r2 : Sl) (w : World) =>
  BytesAt w ⟨s2.a, s2.len, s2.cap⟩ x ∧ (RdB w ⟨r2.a, r2.len, r2.cap⟩ fun (x2 : ByteArray) =>
  if (!(x2.toList == x.toList)) = true then (R ⟨none, 0, 0⟩ 0 w) else (R l (IntKind.i64.wrap ((b.len : Int) - (b5.len : Int))) w)))))))

theorem f33_eq (b : Sl) (most : Int) (w : World) (R : Sl → Int → World → Prop) :
    f33 b most w R = dFunc Try.prog ⟨[], [(5, ⟨[], [0, 6, 7]⟩)]⟩ Try.f33 [.slice b.a b.len b.cap, .int .i64 most] (fun v w' => viewRet [.one .sl, .one (.i .i64)] v R w') w := by kernel_rfl

theorem c33_of {b : Sl} {most : Int} {w : World} {R : Sl → Int → World → Prop} (h : f33 b most w R) : c33 b most w R :=
  callK_of okP Try.func33 (by rw [← f33_eq]; exact h)

/-- hindcast/pack.add. -/
def f34 (b : Sl) (n_ : Int) (w : World) (R : Sl → World → Prop) : Prop :=
  ∃ Inv_ : Sl → Int → Nat → World → Prop, (∃ n : Nat, Inv_ b n_ n w) ∧ ∀ b2 : Sl, ∀ n_2 : Int, ∀ m : Nat, ∀ w : World, Inv_ b2 n_2 m w → (if (decide (n_2 ≥ 128)) = true then (Nw (.cells #[.int .u8 (IntKind.u8.wrap ((BitVec.ofInt 8 (IntKind.u8.wrap n_2) ||| BitVec.ofInt 8 128).toNat : Nat))] 5) w fun (b3 : Addr) (w : World) =>
  Run .sl Try.prog (Builtin.append_ #[22, 22] 22 #[.slice b2.a b2.len b2.cap, .slice (some b3) 1 1]) w fun (b4 : Sl) (w : World) =>
  (0 : Int) ≤ 7 ∧ (∃ m2 : Nat, m2 < m ∧ Inv_ b4 (Int.fdiv n_2 (2 ^ (min (Int.toNat 7) 64))) m2 w)) else (Nw (.cells #[.int .u8 (IntKind.u8.wrap n_2)] 5) w fun (b5 : Addr) (w : World) =>
  Run .sl Try.prog (Builtin.append_ #[22, 22] 22 #[.slice b2.a b2.len b2.cap, .slice (some b5) 1 1]) w fun (s : Sl) (w : World) =>
  R s w))

theorem f34_eq (b : Sl) (n_ : Int) (w : World) (R : Sl → World → Prop) :
    f34 b n_ w R = dFunc Try.prog ⟨[(1, ⟨[(0, .sl), (1, .i .u64)], []⟩)], []⟩ Try.f34 [.slice b.a b.len b.cap, .int .u64 n_] (fun v w' => viewRet [.one .sl] v R w') w := by kernel_rfl

theorem c34_of {b : Sl} {n_ : Int} {w : World} {R : Sl → World → Prop} (h : f34 b n_ w R) : c34 b n_ w R :=
  callK_of okP Try.func34 (by rw [← f34_eq]; exact h)

/-- hindcast/pack.fresh. -/
def f35 (b : Sl) (w : World) (R : Sl → World → Prop) : Prop :=
  Run .sl Try.prog (Builtin.append_ #[22, 22] 22 #[.slice none 0 0, .slice b.a b.len b.cap]) w fun (s : Sl) (w : World) =>
  R s w

theorem f35_eq (b : Sl) (w : World) (R : Sl → World → Prop) :
    f35 b w R = dFunc Try.prog ⟨[], []⟩ Try.f35 [.slice b.a b.len b.cap] (fun v w' => viewRet [.one .sl] v R w') w := by kernel_rfl

theorem c35_of {b : Sl} {w : World} {R : Sl → World → Prop} (h : f35 b w R) : c35 b w R :=
  callK_of okP Try.func35 (by rw [← f35_eq]; exact h)

/-- hindcast/pack.signed. -/
def f36 (n_ : Int) (w : World) (R : Int → World → Prop) : Prop :=
  (0 : Int) ≤ 1 ∧ ((0 : Int) ≤ 63 ∧ (R (IntKind.u64.wrap ((BitVec.ofInt 64 (IntKind.u64.wrap (IntKind.i64.wrap (n_ * 2 ^ (min (Int.toNat 1) 64)))) ^^^ BitVec.ofInt 64 (IntKind.u64.wrap (Int.fdiv n_ (2 ^ (min (Int.toNat 63) 64))))).toNat : Nat)) w))

theorem f36_eq (n_ : Int) (w : World) (R : Int → World → Prop) :
    f36 n_ w R = dFunc Try.prog ⟨[], []⟩ Try.f36 [.int .i64 n_] (fun v w' => viewRet [.one (.i .u64)] v R w') w := by kernel_rfl

theorem c36_of {n_ : Int} {w : World} {R : Int → World → Prop} (h : f36 n_ w R) : c36 n_ w R :=
  callK_of okP Try.func36 (by rw [← f36_eq]; exact h)

/-- hindcast/pack.row. -/
def f37 (l : Sl) (w : World) (R : Sl → World → Prop) : Prop :=
  Nw (.cells #[.slice l.a l.len l.cap] 24) w fun (l2 : Addr) (w : World) =>
  Ld .sl w l2 fun (l3 : Sl) =>
  c34 ⟨none, 0, 0⟩ (IntKind.u64.wrap (l3.len : Int)) w fun (head : Sl) (w : World) =>
  Nw (.cells #[.slice none 0 0] 22) w fun (head2 : Addr) (w : World) =>
  St head2 (.slice head.a head.len head.cap) w fun (w : World) =>
  Ld .sl w l2 fun (l4 : Sl) =>
  if ((l4.len : Int) == 0) = true then (Ld .sl w head2 fun (head3 : Sl) =>
  R head3 w) else (∃ Inv_ : Sl → Int → Nat → World → Prop, (∃ n : Nat, Inv_ ⟨none, 0, 0⟩ 0 n w) ∧ ∀ best : Sl, ∀ t17 : Int, ∀ m : Nat, ∀ w : World, Inv_ best t17 m w → (if (decide (t17 < 3)) = true then (CallV Try.prog (.func (.func 45) #[] #[.pointer (some head2), .pointer (some l2)]) [.int .u8 t17] [.one .sl] w fun (r : Sl) (w : World) =>
  if (cond best.a.isNone true (decide ((r.len : Int) < (best.len : Int)))) = true then (∃ m2 : Nat, m2 < m ∧ Inv_ r (IntKind.u8.wrap (t17 + 1)) m2 w) else (∃ m2 : Nat, m2 < m ∧ Inv_ best (IntKind.u8.wrap (t17 + 1)) m2 w)) else (R best w)))

theorem f37_eq (l : Sl) (w : World) (R : Sl → World → Prop) :
    f37 l w R = dFunc Try.prog ⟨[(7, ⟨[(5, .sl), (17, .i .u8)], [4]⟩)], []⟩ Try.f37 [.slice l.a l.len l.cap] (fun v w' => viewRet [.one .sl] v R w') w := by kernel_rfl

theorem c37_of {l : Sl} {w : World} {R : Sl → World → Prop} (h : f37 l w R) : c37 l w R :=
  callK_of okP Try.func37 (by rw [← f37_eq]; exact h)

/-- hindcast/hindcastref01.folded. -/
def f38 (n_ : Int) (w : World) (R : Int → World → Prop) : Prop :=
  if (decide (n_ < 0)) = true then (R (IntKind.u64.wrap ((IntKind.u64.wrap ((IntKind.u64.wrap (IntKind.i64.wrap (0 - (IntKind.i64.wrap (n_ + 1))))) * 2)) + 1)) w) else (R (IntKind.u64.wrap ((IntKind.u64.wrap n_) * 2)) w)

theorem f38_eq (n_ : Int) (w : World) (R : Int → World → Prop) :
    f38 n_ w R = dFunc Try.prog ⟨[], []⟩ Try.f38 [.int .i64 n_] (fun v w' => viewRet [.one (.i .u64)] v R w') w := by kernel_rfl

theorem c38_of {n_ : Int} {w : World} {R : Int → World → Prop} (h : f38 n_ w R) : c38 n_ w R :=
  callK_of okP Try.func38 (by rw [← f38_eq]; exact h)

/-- hindcast/hindcastref01.shortest. -/
def f39 (l : Sl) (w : World) (R : Sl → World → Prop) : Prop :=
  c47 l w fun (f_0 : Sl) (f_1 : Sl) (f_2 : Sl) (w : World) =>
  Nw (.cells #[.slice none 0 0, .slice none 0 0, .slice none 0 0] 71) w fun (f : Addr) (w : World) =>
  St f (.slice f_0.a f_0.len f_0.cap) w fun (w : World) =>
  St (f.add 1) (.slice f_1.a f_1.len f_1.cap) w fun (w : World) =>
  St (f.add 2) (.slice f_2.a f_2.len f_2.cap) w fun (w : World) =>
  IxA f 3 0 1 fun (a : Addr) =>
  Ld .sl w a fun (best : Sl) =>
  ∃ Inv_ : Sl → Int → Nat → World → Prop, (∃ n : Nat, Inv_ best 1 n w) ∧ ∀ best2 : Sl, ∀ i : Int, ∀ m : Nat, ∀ w : World, Inv_ best2 i m w → (if (decide (i < 3)) = true then (IxA f 3 i 1 fun (a2 : Addr) =>
  Ld .sl w a2 fun (x : Sl) =>
  if (decide ((x.len : Int) < (best2.len : Int))) = true then (IxA f 3 i 1 fun (a3 : Addr) =>
  Ld .sl w a3 fun (best3 : Sl) =>
  ∃ m2 : Nat, m2 < m ∧ Inv_ best3 (IntKind.i64.wrap (i + 1)) m2 w) else (∃ m2 : Nat, m2 < m ∧ Inv_ best2 (IntKind.i64.wrap (i + 1)) m2 w)) else (R best2 w))

theorem f39_eq (l : Sl) (w : World) (R : Sl → World → Prop) :
    f39 l w R = dFunc Try.prog ⟨[(4, ⟨[(4, .sl), (5, .i .i64)], [3]⟩)], []⟩ Try.f39 [.slice l.a l.len l.cap] (fun v w' => viewRet [.one .sl] v R w') w := by kernel_rfl

theorem c39_of {l : Sl} {w : World} {R : Sl → World → Prop} (h : f39 l w R) : c39 l w R :=
  callK_of okP Try.func39 (by rw [← f39_eq]; exact h)

/-- hindcast/pack.plain. -/
def f40 (n_ : Int) (w : World) (R : Int → World → Prop) : Prop :=
  (0 : Int) ≤ 1 ∧ (R (IntKind.i64.wrap ((BitVec.ofInt 64 (IntKind.i64.wrap (Int.fdiv n_ (2 ^ (min (Int.toNat 1) 64)))) ^^^ BitVec.ofInt 64 (IntKind.i64.wrap (0 - (IntKind.i64.wrap (IntKind.u64.wrap ((BitVec.ofInt 64 n_ &&& BitVec.ofInt 64 1).toNat : Nat)))))).toNat : Nat)) w)

theorem f40_eq (n_ : Int) (w : World) (R : Int → World → Prop) :
    f40 n_ w R = dFunc Try.prog ⟨[], []⟩ Try.f40 [.int .u64 n_] (fun v w' => viewRet [.one (.i .i64)] v R w') w := by kernel_rfl

theorem c40_of {n_ : Int} {w : World} {R : Int → World → Prop} (h : f40 n_ w R) : c40 n_ w R :=
  callK_of okP Try.func40 (by rw [← f40_eq]; exact h)

/-- hindcast/hindcastref01.unfolded. -/
def f41 (n_ : Int) (w : World) (R : Int → World → Prop) : Prop :=
  (2 : Int) ≠ 0 ∧ (if ((Int.tmod n_ 2) == 1) = true then ((2 : Int) ≠ 0 ∧ (R (IntKind.i64.wrap ((IntKind.i64.wrap (0 - (IntKind.i64.wrap (IntKind.u64.wrap (Int.tdiv n_ 2))))) - 1)) w)) else ((2 : Int) ≠ 0 ∧ (R (IntKind.i64.wrap (IntKind.u64.wrap (Int.tdiv n_ 2))) w)))

theorem f41_eq (n_ : Int) (w : World) (R : Int → World → Prop) :
    f41 n_ w R = dFunc Try.prog ⟨[], []⟩ Try.f41 [.int .u64 n_] (fun v w' => viewRet [.one (.i .i64)] v R w') w := by kernel_rfl

theorem c41_of {n_ : Int} {w : World} {R : Int → World → Prop} (h : f41 n_ w R) : c41 n_ w R :=
  callK_of okP Try.func41 (by rw [← f41_eq]; exact h)

/-- hindcast/hindcastref01.row. -/
def f42 (b : Sl) (n_ : Int) (form : Int) (w : World) (R : Sl → Int → World → Prop) : Prop :=
  ∃ J_ : Int → Int → World → Prop, (if (form == 2) = true then (c22 b w fun (m : Int) (k : Int) (w : World) =>
  if (cond (k == 0) true (decide (m > (IntKind.u64.wrap n_)))) = true then (R ⟨none, 0, 0⟩ 0 w) else (J_ k m w)) else (J_ 0 0 w)) ∧ ∀ at_ : Int, ∀ runs : Int, ∀ w : World, J_ at_ runs w → (∃ Inv_ : Sl → Int → Int → Int → Nat → World → Prop, (∃ n : Nat, Inv_ ⟨none, 0, 0⟩ at_ 0 runs n w) ∧ ∀ l : Sl, ∀ at_2 : Int, ∀ last : Int, ∀ runs2 : Int, ∀ m2 : Nat, ∀ w : World, Inv_ l at_2 last runs2 m2 w → (if (cond (decide ((l.len : Int) < n_)) (cond (decide (form < 2)) true (decide (runs2 > 0))) false) = true then (∃ J_2 : Int → Int → Int → World → Prop, (if (form == 2) = true then (Cut ⟨b.a, b.len, b.cap⟩ at_2 (b.len : Int) (b.cap : Int) 1 fun (s : Sl) =>
  c22 s w fun (m4 : Int) (k2 : Int) (w : World) =>
  if (cond (cond (k2 == 0) true (decide (m4 < 1))) true (decide (m4 > (IntKind.u64.wrap (IntKind.i64.wrap (n_ - (l.len : Int))))))) = true then (R ⟨none, 0, 0⟩ 0 w) else (J_2 (IntKind.i64.wrap (at_2 + k2)) (IntKind.u64.wrap (runs2 - 1)) m4 w)) else (J_2 at_2 runs2 1 w)) ∧ ∀ at_3 : Int, ∀ runs3 : Int, ∀ many : Int, ∀ w : World, J_2 at_3 runs3 many w → (Cut ⟨b.a, b.len, b.cap⟩ at_3 (b.len : Int) (b.cap : Int) 1 fun (s2 : Sl) =>
  c24 s2 w fun (x : Int) (k3 : Int) (w : World) =>
  if (cond (k3 == 0) true (decide (form > 2))) = true then (R ⟨none, 0, 0⟩ 0 w) else (∃ J_3 : Int → Int → World → Prop, (if (form == 1) = true then (J_3 (IntKind.i64.wrap (x + last)) (IntKind.i64.wrap (x + last)) w) else (J_3 last x w)) ∧ ∀ last2 : Int, ∀ x2 : Int, ∀ w : World, J_3 last2 x2 w → (∃ Inv_2 : Sl → Int → Nat → World → Prop, (∃ n : Nat, Inv_2 l many n w) ∧ ∀ l2 : Sl, ∀ many2 : Int, ∀ m5 : Nat, ∀ w : World, Inv_2 l2 many2 m5 w → (if (decide (many2 > 0)) = true then (Nw (.cells #[.int .i64 x2] 2) w fun (b2 : Addr) (w : World) =>
  Run .sl Try.prog (Builtin.append_ #[24, 24] 24 #[.slice l2.a l2.len l2.cap, .slice (some b2) 1 1]) w fun (l3 : Sl) (w : World) =>
  ∃ m6 : Nat, m6 < m5 ∧ Inv_2 l3 (IntKind.u64.wrap (many2 - 1)) m6 w) else (∃ m3 : Nat, m3 < m2 ∧ Inv_ l2 (IntKind.i64.wrap (at_3 + k3)) last2 runs3 m3 w)))))) else (if (cond ((l.len : Int) != n_) true (runs2 != 0)) = true then (R ⟨none, 0, 0⟩ 0 w) else (R l at_2 w))))

theorem f42_eq (b : Sl) (n_ : Int) (form : Int) (w : World) (R : Sl → Int → World → Prop) :
    f42 b n_ form w R = dFunc Try.prog ⟨[(11, ⟨[(8, .sl), (9, .i .i64), (10, .i .i64), (11, .i .u64)], [0, 1, 2]⟩), (27, ⟨[(8, .sl), (14, .i .u64)], [0, 1, 2, 9, 10, 11, 17]⟩)], [(11, ⟨[(9, .i .i64), (11, .i .u64)], [0, 1, 2, 8, 10]⟩), (20, ⟨[(9, .i .i64), (11, .i .u64), (14, .i .u64)], [0, 1, 2, 8, 10]⟩), (27, ⟨[(10, .i .i64), (17, .i .i64)], [0, 1, 2, 8, 9, 11, 14]⟩)]⟩ Try.f42 [.slice b.a b.len b.cap, .int .i64 n_, .int .u8 form] (fun v w' => viewRet [.one .sl, .one (.i .i64)] v R w') w := by kernel_rfl

theorem c42_of {b : Sl} {n_ : Int} {form : Int} {w : World} {R : Sl → Int → World → Prop} (h : f42 b n_ form w R) : c42 b n_ form w R :=
  callK_of okP Try.func42 (by rw [← f42_eq]; exact h)

/-- (*hindcast/pack.reader).number. -/
def f43 (r : Option Addr) (w : World) (R : Int → World → Prop) : Prop :=
  NN r fun (r_ : Addr) =>
  Ld .sl w r_ fun (b : Sl) =>
  c21 b w fun (n_ : Int) (size : Int) (w : World) =>
  NN r fun (r_2 : Addr) =>
  Ld .b w (r_2.add 1) fun (bad : Bool) =>
  NN r fun (r_3 : Addr) =>
  St (r_3.add 1) (.bool (cond bad true (size == 0))) w fun (w : World) =>
  NN r fun (r_4 : Addr) =>
  Ld .sl w r_4 fun (b2 : Sl) =>
  Cut ⟨b2.a, b2.len, b2.cap⟩ size (b2.len : Int) (b2.cap : Int) 1 fun (s : Sl) =>
  NN r fun (r_5 : Addr) =>
  St r_5 (.slice s.a s.len s.cap) w fun (w : World) =>
  R n_ w

theorem f43_eq (r : Option Addr) (w : World) (R : Int → World → Prop) :
    f43 r w R = dFunc Try.prog ⟨[], []⟩ Try.f43 [.pointer r] (fun v w' => viewRet [.one (.i .u64)] v R w') w := by kernel_rfl

theorem c43_of {r : Option Addr} {w : World} {R : Int → World → Prop} (h : f43 r w R) : c43 r w R :=
  callK_of okP Try.func43 (by rw [← f43_eq]; exact h)

/-- (*hindcast/pack.reader).read. -/
def f44 (r : Option Addr) (form : Int) (n_ : Int) (w : World) (R : Sl → World → Prop) : Prop :=
  ∃ J_ : Sl → World → Prop, (∃ Inv_ : Sl → Int → Nat → World → Prop, (∃ n : Nat, Inv_ ⟨none, 0, 0⟩ 0 n w) ∧ ∀ out : Sl, ∀ last : Int, ∀ m : Nat, ∀ w : World, Inv_ out last m w → (∃ J_2 : World → Prop, (if (decide ((IntKind.u64.wrap (out.len : Int)) < n_)) = true then (NN r fun (r_ : Addr) =>
  Ld .b w (r_.add 1) fun (bad : Bool) =>
  if (!bad) = true then (if (decide (form < 2)) = true then (J_2  w) else (J_ out w)) else (J_ out w)) else (J_ out w)) ∧ ∀ w : World, J_2  w → (c43 r w fun (r2 : Int) (w : World) =>
  c40 r2 w fun (x : Int) (w : World) =>
  if (form == 1) = true then (Nw (.cells #[.int .i64 (IntKind.i64.wrap (x + last))] 2) w fun (b : Addr) (w : World) =>
  Run .sl Try.prog (Builtin.append_ #[24, 24] 24 #[.slice out.a out.len out.cap, .slice (some b) 1 1]) w fun (out2 : Sl) (w : World) =>
  ∃ m2 : Nat, m2 < m ∧ Inv_ out2 (IntKind.i64.wrap (x + last)) m2 w) else (Nw (.cells #[.int .i64 x] 2) w fun (b2 : Addr) (w : World) =>
  Run .sl Try.prog (Builtin.append_ #[24, 24] 24 #[.slice out.a out.len out.cap, .slice (some b2) 1 1]) w fun (out3 : Sl) (w : World) =>
  ∃ m2 : Nat, m2 < m ∧ Inv_ out3 x m2 w)))) ∧ ∀ out4 : Sl, ∀ w : World, J_ out4 w → (if (form != 2) = true then (NN r fun (r_2 : Addr) =>
  Ld .b w (r_2.add 1) fun (bad2 : Bool) =>
  NN r fun (r_3 : Addr) =>
  St (r_3.add 1) (.bool (cond bad2 true (decide (form > 2)))) w fun (w : World) =>
  R out4 w) else (c43 r w fun (k : Int) (w : World) =>
  ∃ Inv_2 : Sl → Int → Nat → World → Prop, (∃ n : Nat, Inv_2 out4 k n w) ∧ ∀ out5 : Sl, ∀ k2 : Int, ∀ m3 : Nat, ∀ w : World, Inv_2 out5 k2 m3 w → (∃ J_3 : World → Prop, (if (decide (k2 > 0)) = true then (NN r fun (r_4 : Addr) =>
  Ld .b w (r_4.add 1) fun (bad3 : Bool) =>
  if (!bad3) = true then (J_3  w) else (R out5 w)) else (R out5 w)) ∧ ∀ w : World, J_3  w → (c43 r w fun (many : Int) (w : World) =>
  c43 r w fun (r3 : Int) (w : World) =>
  c40 r3 w fun (x2 : Int) (w : World) =>
  NN r fun (r_5 : Addr) =>
  Ld .b w (r_5.add 1) fun (bad4 : Bool) =>
  NN r fun (r_6 : Addr) =>
  St (r_6.add 1) (.bool (cond bad4 true (decide (many > (IntKind.u64.wrap (n_ - (IntKind.u64.wrap (out5.len : Int)))))))) w fun (w : World) =>
  ∃ Inv_3 : Sl → Int → Nat → World → Prop, (∃ n : Nat, Inv_3 out5 many n w) ∧ ∀ out6 : Sl, ∀ many2 : Int, ∀ m5 : Nat, ∀ w : World, Inv_3 out6 many2 m5 w → (∃ J_4 : World → Prop, (if (decide (many2 > 0)) = true then (NN r fun (r_7 : Addr) =>
  Ld .b w (r_7.add 1) fun (bad5 : Bool) =>
  if (!bad5) = true then (J_4  w) else (∃ m4 : Nat, m4 < m3 ∧ Inv_2 out6 (IntKind.u64.wrap (k2 - 1)) m4 w)) else (∃ m4 : Nat, m4 < m3 ∧ Inv_2 out6 (IntKind.u64.wrap (k2 - 1)) m4 w)) ∧ ∀ w : World, J_4  w → (Nw (.cells #[.int .i64 x2] 2) w fun (b3 : Addr) (w : World) =>
  Run .sl Try.prog (Builtin.append_ #[24, 24] 24 #[.slice out6.a out6.len out6.cap, .slice (some b3) 1 1]) w fun (out7 : Sl) (w : World) =>
  ∃ m6 : Nat, m6 < m5 ∧ Inv_3 out7 (IntKind.u64.wrap (many2 - 1)) m6 w))))))

theorem f44_eq (r : Option Addr) (form : Int) (n_ : Int) (w : World) (R : Sl → World → Prop) :
    f44 r form n_ w R = dFunc Try.prog ⟨[(3, ⟨[(7, .sl), (8, .i .i64)], [0, 1, 2]⟩), (13, ⟨[(7, .sl), (10, .i .u64)], [0, 2]⟩), (18, ⟨[(7, .sl), (11, .i .u64)], [0, 2, 10, 12]⟩)], [(4, ⟨[], [0, 1, 2, 7, 8]⟩), (9, ⟨[(7, .sl)], [0, 1, 2]⟩), (15, ⟨[], [0, 2, 7, 10]⟩), (20, ⟨[], [0, 2, 7, 10, 11, 12]⟩)]⟩ Try.f44 [.pointer r, .int .u8 form, .int .u64 n_] (fun v w' => viewRet [.one .sl] v R w') w := by kernel_rfl

theorem c44_of {r : Option Addr} {form : Int} {n_ : Int} {w : World} {R : Sl → World → Prop} (h : f44 r form n_ w R) : c44 r form n_ w R :=
  callK_of okP Try.func44 (by rw [← f44_eq]; exact h)

/-- hindcast/pack.row$1. -/
def f45 (form : Int) (t1 : Option Addr) (t2 : Option Addr) (w : World) (R : Sl → World → Prop) : Prop :=
  Dr w fun (w : World) =>
  NN t1 fun (a : Addr) =>
  Ld .sl w a fun (x : Sl) =>
  NN t2 fun (a2 : Addr) =>
  Ld .sl w a2 fun (x2 : Sl) =>
  FlS [(.cells #[.int .u8 form] 5, none)] w fun (y : Option Addr) (w : World) =>
  c35 x w fun (r : Sl) (w : World) =>
  w.cell? a2 = some (.slice x2.a x2.len x2.cap) ∧ (FlS [(.cells #[.int .u8 form] 5, y)] w fun (y2 : Option Addr) (w : World) =>
  Need y2 fun (a3 : Addr) =>
  Run .sl Try.prog (Builtin.append_ #[22, 22] 22 #[.slice r.a r.len r.cap, .slice (some a3) 1 1]) w fun (s : Sl) (w : World) =>
  w.cell? a2 = some (.slice x2.a x2.len x2.cap) ∧ (c46 form s x2 w fun (r2 : Sl) (w : World) =>
  R r2 w))

theorem f45_eq (form : Int) (t1 : Option Addr) (t2 : Option Addr) (w : World) (R : Sl → World → Prop) :
    f45 form t1 t2 w R = dFunc Try.prog ⟨[], []⟩ Try.f45 [.int .u8 form, .pointer t1, .pointer t2] (fun v w' => viewRet [.one .sl] v R w') w := by kernel_rfl

theorem c45_of {form : Int} {t1 : Option Addr} {t2 : Option Addr} {w : World} {R : Sl → World → Prop} (h : f45 form t1 t2 w R) : c45 form t1 t2 w R :=
  callK_of okP Try.func45 (by rw [← f45_eq]; exact h)

/-- hindcast/pack.written. -/
def f46 (form : Int) (b : Sl) (l : Sl) (w : World) (R : Sl → World → Prop) : Prop :=
  if (form == 0) = true then (∃ Inv_ : Sl → Int → Nat → World → Prop, (∃ n : Nat, Inv_ b 0 n w) ∧ ∀ b2 : Sl, ∀ t42 : Int, ∀ m : Nat, ∀ w : World, Inv_ b2 t42 m w → (if (decide (t42 < (l.len : Int))) = true then (Ix l.a l.len t42 1 fun (a : Addr) =>
  Ld (.i .i64) w a fun (n_ : Int) =>
  c36 n_ w fun (r : Int) (w : World) =>
  c34 b2 r w fun (b3 : Sl) (w : World) =>
  ∃ m2 : Nat, m2 < m ∧ Inv_ b3 (IntKind.i64.wrap (t42 + 1)) m2 w) else (R b2 w))) else (if (form == 1) = true then (∃ Inv_2 : Sl → Int → Int → Nat → World → Prop, (∃ n : Nat, Inv_2 b 0 0 n w) ∧ ∀ b4 : Sl, ∀ last : Int, ∀ t55 : Int, ∀ m3 : Nat, ∀ w : World, Inv_2 b4 last t55 m3 w → (if (decide (t55 < (l.len : Int))) = true then (Ix l.a l.len t55 1 fun (a2 : Addr) =>
  Ld (.i .i64) w a2 fun (n_2 : Int) =>
  c36 (IntKind.i64.wrap (n_2 - last)) w fun (r2 : Int) (w : World) =>
  c34 b4 r2 w fun (b5 : Sl) (w : World) =>
  ∃ m4 : Nat, m4 < m3 ∧ Inv_2 b5 n_2 (IntKind.i64.wrap (t55 + 1)) m4 w) else (R b4 w))) else (c48 l w fun (all : Sl) (w : World) =>
  c34 b (IntKind.u64.wrap (all.len : Int)) w fun (b6 : Sl) (w : World) =>
  ∃ Inv_3 : Sl → Int → Nat → World → Prop, (∃ n : Nat, Inv_3 b6 0 n w) ∧ ∀ b7 : Sl, ∀ t25 : Int, ∀ m5 : Nat, ∀ w : World, Inv_3 b7 t25 m5 w → (if (decide (t25 < (all.len : Int))) = true then (Ix all.a all.len t25 2 fun (a3 : Addr) =>
  Ld (.i .u64) w a3 fun (r_many : Int) => Ld (.i .i64) w (a3.add 1) fun (r_n : Int) => 
  Nw (.cells #[.int .u64 0, .int .i64 0] 76) w fun (r3 : Addr) (w : World) =>
  St r3 (.int .u64 r_many) w fun (w : World) =>
  St (r3.add 1) (.int .i64 r_n) w fun (w : World) =>
  Dr w fun (w : World) =>
  Ld (.i .u64) w r3 fun (many : Int) =>
  Ld (.i .i64) w (r3.add 1) fun (n_3 : Int) =>
  c34 b7 many w fun (r4 : Sl) (w : World) =>
  w.cell? (r3.add 1) = some (.int .i64 n_3) ∧ (c36 n_3 w fun (r5 : Int) (w : World) =>
  c34 r4 r5 w fun (b8 : Sl) (w : World) =>
  ∃ m6 : Nat, m6 < m5 ∧ Inv_3 b8 (IntKind.i64.wrap (t25 + 1)) m6 w)) else (R b7 w))))

theorem f46_eq (form : Int) (b : Sl) (l : Sl) (w : World) (R : Sl → World → Prop) :
    f46 form b l w R = dFunc Try.prog ⟨[(5, ⟨[(1, .sl), (25, .i .i64)], [23, 24]⟩), (11, ⟨[(1, .sl), (42, .i .i64)], [40, 41]⟩), (18, ⟨[(1, .sl), (9, .i .i64), (55, .i .i64)], [53, 54]⟩)], []⟩ Try.f46 [.int .u8 form, .slice b.a b.len b.cap, .slice l.a l.len l.cap] (fun v w' => viewRet [.one .sl] v R w') w := by kernel_rfl

theorem c46_of {form : Int} {b : Sl} {l : Sl} {w : World} {R : Sl → World → Prop} (h : f46 form b l w R) : c46 form b l w R :=
  callK_of okP Try.func46 (by rw [← f46_eq]; exact h)

/-- hindcast/hindcastref01.forms. -/
def f47 (l : Sl) (w : World) (R : Sl → Sl → Sl → World → Prop) : Prop :=
  Nw (.cells #[.slice none 0 0, .slice none 0 0, .slice none 0 0] 71) w fun (a : Addr) (w : World) =>
  Nw (.cells #[.int .u8 0] 5) w fun (b : Addr) (w : World) =>
  Nw (.cells #[.int .u8 1] 5) w fun (b2 : Addr) (w : World) =>
  Nw (.cells #[.int .u8 2] 5) w fun (b3 : Addr) (w : World) =>
  ∃ Inv_ : Sl → Sl → Sl → Int → Int → Int → Nat → World → Prop, (∃ n : Nat, Inv_ ⟨some b, 1, 1⟩ ⟨some b2, 1, 1⟩ ⟨none, 0, 0⟩ 0 0 0 n w) ∧ ∀ plain : Sl, ∀ steps : Sl, ∀ each : Sl, ∀ many : Int, ∀ last : Int, ∀ i : Int, ∀ m : Nat, ∀ w : World, Inv_ plain steps each many last i m w → (if (decide (i < (l.len : Int))) = true then (Ix l.a l.len i 1 fun (a2 : Addr) =>
  Ld (.i .i64) w a2 fun (x : Int) =>
  c15 plain x w fun (plain2 : Sl) (w : World) =>
  Ix l.a l.len i 1 fun (a3 : Addr) =>
  Ld (.i .i64) w a3 fun (x2 : Int) =>
  c15 steps (IntKind.i64.wrap (x2 - last)) w fun (steps2 : Sl) (w : World) =>
  Ix l.a l.len i 1 fun (a4 : Addr) =>
  Ld (.i .i64) w a4 fun (last2 : Int) =>
  ∃ J_ : Bool → World → Prop, (Dr w fun (w : World) =>
  if (i == 0) = true then (J_ true w) else (Ix l.a l.len (IntKind.i64.wrap (i - 1)) 1 fun (a5 : Addr) =>
  Ld (.i .i64) w a5 fun (x3 : Int) =>
  Ix l.a l.len i 1 fun (a6 : Addr) =>
  Ld (.i .i64) w a6 fun (x4 : Int) =>
  J_ (x3 != x4) w)) ∧ ∀ t51 : Bool, ∀ w : World, J_ t51 w → (if t51 = true then (∃ J_2 : Int → World → Prop, (∃ Inv_2 : Int → Nat → World → Prop, (∃ n : Nat, Inv_2 1 n w) ∧ ∀ n_ : Int, ∀ m3 : Nat, ∀ w : World, Inv_2 n_ m3 w → (Dr w fun (w : World) =>
  if (decide ((IntKind.i64.wrap (i + n_)) < (l.len : Int))) = true then (Ix l.a l.len (IntKind.i64.wrap (i + n_)) 1 fun (a7 : Addr) =>
  Ld (.i .i64) w a7 fun (x5 : Int) =>
  Ix l.a l.len i 1 fun (a8 : Addr) =>
  Ld (.i .i64) w a8 fun (x6 : Int) =>
  if (x5 == x6) = true then (∃ m4 : Nat, m4 < m3 ∧ Inv_2 (IntKind.i64.wrap (n_ + 1)) m4 w) else (J_2 n_ w)) else (J_2 n_ w))) ∧ ∀ n_2 : Int, ∀ w : World, J_2 n_2 w → (c14 each (IntKind.u64.wrap n_2) w fun (each2 : Sl) (w : World) =>
  Ix l.a l.len i 1 fun (a9 : Addr) =>
  Ld (.i .i64) w a9 fun (x7 : Int) =>
  c15 each2 x7 w fun (each3 : Sl) (w : World) =>
  ∃ m2 : Nat, m2 < m ∧ Inv_ plain2 steps2 each3 (IntKind.i64.wrap (many + 1)) last2 (IntKind.i64.wrap (i + 1)) m2 w)) else (∃ m2 : Nat, m2 < m ∧ Inv_ plain2 steps2 each many last2 (IntKind.i64.wrap (i + 1)) m2 w))) else (c14 ⟨some b3, 1, 1⟩ (IntKind.u64.wrap many) w fun (r : Sl) (w : World) =>
  Run .sl Try.prog (Builtin.append_ #[22, 22] 22 #[.slice r.a r.len r.cap, .slice each.a each.len each.cap]) w fun (runs : Sl) (w : World) =>
  St a (.slice plain.a plain.len plain.cap) w fun (w : World) =>
  St (a.add 1) (.slice steps.a steps.len steps.cap) w fun (w : World) =>
  St (a.add 2) (.slice runs.a runs.len runs.cap) w fun (w : World) =>
  Ld .sl w a fun (r_0 : Sl) => Ld .sl w (a.add 1) fun (r_1 : Sl) => Ld .sl w (a.add 2) fun (r_2 : Sl) => 
  R r_0 r_1 r_2 w))

theorem f47_eq (l : Sl) (w : World) (R : Sl → Sl → Sl → World → Prop) :
    f47 l w R = dFunc Try.prog ⟨[(8, ⟨[(3, .sl), (4, .sl), (6, .sl), (7, .i .i64), (8, .i .i64), (9, .i .i64)], [0, 2, 5]⟩), (15, ⟨[(10, .i .i64)], [0, 2, 3, 4, 5, 6, 7, 8, 9]⟩)], [(14, ⟨[(51, .b)], [0, 2, 3, 4, 5, 6, 7, 8, 9]⟩), (17, ⟨[(10, .i .i64)], [0, 2, 3, 4, 5, 6, 7, 8, 9]⟩)]⟩ Try.f47 [.slice l.a l.len l.cap] (fun v w' => viewRet [.agg [.sl, .sl, .sl]] v R w') w := by kernel_rfl

theorem c47_of {l : Sl} {w : World} {R : Sl → Sl → Sl → World → Prop} (h : f47 l w R) : c47 l w R :=
  callK_of okP Try.func47 (by rw [← f47_eq]; exact h)

/-- hindcast/pack.runs. -/
def f48 (l : Sl) (w : World) (R : Sl → World → Prop) : Prop :=
  ∃ Inv_ : Sl → Int → Nat → World → Prop, (∃ n : Nat, Inv_ ⟨none, 0, 0⟩ 0 n w) ∧ ∀ out : Sl, ∀ t9 : Int, ∀ m : Nat, ∀ w : World, Inv_ out t9 m w → (if (decide (t9 < (l.len : Int))) = true then (Ix l.a l.len t9 1 fun (a : Addr) =>
  Ld (.i .i64) w a fun (n_ : Int) =>
  ∃ J_ : Bool → World → Prop, (if (decide ((IntKind.i64.wrap ((out.len : Int) - 1)) ≥ 0)) = true then (Ix out.a out.len (IntKind.i64.wrap ((out.len : Int) - 1)) 2 fun (a2 : Addr) =>
  Ld (.i .i64) w (a2.add 1) fun (n_2 : Int) =>
  J_ (n_2 == n_) w) else (J_ false w)) ∧ ∀ t26 : Bool, ∀ w : World, J_ t26 w → (if t26 = true then (Ix out.a out.len (IntKind.i64.wrap ((out.len : Int) - 1)) 2 fun (a3 : Addr) =>
  Ld (.i .u64) w a3 fun (many : Int) =>
  Ix out.a out.len (IntKind.i64.wrap ((out.len : Int) - 1)) 2 fun (a4 : Addr) =>
  St a4 (.int .u64 (IntKind.u64.wrap (many + 1))) w fun (w : World) =>
  ∃ m2 : Nat, m2 < m ∧ Inv_ out (IntKind.i64.wrap (t9 + 1)) m2 w) else (Nw (.cells #[.int .u64 1, .int .i64 n_] 76) w fun (b : Addr) (w : World) =>
  Run .sl Try.prog (Builtin.append_ #[73, 73] 73 #[.slice out.a out.len out.cap, .slice (some b) 1 1]) w fun (out2 : Sl) (w : World) =>
  ∃ m2 : Nat, m2 < m ∧ Inv_ out2 (IntKind.i64.wrap (t9 + 1)) m2 w))) else (R out w))

theorem f48_eq (l : Sl) (w : World) (R : Sl → World → Prop) :
    f48 l w R = dFunc Try.prog ⟨[(3, ⟨[(3, .sl), (9, .i .i64)], [7, 8]⟩)], [(7, ⟨[(26, .b)], [3, 5, 6, 7, 8, 9]⟩)]⟩ Try.f48 [.slice l.a l.len l.cap] (fun v w' => viewRet [.one .sl] v R w') w := by kernel_rfl

theorem c48_of {l : Sl} {w : World} {R : Sl → World → Prop} (h : f48 l w R) : c48 l w R :=
  callK_of okP Try.func48 (by rw [← f48_eq]; exact h)

end Go.Proofs.Ytbmpgjheiknjlaa.F
