/-
  Printed by den.py: for each Go function its formula, the kernel's equation, and the law of its call.
-/
import Derived.Test.YtmbbfaigbhnhcaaProg
import Derived.Test.YtmbbfaigbhnhcaaDenJ
set_option linter.unusedVariables false
set_option maxRecDepth 100000
namespace Go.Proofs.Ytmbbfaigbhnhcaa.F
open Go Go.Den Go.Proofs

theorem okP : OkP Try.prog := ⟨by kernel_rfl, by kernel_rfl⟩

/-- A call of hindcast/hindcastlaw02.RecordPuts. -/
def c3 (b : Sl) (data : Sl) (w : World) (R : Bool → World → Prop) : Prop :=
  CallK Try.prog 3 [.slice b.a b.len b.cap, .slice data.a data.len data.cap] [.one .b] w R

/-- A call of hindcast/hindcastlaw02.RecordReads. -/
def c4 (b : Sl) (stop : Int) (w : World) (R : Bool → World → Prop) : Prop :=
  CallK Try.prog 4 [.slice b.a b.len b.cap, .int .i64 stop] [.one .b] w R

/-- A call of hindcast/hindcastlaw02.RecordBack. -/
def c5 (l : Sl) (junk : Sl) (w : World) (R : Bool → World → Prop) : Prop :=
  CallK Try.prog 5 [.slice l.a l.len l.cap, .slice junk.a junk.len junk.cap] [.one .b] w R

/-- A call of hindcast/hindcastlaw02.RecordTorn. -/
def c6 (ahead : Sl) (data : Sl) (at_ : Int) (turn : Int) (w : World) (R : Bool → World → Prop) : Prop :=
  CallK Try.prog 6 [.slice ahead.a ahead.len ahead.cap, .slice data.a data.len data.cap, .int .i64 at_, .int .i64 turn] [.one .b] w R

/-- A call of hindcast/hindcastlaw02.RecordBounds. -/
def c7 (n_ : Int) (fill : Int) (w : World) (R : Bool → World → Prop) : Prop :=
  CallK Try.prog 7 [.int .i64 n_, .int .u8 fill] [.one .b] w R

/-- A call of hindcast/hindcastlaw02.shown. -/
def c8 (w : World) (R : Bool → World → Prop) : Prop :=
  CallK Try.prog 8 [] [.one .b] w R

/-- A call of hindcast/hindcastlaw02.lent. -/
def c9 (b : Sl) (w : World) (R : Sl → World → Prop) : Prop :=
  CallK Try.prog 9 [.slice b.a b.len b.cap] [.one .sl] w R

/-- A call of hindcast/record.Put. -/
def c10 (b : Sl) (data : Sl) (w : World) (R : Sl → Int → World → Prop) : Prop :=
  CallK Try.prog 10 [.slice b.a b.len b.cap, .slice data.a data.len data.cap] [.one .sl, .one (.i .i64)] w R

/-- A call of hindcast/hindcastref02.Put. -/
def c11 (b : Sl) (data : Sl) (w : World) (R : Sl → Int → World → Prop) : Prop :=
  CallK Try.prog 11 [.slice b.a b.len b.cap, .slice data.a data.len data.cap] [.one .sl, .one (.i .i64)] w R

/-- A call of hindcast/hindcastlaw02.still. -/
def c12 (l : Sl) (b : Sl) (w : World) (R : Bool → World → Prop) : Prop :=
  CallK Try.prog 12 [.slice l.a l.len l.cap, .slice b.a b.len b.cap] [.one .b] w R

/-- A call of hindcast/hindcastlaw02.sevens. -/
def c13 (n_ : Int) (w : World) (R : Sl → World → Prop) : Prop :=
  CallK Try.prog 13 [.int .i64 n_] [.one .sl] w R

/-- A call of hindcast/hindcastlaw02.keep. -/
def c14 (l : Sl) (b : Sl) (w : World) (R : Sl → World → Prop) : Prop :=
  CallK Try.prog 14 [.slice l.a l.len l.cap, .slice b.a b.len b.cap] [.one .sl] w R

/-- A call of hindcast/hindcastlaw02.looks. -/
def c15 (l : Sl) (w : World) (R : Bool → World → Prop) : Prop :=
  CallK Try.prog 15 [.slice l.a l.len l.cap] [.one .b] w R

/-- A call of hindcast/hindcastlaw02.scanned. -/
def c16 (b : Sl) (stop : Int) (w : World) (R : Bool → World → Prop) : Prop :=
  CallK Try.prog 16 [.slice b.a b.len b.cap, .int .i64 stop] [.one .b] w R

/-- A call of hindcast/record.Scan. -/
def c17 (b : Sl) (w : World) (R : Sl → Int → World → Prop) : Prop :=
  CallK Try.prog 17 [.slice b.a b.len b.cap] [.one .sl, .one (.i .i64)] w R

/-- A call of hindcast/record.Get. -/
def c18 (b : Sl) (w : World) (R : Sl → Int → World → Prop) : Prop :=
  CallK Try.prog 18 [.slice b.a b.len b.cap] [.one .sl, .one (.i .i64)] w R

/-- A call of hindcast/hindcastlaw02.pick. -/
def c19 (c : Int) (n_ : Int) (w : World) (R : Int → World → Prop) : Prop :=
  CallK Try.prog 19 [.int .i64 c, .int .i64 n_] [.one (.i .i64)] w R

/-- A call of hindcast/hindcastref01.Sum. -/
def c20 (b : Sl) (w : World) (R : Int → World → Prop) : Prop :=
  CallK Try.prog 20 [.slice b.a b.len b.cap] [.one (.i .u32)] w R

/-- A call of hindcast/record.Walk. -/
def c21 (b : Sl) (w : World) (R : Value → World → Prop) : Prop :=
  CallK Try.prog 21 [.slice b.a b.len b.cap] [.one .v] w R

/-- A call of hindcast/pack.Put. -/
def c22 (b : Sl) (n_ : Int) (w : World) (R : Sl → World → Prop) : Prop :=
  CallK Try.prog 22 [.slice b.a b.len b.cap, .int .u64 n_] [.one .sl] w R

/-- A call of slices.Concat[[]byte,byte]. -/
def c23 (slices : Sl) (w : World) (R : Sl → World → Prop) : Prop :=
  CallK Try.prog 23 [.slice slices.a slices.len slices.cap] [.one .sl] w R

/-- A call of hindcast/record.sum. -/
def c24 (head : Sl) (data : Sl) (w : World) (R : Sl → World → Prop) : Prop :=
  CallK Try.prog 24 [.slice head.a head.len head.cap, .slice data.a data.len data.cap] [.one .sl] w R

/-- A call of hindcast/hindcastref02.Made. -/
def c25 (data : Sl) (w : World) (R : Sl → World → Prop) : Prop :=
  CallK Try.prog 25 [.slice data.a data.len data.cap] [.one .sl] w R

/-- A call of hindcast/hindcastref02.Get. -/
def c26 (b : Sl) (w : World) (R : Sl → Int → World → Prop) : Prop :=
  CallK Try.prog 26 [.slice b.a b.len b.cap] [.one .sl, .one (.i .i64)] w R

/-- A call of hindcast/hindcastref02.Scan. -/
def c27 (b : Sl) (w : World) (R : Sl → Int → World → Prop) : Prop :=
  CallK Try.prog 27 [.slice b.a b.len b.cap] [.one .sl, .one (.i .i64)] w R

/-- A call of hindcast/hindcastlaw02.outer. -/
def c28 (l : Sl) (name : ByteArray) (w : World) (R : Sl → World → Prop) : Prop :=
  CallK Try.prog 28 [.slice l.a l.len l.cap, .string name] [.one .sl] w R

/-- A call of hindcast/hindcastlaw02.written. -/
def c29 (l : Sl) (name : ByteArray) (w : World) (R : Bool → World → Prop) : Prop :=
  CallK Try.prog 29 [.slice l.a l.len l.cap, .string name] [.one .b] w R

/-- A call of hindcast/pack.Get. -/
def c30 (b : Sl) (w : World) (R : Int → Int → World → Prop) : Prop :=
  CallK Try.prog 30 [.slice b.a b.len b.cap] [.one (.i .u64), .one (.i .i64)] w R

/-- A call of slices.Equal[[]byte,byte]. -/
def c31 (s1 : Sl) (s2 : Sl) (w : World) (R : Bool → World → Prop) : Prop :=
  CallK Try.prog 31 [.slice s1.a s1.len s1.cap, .slice s2.a s2.len s2.cap] [.one .b] w R

/-- A call of slices.Clone[[]byte,byte]. -/
def c32 (s : Sl) (w : World) (R : Sl → World → Prop) : Prop :=
  CallK Try.prog 32 [.slice s.a s.len s.cap] [.one .sl] w R

/-- A call of hindcast/record.Walk$1. -/
def c33 (yield : Value) (t1 : Option Addr) (w : World) (R : World → Prop) : Prop :=
  CallK Try.prog 33 [yield, .pointer t1] [] w R

/-- A call of hindcast/pack.add. -/
def c34 (b : Sl) (n_ : Int) (w : World) (R : Sl → World → Prop) : Prop :=
  CallK Try.prog 34 [.slice b.a b.len b.cap, .int .u64 n_] [.one .sl] w R

/-- A call of hindcast/pack.fresh. -/
def c35 (b : Sl) (w : World) (R : Sl → World → Prop) : Prop :=
  CallK Try.prog 35 [.slice b.a b.len b.cap] [.one .sl] w R

/-- A call of slices.Grow[[]byte,byte]. -/
def c36 (s : Sl) (n_ : Int) (w : World) (R : Sl → World → Prop) : Prop :=
  CallK Try.prog 36 [.slice s.a s.len s.cap, .int .i64 n_] [.one .sl] w R

/-- A call of hindcast/pack.Sum. -/
def c37 (b : Sl) (w : World) (R : Int → World → Prop) : Prop :=
  CallK Try.prog 37 [.slice b.a b.len b.cap] [.one (.i .u32)] w R

/-- A call of hindcast/hindcastref01.Put. -/
def c38 (b : Sl) (n_ : Int) (w : World) (R : Sl → World → Prop) : Prop :=
  CallK Try.prog 38 [.slice b.a b.len b.cap, .int .u64 n_] [.one .sl] w R

/-- A call of hindcast/hindcastref01.Get. -/
def c39 (b : Sl) (w : World) (R : Int → Int → World → Prop) : Prop :=
  CallK Try.prog 39 [.slice b.a b.len b.cap] [.one (.i .u64), .one (.i .i64)] w R

/-- hindcast/hindcastlaw02.RecordPuts. -/
def f3 (b : Sl) (data : Sl) (w : World) (R : Bool → World → Prop) : Prop :=
  c8  w fun (head : Bool) (w : World) =>
  c9 b w fun (x : Sl) (w : World) =>
  c9 data w fun (y : Sl) (w : World) =>
  Dr w fun (w : World) =>
  Cut ⟨x.a, x.len, x.cap⟩ 0 (b.len : Int) (x.cap : Int) 1 fun (s : Sl) =>
  Cut ⟨y.a, y.len, y.cap⟩ 0 (data.len : Int) (y.cap : Int) 1 fun (s2 : Sl) =>
  c10 s s2 w fun (one : Sl) (e : Int) (w : World) =>
  Dr w fun (w : World) =>
  Cut ⟨y.a, y.len, y.cap⟩ 0 (data.len : Int) (y.cap : Int) 1 fun (s3 : Sl) =>
  Cut ⟨x.a, x.len, x.cap⟩ 0 (b.len : Int) (x.cap : Int) 1 fun (s4 : Sl) =>
  c10 s3 s4 w fun (round : Sl) (f : Int) (w : World) =>
  Dr w fun (w : World) =>
  Cut ⟨x.a, x.len, x.cap⟩ 0 (b.len : Int) (x.cap : Int) 1 fun (s5 : Sl) =>
  Cut ⟨y.a, y.len, y.cap⟩ 0 (data.len : Int) (y.cap : Int) 1 fun (s6 : Sl) =>
  c10 s5 s6 w fun (two : Sl) (g : Int) (w : World) =>
  c11 b data w fun (want : Sl) (h : Int) (w : World) =>
  c11 data b w fun (other : Sl) (k : Int) (w : World) =>
  ∃ J_ : World → Prop, (if (!head) = true then (R false w) else (if (e != h) = true then (R false w) else (if (g != h) = true then (R false w) else (if (f != k) = true then (R false w) else (RdB w ⟨one.a, one.len, one.cap⟩ fun (x2 : ByteArray) =>
  RdB w ⟨want.a, want.len, want.cap⟩ fun (x3 : ByteArray) =>
  if (!(x2.toList == x3.toList)) = true then (R false w) else (RdB w ⟨two.a, two.len, two.cap⟩ fun (x4 : ByteArray) =>
  RdB w ⟨want.a, want.len, want.cap⟩ fun (x5 : ByteArray) =>
  if (!(x4.toList == x5.toList)) = true then (R false w) else (RdB w ⟨round.a, round.len, round.cap⟩ fun (x6 : ByteArray) =>
  RdB w ⟨other.a, other.len, other.cap⟩ fun (x7 : ByteArray) =>
  if (!(x6.toList == x7.toList)) = true then (R false w) else (J_  w)))))))) ∧ ∀ w : World, J_  w → (c12 x b w fun (p : Bool) (w : World) =>
  c12 y data w fun (q : Bool) (w : World) =>
  Dr w fun (w : World) =>
  Cut ⟨x.a, x.len, x.cap⟩ 0 (b.len : Int) (x.cap : Int) 1 fun (s7 : Sl) =>
  Cut ⟨y.a, y.len, y.cap⟩ 0 (data.len : Int) (y.cap : Int) 1 fun (s8 : Sl) =>
  c10 s7 s8 w fun (again : Sl) (m : Int) (w : World) =>
  c13 (b.len : Int) w fun (r : Sl) (w : World) =>
  c13 (data.len : Int) w fun (r2 : Sl) (w : World) =>
  c11 r r2 w fun (sevenths : Sl) (n_ : Int) (w : World) =>
  ∃ J_2 : World → Prop, (if (!p) = true then (R false w) else (if (!q) = true then (R false w) else (if (m != n_) = true then (R false w) else (RdB w ⟨again.a, again.len, again.cap⟩ fun (x8 : ByteArray) =>
  RdB w ⟨sevenths.a, sevenths.len, sevenths.cap⟩ fun (x9 : ByteArray) =>
  if (!(x8.toList == x9.toList)) = true then (R false w) else (J_2  w))))) ∧ ∀ w : World, J_2  w → (c14 ⟨none, 0, 0⟩ one w fun (kept : Sl) (w : World) =>
  ∃ J_3 : Bool → World → Prop, (RdB w ⟨two.a, two.len, two.cap⟩ fun (x10 : ByteArray) =>
  RdB w ⟨want.a, want.len, want.cap⟩ fun (x11 : ByteArray) =>
  if (x10.toList == x11.toList) = true then (RdB w ⟨round.a, round.len, round.cap⟩ fun (x12 : ByteArray) =>
  RdB w ⟨other.a, other.len, other.cap⟩ fun (x13 : ByteArray) =>
  J_3 (x12.toList == x13.toList) w) else (J_3 false w)) ∧ ∀ apart : Bool, ∀ w : World, J_3 apart w → (c14 kept two w fun (kept2 : Sl) (w : World) =>
  c14 kept2 round w fun (kept3 : Sl) (w : World) =>
  c14 kept3 again w fun (kept4 : Sl) (w : World) =>
  c15 kept4 w fun (ok : Bool) (w : World) =>
  R (cond apart ok false) w)))

theorem f3_eq (b : Sl) (data : Sl) (w : World) (R : Bool → World → Prop) :
    f3 b data w R = dFunc Try.prog ⟨[], [(11, ⟨[], [0, 1, 6, 7, 8, 10, 12, 14, 16]⟩), (17, ⟨[], [8, 10, 12, 14, 16, 20]⟩), (20, ⟨[(25, .b)], [10, 12, 20, 24]⟩)]⟩ Try.f3 [.slice b.a b.len b.cap, .slice data.a data.len data.cap] (fun v w' => viewRet [.one .b] v R w') w := by kernel_rfl

theorem c3_of {b : Sl} {data : Sl} {w : World} {R : Bool → World → Prop} (h : f3 b data w R) : c3 b data w R :=
  callK_of okP Try.func3 (by rw [← f3_eq]; exact h)

/-- hindcast/hindcastlaw02.RecordReads. -/
def f4 (b : Sl) (stop : Int) (w : World) (R : Bool → World → Prop) : Prop :=
  c8  w fun (head : Bool) (w : World) =>
  c16 b stop w fun (ok : Bool) (w : World) =>
  R (cond head ok false) w

theorem f4_eq (b : Sl) (stop : Int) (w : World) (R : Bool → World → Prop) :
    f4 b stop w R = dFunc Try.prog ⟨[], []⟩ Try.f4 [.slice b.a b.len b.cap, .int .i64 stop] (fun v w' => viewRet [.one .b] v R w') w := by kernel_rfl

theorem c4_of {b : Sl} {stop : Int} {w : World} {R : Bool → World → Prop} (h : f4 b stop w R) : c4 b stop w R :=
  callK_of okP Try.func4 (by rw [← f4_eq]; exact h)

/-- hindcast/hindcastlaw02.RecordBack. -/
def f5 (l : Sl) (junk : Sl) (w : World) (R : Bool → World → Prop) : Prop :=
  c8  w fun (head : Bool) (w : World) =>
  ∃ Inv_ : Sl → Int → Int → Nat → World → Prop, (∃ n : Nat, Inv_ ⟨none, 0, 0⟩ 0 0 n w) ∧ ∀ b : Sl, ∀ n_ : Int, ∀ i : Int, ∀ m : Nat, ∀ w : World, Inv_ b n_ i m w → (if (cond (decide (i < (l.len : Int))) (decide (i < 30)) false) = true then (Ix l.a l.len i 1 fun (a : Addr) =>
  Ld .sl w a fun (x : Sl) =>
  c10 b x w fun (c : Sl) (e : Int) (w : World) =>
  ∃ J_ : Bool → World → Prop, (Ix l.a l.len i 1 fun (a2 : Addr) =>
  Ld .sl w a2 fun (x2 : Sl) =>
  if (decide ((x2.len : Int) > 0)) = true then (Ix l.a l.len i 1 fun (a3 : Addr) =>
  Ld .sl w a3 fun (x3 : Sl) =>
  J_ (decide ((x3.len : Int) ≤ 100000)) w) else (J_ false w)) ∧ ∀ good : Bool, ∀ w : World, J_ good w → (if (cond (!((e == 0) == good)) true (cond (!good) (e != 1) false)) = true then (R false w) else (if good = true then (∃ m2 : Nat, m2 < m ∧ Inv_ c (IntKind.i64.wrap (n_ + 1)) (IntKind.i64.wrap (i + 1)) m2 w) else (∃ m2 : Nat, m2 < m ∧ Inv_ b n_ (IntKind.i64.wrap (i + 1)) m2 w)))) else (Nw (.cells #[] 5) w fun (b2 : Addr) (w : World) =>
  Run .sl Try.prog (Builtin.append_ #[22, 22] 22 #[.slice (some b2) 0 0, .slice b.a b.len b.cap]) w fun (s : Sl) (w : World) =>
  Run .sl Try.prog (Builtin.append_ #[22, 22] 22 #[.slice s.a s.len s.cap, .slice junk.a junk.len junk.cap]) w fun (b3 : Sl) (w : World) =>
  c17 b3 w fun (out : Sl) (m3 : Int) (w : World) =>
  c18 junk w fun (x_ : Sl) (more : Int) (w : World) =>
  if (cond (cond (cond (!head) true (decide (m3 < (b.len : Int)))) true (decide ((out.len : Int) < n_))) true (!((decide (m3 > (b.len : Int))) == (decide (more > 0))))) = true then (R false w) else (∃ Inv_2 : Int → Int → Nat → World → Prop, (∃ n : Nat, Inv_2 0 0 n w) ∧ ∀ at_ : Int, ∀ i2 : Int, ∀ m4 : Nat, ∀ w : World, Inv_2 at_ i2 m4 w → (if (cond (decide (i2 < (l.len : Int))) (decide (i2 < 30)) false) = true then (∃ J_2 : World → Prop, (Ix l.a l.len i2 1 fun (a4 : Addr) =>
  Ld .sl w a4 fun (x4 : Sl) =>
  if ((x4.len : Int) == 0) = true then (∃ m5 : Nat, m5 < m4 ∧ Inv_2 at_ (IntKind.i64.wrap (i2 + 1)) m5 w) else (Ix l.a l.len i2 1 fun (a5 : Addr) =>
  Ld .sl w a5 fun (x5 : Sl) =>
  if (decide ((x5.len : Int) > 100000)) = true then (∃ m5 : Nat, m5 < m4 ∧ Inv_2 at_ (IntKind.i64.wrap (i2 + 1)) m5 w) else (J_2  w))) ∧ ∀ w : World, J_2  w → (Dr w fun (w : World) =>
  Ix out.a out.len at_ 1 fun (a6 : Addr) =>
  Ld .sl w a6 fun (x6 : Sl) =>
  RdB w ⟨x6.a, x6.len, x6.cap⟩ fun (x7 : ByteArray) =>
  Ix l.a l.len i2 1 fun (a7 : Addr) =>
  Ld .sl w a7 fun (x8 : Sl) =>
  RdB w ⟨x8.a, x8.len, x8.cap⟩ fun (x9 : ByteArray) =>
  if (!(x7.toList == x9.toList)) = true then (R false w) else (∃ m5 : Nat, m5 < m4 ∧ Inv_2 (IntKind.i64.wrap (at_ + 1)) (IntKind.i64.wrap (i2 + 1)) m5 w))) else (∃ Inv_3 : Sl → Int → Nat → World → Prop, (∃ n : Nat, Inv_3 ⟨none, 0, 0⟩ 0 n w) ∧ ∀ again : Sl, ∀ i3 : Int, ∀ m6 : Nat, ∀ w : World, Inv_3 again i3 m6 w → (if (decide (i3 < (out.len : Int))) = true then (Ix out.a out.len i3 1 fun (a8 : Addr) =>
  Ld .sl w a8 fun (x10 : Sl) =>
  c10 again x10 w fun (c2 : Sl) (e2 : Int) (w : World) =>
  if (e2 != 0) = true then (R false w) else (∃ m7 : Nat, m7 < m6 ∧ Inv_3 c2 (IntKind.i64.wrap (i3 + 1)) m7 w)) else (Dr w fun (w : World) =>
  RdB w ⟨again.a, again.len, again.cap⟩ fun (x11 : ByteArray) =>
  Cut ⟨b3.a, b3.len, b3.cap⟩ 0 m3 (b3.cap : Int) 1 fun (s2 : Sl) =>
  RdB w ⟨s2.a, s2.len, s2.cap⟩ fun (x12 : ByteArray) =>
  R (x11.toList == x12.toList) w)))))))

theorem f5_eq (l : Sl) (junk : Sl) (w : World) (R : Bool → World → Prop) :
    f5 l junk w R = dFunc Try.prog ⟨[(5, ⟨[(6, .sl), (7, .i .i64), (8, .i .i64)], [0, 1, 5]⟩), (22, ⟨[(17, .i .i64), (18, .i .i64)], [0, 6, 13, 14]⟩), (30, ⟨[(19, .sl), (20, .i .i64)], [6, 13, 14]⟩)], [(9, ⟨[(11, .b)], [0, 1, 5, 6, 7, 8, 9, 10]⟩), (25, ⟨[], [0, 6, 13, 14, 17, 18]⟩)]⟩ Try.f5 [.slice l.a l.len l.cap, .slice junk.a junk.len junk.cap] (fun v w' => viewRet [.one .b] v R w') w := by kernel_rfl

theorem c5_of {l : Sl} {junk : Sl} {w : World} {R : Bool → World → Prop} (h : f5 l junk w R) : c5 l junk w R :=
  callK_of okP Try.func5 (by rw [← f5_eq]; exact h)

/-- hindcast/hindcastlaw02.RecordTorn. -/
def f6 (ahead : Sl) (data : Sl) (at_ : Int) (turn : Int) (w : World) (R : Bool → World → Prop) : Prop :=
  c8  w fun (head : Bool) (w : World) =>
  ∃ J_ : Sl → World → Prop, (if (cond ((ahead.len : Int) == 0) true (decide ((ahead.len : Int) > 100000))) = true then (Nw (.cells #[.int .u8 97, .int .u8 104, .int .u8 101, .int .u8 97, .int .u8 100] 5) w fun (b : Addr) (w : World) =>
  Run .sl Try.prog (convert 22 22 (.slice (some b) 5 5)) w fun (ahead2 : Sl) (w : World) =>
  J_ ahead2 w) else (J_ ahead w)) ∧ ∀ ahead3 : Sl, ∀ w : World, J_ ahead3 w → (∃ J_2 : Sl → World → Prop, (if (cond ((data.len : Int) == 0) true (decide ((data.len : Int) > 100000))) = true then (Nw (.cells #[.int .u8 100, .int .u8 97, .int .u8 116, .int .u8 97] 5) w fun (b2 : Addr) (w : World) =>
  Run .sl Try.prog (convert 22 22 (.slice (some b2) 4 4)) w fun (data2 : Sl) (w : World) =>
  J_2 data2 w) else (J_2 data w)) ∧ ∀ data3 : Sl, ∀ w : World, J_2 data3 w → (c10 ⟨none, 0, 0⟩ ahead3 w fun (a : Sl) (e : Int) (w : World) =>
  c10 a data3 w fun (b3 : Sl) (f : Int) (w : World) =>
  if (cond (cond (!head) true (e != 0)) true (f != 0)) = true then (R false w) else (c19 at_ (IntKind.i64.wrap ((b3.len : Int) - (a.len : Int))) w fun (r : Int) (w : World) =>
  Cut ⟨b3.a, b3.len, b3.cap⟩ 0 (IntKind.i64.wrap ((a.len : Int) + r)) (b3.cap : Int) 1 fun (s : Sl) =>
  c17 s w fun (l : Sl) (n_ : Int) (w : World) =>
  ∃ J_3 : World → Prop, (Dr w fun (w : World) =>
  if ((l.len : Int) != 1) = true then (R false w) else (if (n_ != (a.len : Int)) = true then (R false w) else (Ix l.a l.len 0 1 fun (a2 : Addr) =>
  Ld .sl w a2 fun (x : Sl) =>
  RdB w ⟨x.a, x.len, x.cap⟩ fun (x2 : ByteArray) =>
  RdB w ⟨ahead3.a, ahead3.len, ahead3.cap⟩ fun (x3 : ByteArray) =>
  if (!(x2.toList == x3.toList)) = true then (R false w) else (J_3  w)))) ∧ ∀ w : World, J_3  w → (Nw (.cells #[] 5) w fun (b4 : Addr) (w : World) =>
  Run .sl Try.prog (Builtin.append_ #[22, 22] 22 #[.slice (some b4) 0 0, .slice b3.a b3.len b3.cap]) w fun (c : Sl) (w : World) =>
  Dr w fun (w : World) =>
  Ix c.a c.len (IntKind.i64.wrap ((a.len : Int) + r)) 1 fun (a3 : Addr) =>
  Ld (.i .u8) w a3 fun (x4 : Int) =>
  c19 turn 255 w fun (r2 : Int) (w : World) =>
  w.cell? a3 = some (.int .u8 x4) ∧ (Ix c.a c.len (IntKind.i64.wrap ((a.len : Int) + r)) 1 fun (a4 : Addr) =>
  St a4 (.int .u8 (IntKind.u8.wrap (IntKind.i64.wrap ((IntKind.i64.wrap ((IntKind.i64.wrap x4) + 1)) + r2)))) w fun (w : World) =>
  c17 c w fun (m : Sl) (size : Int) (w : World) =>
  ∃ J_4 : World → Prop, (Dr w fun (w : World) =>
  if (decide ((m.len : Int) < 1)) = true then (R false w) else (Ix m.a m.len 0 1 fun (a5 : Addr) =>
  Ld .sl w a5 fun (x5 : Sl) =>
  RdB w ⟨x5.a, x5.len, x5.cap⟩ fun (x6 : ByteArray) =>
  RdB w ⟨ahead3.a, ahead3.len, ahead3.cap⟩ fun (x7 : ByteArray) =>
  if (!(x6.toList == x7.toList)) = true then (R false w) else (if (decide (size < (a.len : Int))) = true then (R false w) else (J_4  w)))) ∧ ∀ w : World, J_4  w → (Dr w fun (w : World) =>
  if (decide ((m.len : Int) < 2)) = true then (R true w) else (Ix m.a m.len 1 1 fun (a6 : Addr) =>
  Ld .sl w a6 fun (x8 : Sl) =>
  RdB w ⟨x8.a, x8.len, x8.cap⟩ fun (x9 : ByteArray) =>
  RdB w ⟨data3.a, data3.len, data3.cap⟩ fun (x10 : ByteArray) =>
  R (!(x9.toList == x10.toList)) w)))))))

theorem f6_eq (ahead : Sl) (data : Sl) (at_ : Int) (turn : Int) (w : World) (R : Bool → World → Prop) :
    f6 ahead data at_ turn w R = dFunc Try.prog ⟨[], [(4, ⟨[(0, .sl)], [1, 2, 3, 9]⟩), (6, ⟨[(1, .sl)], [0, 2, 3, 9]⟩), (14, ⟨[], [0, 1, 3, 10, 12, 14]⟩), (19, ⟨[], [1, 18]⟩)]⟩ Try.f6 [.slice ahead.a ahead.len ahead.cap, .slice data.a data.len data.cap, .int .i64 at_, .int .i64 turn] (fun v w' => viewRet [.one .b] v R w') w := by kernel_rfl

theorem c6_of {ahead : Sl} {data : Sl} {at_ : Int} {turn : Int} {w : World} {R : Bool → World → Prop} (h : f6 ahead data at_ turn w R) : c6 ahead data at_ turn w R :=
  callK_of okP Try.func6 (by rw [← f6_eq]; exact h)

/-- hindcast/hindcastlaw02.RecordBounds. -/
def f7 (n_ : Int) (fill : Int) (w : World) (R : Bool → World → Prop) : Prop :=
  c8  w fun (head : Bool) (w : World) =>
  c19 n_ 4 w fun (r : Int) (w : World) =>
  Mk [.int .u8 0] 5 1 (IntKind.i64.wrap (99998 + r)) (IntKind.i64.wrap (99998 + r)) w fun (data : Sl) (w : World) =>
  ∃ Inv_ : Int → Nat → World → Prop, (∃ n : Nat, Inv_ 0 n w) ∧ ∀ i : Int, ∀ m : Nat, ∀ w : World, Inv_ i m w → (if (decide (i < (IntKind.i64.wrap (99998 + r)))) = true then (Ix data.a data.len i 1 fun (a : Addr) =>
  St a (.int .u8 fill) w fun (w : World) =>
  ∃ m2 : Nat, m2 < m ∧ Inv_ (IntKind.i64.wrap (i + 1)) m2 w) else (c10 ⟨none, 0, 0⟩ data w fun (b : Sl) (e : Int) (w : World) =>
  c10 ⟨none, 0, 0⟩ ⟨none, 0, 0⟩ w fun (none_ : Sl) (f : Int) (w : World) =>
  if (cond (cond (cond (!head) true (f != 1)) true ((none_.len : Int) != 0)) true (!((e == 0) == (decide ((IntKind.i64.wrap (99998 + r)) ≤ 100000))))) = true then (R false w) else (if (e != 0) = true then (R (cond (e == 1) ((b.len : Int) == 0) false) w) else (c18 b w fun (d : Sl) (k : Int) (w : World) =>
  Nw (.cells #[] 5) w fun (b2 : Addr) (w : World) =>
  Cut ⟨b.a, b.len, b.cap⟩ 0 4 (b.cap : Int) 1 fun (s : Sl) =>
  Run .sl Try.prog (Builtin.append_ #[22, 22] 22 #[.slice (some b2) 0 0, .slice s.a s.len s.cap]) w fun (s2 : Sl) (w : World) =>
  Run .sl Try.prog (Builtin.append_ #[22, 22] 22 #[.slice s2.a s2.len s2.cap, .slice data.a data.len data.cap]) w fun (s3 : Sl) (w : World) =>
  c20 s3 w fun (sum : Int) (w : World) =>
  Dr w fun (w : World) =>
  Ix b.a b.len 4 1 fun (a2 : Addr) =>
  Ld (.i .u8) w a2 fun (x : Int) =>
  Ix b.a b.len 5 1 fun (a3 : Addr) =>
  Ld (.i .u8) w a3 fun (x2 : Int) =>
  Ix b.a b.len 6 1 fun (a4 : Addr) =>
  Ld (.i .u8) w a4 fun (x3 : Int) =>
  Ix b.a b.len 7 1 fun (a5 : Addr) =>
  Ld (.i .u8) w a5 fun (x4 : Int) =>
  if (k == (b.len : Int)) = true then (if ((b.len : Int) == (IntKind.i64.wrap ((IntKind.i64.wrap (99998 + r)) + 8))) = true then (RdB w ⟨d.a, d.len, d.cap⟩ fun (x5 : ByteArray) =>
  RdB w ⟨data.a, data.len, data.cap⟩ fun (x6 : ByteArray) =>
  if (x5.toList == x6.toList) = true then (R (sum == (IntKind.u32.wrap ((IntKind.u32.wrap ((IntKind.u32.wrap ((IntKind.u32.wrap x) + (IntKind.u32.wrap ((IntKind.u32.wrap x2) * 256)))) + (IntKind.u32.wrap ((IntKind.u32.wrap x3) * 65536)))) + (IntKind.u32.wrap ((IntKind.u32.wrap x4) * 16777216))))) w) else (R false w)) else (R false w)) else (R false w)))))

theorem f7_eq (n_ : Int) (fill : Int) (w : World) (R : Bool → World → Prop) :
    f7 n_ fill w R = dFunc Try.prog ⟨[(5, ⟨[(8, .i .i64)], [1, 5, 6, 7]⟩)], []⟩ Try.f7 [.int .i64 n_, .int .u8 fill] (fun v w' => viewRet [.one .b] v R w') w := by kernel_rfl

theorem c7_of {n_ : Int} {fill : Int} {w : World} {R : Bool → World → Prop} (h : f7 n_ fill w R) : c7 n_ fill w R :=
  callK_of okP Try.func7 (by rw [← f7_eq]; exact h)

/-- hindcast/hindcastlaw02.shown. -/
def f8 (w : World) (R : Bool → World → Prop) : Prop :=
  Nw (.cells #[.bool false] 4) w fun (a : Addr) (w : World) =>
  Nw (.cells #[.int .u8 120] 5) w fun (b : Addr) (w : World) =>
  Run .sl Try.prog (convert 22 22 (.slice (some b) 1 1)) w fun (x : Sl) (w : World) =>
  Nw (.cells #[.int .u8 97, .int .u8 98] 5) w fun (b2 : Addr) (w : World) =>
  Run .sl Try.prog (convert 22 22 (.slice (some b2) 2 2)) w fun (x2 : Sl) (w : World) =>
  c10 x x2 w fun (b3 : Sl) (e : Int) (w : World) =>
  ∃ J_ : World → Prop, (if (e != 0) = true then (St a (.bool false) w fun (w : World) =>
  Ld .b w a fun (r : Bool) =>
  R r w) else (if ((b3.len : Int) != 9) = true then (St a (.bool false) w fun (w : World) =>
  Ld .b w a fun (r2 : Bool) =>
  R r2 w) else (Ix b3.a b3.len 0 1 fun (a2 : Addr) =>
  Ld (.i .u8) w a2 fun (x3 : Int) =>
  if (x3 != 120) = true then (St a (.bool false) w fun (w : World) =>
  Ld .b w a fun (r3 : Bool) =>
  R r3 w) else (Ix b3.a b3.len 1 1 fun (a3 : Addr) =>
  Ld (.i .u8) w a3 fun (x4 : Int) =>
  if (x4 != 130) = true then (St a (.bool false) w fun (w : World) =>
  Ld .b w a fun (r4 : Bool) =>
  R r4 w) else (Ix b3.a b3.len 2 1 fun (a4 : Addr) =>
  Ld (.i .u8) w a4 fun (x5 : Int) =>
  if (x5 != 2) = true then (St a (.bool false) w fun (w : World) =>
  Ld .b w a fun (r5 : Bool) =>
  R r5 w) else (Ix b3.a b3.len 7 1 fun (a5 : Addr) =>
  Ld (.i .u8) w a5 fun (x6 : Int) =>
  if (x6 != 97) = true then (St a (.bool false) w fun (w : World) =>
  Ld .b w a fun (r6 : Bool) =>
  R r6 w) else (Ix b3.a b3.len 8 1 fun (a6 : Addr) =>
  Ld (.i .u8) w a6 fun (x7 : Int) =>
  if (x7 != 98) = true then (St a (.bool false) w fun (w : World) =>
  Ld .b w a fun (r7 : Bool) =>
  R r7 w) else (J_  w)))))))) ∧ ∀ w : World, J_  w → (Cut ⟨b3.a, b3.len, b3.cap⟩ 1 (b3.len : Int) (b3.cap : Int) 1 fun (s : Sl) =>
  c18 s w fun (d : Sl) (n_ : Int) (w : World) =>
  Cut ⟨b3.a, b3.len, b3.cap⟩ 1 (b3.len : Int) (b3.cap : Int) 1 fun (s2 : Sl) =>
  c17 s2 w fun (l : Sl) (m : Int) (w : World) =>
  Nw (.cells #[.int .i64 0] 3) w fun (count : Addr) (w : World) =>
  St count (.int .i64 0) w fun (w : World) =>
  Cut ⟨b3.a, b3.len, b3.cap⟩ 1 (b3.len : Int) (b3.cap : Int) 1 fun (s3 : Sl) =>
  c21 s3 w fun (walk : Value) (w : World) =>
  RunRo .b Try.prog (binSem .eql 45 (.tmp 71) (.const (.nilFunc)) (walk) (.nilFunc)) w fun (eq : Bool) =>
  if eq = true then (St a (.bool false) w fun (w : World) =>
  Ld .b w a fun (r8 : Bool) =>
  R r8 w) else (RangeK Try.prog (walk) [.i .i64, .sl] (fun (at_ : Int) (x8 : Sl) (C : BodyK) => ∀ w : World, (Exit.normal = Exit.normal ∧ w = w ∧ C fun (w : World) (post : Exit → World → Prop) =>
  ∃ J_2 : World → Prop, (if (at_ != 0) = true then (St a (.bool false) w fun (w : World) =>
  post .ret w) else (RdB w ⟨x8.a, x8.len, x8.cap⟩ fun (x9 : ByteArray) =>
  if (!(x9.toList == (⟨#[97, 98]⟩ : ByteArray).toList)) = true then (St a (.bool false) w fun (w : World) =>
  post .ret w) else (J_2  w))) ∧ ∀ w : World, J_2  w → (Ld (.i .i64) w count fun (count2 : Int) =>
  St count (.int .i64 (IntKind.i64.wrap (count2 + 1))) w fun (w : World) =>
  post .normal w))) w (fun (D : Nat) (w : World) =>
  RdB w ⟨d.a, d.len, d.cap⟩ fun (x10 : ByteArray) =>
  if (x10.toList == (⟨#[97, 98]⟩ : ByteArray).toList) = true then (if (n_ == 8) = true then (if ((l.len : Int) == 1) = true then (if (m == 8) = true then (Ld (.i .i64) w count fun (count3 : Int) =>
  St a (.bool (count3 == 1)) w fun (w : World) =>
  EndM [D] w fun (w : World) =>
  Ld .b w a fun (r9 : Bool) =>
  R r9 w) else (St a (.bool false) w fun (w : World) =>
  EndM [D] w fun (w : World) =>
  Ld .b w a fun (r10 : Bool) =>
  R r10 w)) else (St a (.bool false) w fun (w : World) =>
  EndM [D] w fun (w : World) =>
  Ld .b w a fun (r11 : Bool) =>
  R r11 w)) else (St a (.bool false) w fun (w : World) =>
  EndM [D] w fun (w : World) =>
  Ld .b w a fun (r12 : Bool) =>
  R r12 w)) else (St a (.bool false) w fun (w : World) =>
  EndM [D] w fun (w : World) =>
  Ld .b w a fun (r13 : Bool) =>
  R r13 w)) (fun (D : Nat) (w : World) =>
  EndM [D] w fun (w : World) =>
  Ld .b w a fun (r14 : Bool) =>
  R r14 w) []))

theorem f8_eq (w : World) (R : Bool → World → Prop) :
    f8  w R = dFuncM Try.prog ⟨[], [(4, ⟨[], [0, 1]⟩), (15, ⟨[], [7]⟩)]⟩ [(74, .i .i64), (75, .sl)] Try.f8 [] (fun v w' => viewRet [.one .b] v R w') w := by kernel_rfl

theorem c8_of {w : World} {R : Bool → World → Prop} (h : f8  w R) : c8  w R :=
  callK_ofM okP Try.func8 (by rw [← f8_eq]; exact h)

/-- hindcast/hindcastlaw02.lent. -/
def f9 (b : Sl) (w : World) (R : Sl → World → Prop) : Prop :=
  Mk [.int .u8 0] 5 1 (IntKind.i64.wrap ((b.len : Int) + 8)) (IntKind.i64.wrap ((b.len : Int) + 8)) w fun (l : Sl) (w : World) =>
  Run (.i .i64) Try.prog (Builtin.copy_ #[22, 22] 3 #[.slice l.a l.len l.cap, .slice b.a b.len b.cap]) w fun (n_ : Int) (w : World) =>
  ∃ Inv_ : Int → Nat → World → Prop, (∃ n : Nat, Inv_ (b.len : Int) n w) ∧ ∀ i : Int, ∀ m : Nat, ∀ w : World, Inv_ i m w → (if (decide (i < (l.len : Int))) = true then (Ix l.a l.len i 1 fun (a : Addr) =>
  St a (.int .u8 201) w fun (w : World) =>
  ∃ m2 : Nat, m2 < m ∧ Inv_ (IntKind.i64.wrap (i + 1)) m2 w) else (R l w))

theorem f9_eq (b : Sl) (w : World) (R : Sl → World → Prop) :
    f9 b w R = dFunc Try.prog ⟨[(4, ⟨[(4, .i .i64)], [3]⟩)], []⟩ Try.f9 [.slice b.a b.len b.cap] (fun v w' => viewRet [.one .sl] v R w') w := by kernel_rfl

theorem c9_of {b : Sl} {w : World} {R : Sl → World → Prop} (h : f9 b w R) : c9 b w R :=
  callK_of okP Try.func9 (by rw [← f9_eq]; exact h)

/-- hindcast/record.Put. -/
def f10 (b : Sl) (data : Sl) (w : World) (R : Sl → Int → World → Prop) : Prop :=
  if (cond ((data.len : Int) == 0) true (decide ((data.len : Int) > 100000))) = true then (R ⟨none, 0, 0⟩ 1 w) else (Nw (.cells #[.int .u8 130] 5) w fun (b2 : Addr) (w : World) =>
  c22 ⟨some b2, 1, 1⟩ (IntKind.u64.wrap (data.len : Int)) w fun (head : Sl) (w : World) =>
  c24 head data w fun (r : Sl) (w : World) =>
  Nw (.cells #[.slice b.a b.len b.cap, .slice head.a head.len head.cap, .slice r.a r.len r.cap, .slice data.a data.len data.cap] 22) w fun (b3 : Addr) (w : World) =>
  c23 ⟨some b3, 4, 4⟩ w fun (r2 : Sl) (w : World) =>
  R r2 0 w)

theorem f10_eq (b : Sl) (data : Sl) (w : World) (R : Sl → Int → World → Prop) :
    f10 b data w R = dFunc Try.prog ⟨[], []⟩ Try.f10 [.slice b.a b.len b.cap, .slice data.a data.len data.cap] (fun v w' => viewRet [.one .sl, .one (.i .i64)] v R w') w := by kernel_rfl

theorem c10_of {b : Sl} {data : Sl} {w : World} {R : Sl → Int → World → Prop} (h : f10 b data w R) : c10 b data w R :=
  callK_of okP Try.func10 (by rw [← f10_eq]; exact h)

/-- hindcast/hindcastref02.Put. -/
def f11 (b : Sl) (data : Sl) (w : World) (R : Sl → Int → World → Prop) : Prop :=
  if (cond (decide ((data.len : Int) < 1)) true (decide ((data.len : Int) > 100000))) = true then (R ⟨none, 0, 0⟩ 1 w) else (Nw (.cells #[] 5) w fun (b2 : Addr) (w : World) =>
  Run .sl Try.prog (Builtin.append_ #[22, 22] 22 #[.slice (some b2) 0 0, .slice b.a b.len b.cap]) w fun (out : Sl) (w : World) =>
  c25 data w fun (more : Sl) (w : World) =>
  Run .sl Try.prog (Builtin.append_ #[22, 22] 22 #[.slice out.a out.len out.cap, .slice more.a more.len more.cap]) w fun (s : Sl) (w : World) =>
  R s 0 w)

theorem f11_eq (b : Sl) (data : Sl) (w : World) (R : Sl → Int → World → Prop) :
    f11 b data w R = dFunc Try.prog ⟨[], []⟩ Try.f11 [.slice b.a b.len b.cap, .slice data.a data.len data.cap] (fun v w' => viewRet [.one .sl, .one (.i .i64)] v R w') w := by kernel_rfl

theorem c11_of {b : Sl} {data : Sl} {w : World} {R : Sl → Int → World → Prop} (h : f11 b data w R) : c11 b data w R :=
  callK_of okP Try.func11 (by rw [← f11_eq]; exact h)

/-- hindcast/hindcastlaw02.still. -/
def f12 (l : Sl) (b : Sl) (w : World) (R : Bool → World → Prop) : Prop :=
  ∃ Inv_ : Bool → Int → Nat → World → Prop, (∃ n : Nat, Inv_ true 0 n w) ∧ ∀ ok : Bool, ∀ i : Int, ∀ m : Nat, ∀ w : World, Inv_ ok i m w → (if (decide (i < (l.len : Int))) = true then (Dr w fun (w : World) =>
  if ok = true then (if (decide (i < (b.len : Int))) = true then (Ix l.a l.len i 1 fun (a : Addr) =>
  Ld (.i .u8) w a fun (x : Int) =>
  Ix b.a b.len i 1 fun (a2 : Addr) =>
  Ld (.i .u8) w a2 fun (x2 : Int) =>
  if (x == x2) = true then (Ix l.a l.len i 1 fun (a3 : Addr) =>
  St a3 (.int .u8 77) w fun (w : World) =>
  ∃ m2 : Nat, m2 < m ∧ Inv_ true (IntKind.i64.wrap (i + 1)) m2 w) else (if (decide (i ≥ (b.len : Int))) = true then (Ix l.a l.len i 1 fun (a4 : Addr) =>
  Ld (.i .u8) w a4 fun (x3 : Int) =>
  Ix l.a l.len i 1 fun (a5 : Addr) =>
  St a5 (.int .u8 77) w fun (w : World) =>
  ∃ m2 : Nat, m2 < m ∧ Inv_ (x3 == 201) (IntKind.i64.wrap (i + 1)) m2 w) else (Ix l.a l.len i 1 fun (a6 : Addr) =>
  St a6 (.int .u8 77) w fun (w : World) =>
  ∃ m2 : Nat, m2 < m ∧ Inv_ false (IntKind.i64.wrap (i + 1)) m2 w))) else (if (decide (i ≥ (b.len : Int))) = true then (Ix l.a l.len i 1 fun (a7 : Addr) =>
  Ld (.i .u8) w a7 fun (x4 : Int) =>
  Ix l.a l.len i 1 fun (a8 : Addr) =>
  St a8 (.int .u8 77) w fun (w : World) =>
  ∃ m2 : Nat, m2 < m ∧ Inv_ (x4 == 201) (IntKind.i64.wrap (i + 1)) m2 w) else (Ix l.a l.len i 1 fun (a9 : Addr) =>
  St a9 (.int .u8 77) w fun (w : World) =>
  ∃ m2 : Nat, m2 < m ∧ Inv_ false (IntKind.i64.wrap (i + 1)) m2 w))) else (Ix l.a l.len i 1 fun (a10 : Addr) =>
  St a10 (.int .u8 77) w fun (w : World) =>
  ∃ m2 : Nat, m2 < m ∧ Inv_ false (IntKind.i64.wrap (i + 1)) m2 w)) else (R ok w))

theorem f12_eq (l : Sl) (b : Sl) (w : World) (R : Bool → World → Prop) :
    f12 l b w R = dFunc Try.prog ⟨[(3, ⟨[(5, .b), (6, .i .i64)], [0, 1]⟩)], []⟩ Try.f12 [.slice l.a l.len l.cap, .slice b.a b.len b.cap] (fun v w' => viewRet [.one .b] v R w') w := by kernel_rfl

theorem c12_of {l : Sl} {b : Sl} {w : World} {R : Bool → World → Prop} (h : f12 l b w R) : c12 l b w R :=
  callK_of okP Try.func12 (by rw [← f12_eq]; exact h)

/-- hindcast/hindcastlaw02.sevens. -/
def f13 (n_ : Int) (w : World) (R : Sl → World → Prop) : Prop :=
  Mk [.int .u8 0] 5 1 n_ n_ w fun (b : Sl) (w : World) =>
  ∃ Inv_ : Int → Nat → World → Prop, (∃ n : Nat, Inv_ 0 n w) ∧ ∀ i : Int, ∀ m : Nat, ∀ w : World, Inv_ i m w → (if (decide (i < n_)) = true then (Ix b.a b.len i 1 fun (a : Addr) =>
  St a (.int .u8 77) w fun (w : World) =>
  ∃ m2 : Nat, m2 < m ∧ Inv_ (IntKind.i64.wrap (i + 1)) m2 w) else (R b w))

theorem f13_eq (n_ : Int) (w : World) (R : Sl → World → Prop) :
    f13 n_ w R = dFunc Try.prog ⟨[(3, ⟨[(4, .i .i64)], [0, 3]⟩)], []⟩ Try.f13 [.int .i64 n_] (fun v w' => viewRet [.one .sl] v R w') w := by kernel_rfl

theorem c13_of {n_ : Int} {w : World} {R : Sl → World → Prop} (h : f13 n_ w R) : c13 n_ w R :=
  callK_of okP Try.func13 (by rw [← f13_eq]; exact h)

/-- hindcast/hindcastlaw02.keep. -/
def f14 (l : Sl) (b : Sl) (w : World) (R : Sl → World → Prop) : Prop :=
  (250 : Int) ≠ 0 ∧ (∃ Inv_ : Int → Nat → World → Prop, (∃ n : Nat, Inv_ 0 n w) ∧ ∀ i : Int, ∀ m : Nat, ∀ w : World, Inv_ i m w → (if (decide (i < (b.len : Int))) = true then (Ix b.a b.len i 1 fun (a : Addr) =>
  St a (.int .u8 (IntKind.u8.wrap (IntKind.i64.wrap (3 + (Int.tmod (IntKind.i64.wrap (5 * (l.len : Int))) 250))))) w fun (w : World) =>
  ∃ m2 : Nat, m2 < m ∧ Inv_ (IntKind.i64.wrap (i + 1)) m2 w) else (Nw (.cells #[.slice b.a b.len b.cap, .int .u8 (IntKind.u8.wrap (IntKind.i64.wrap (3 + (Int.tmod (IntKind.i64.wrap (5 * (l.len : Int))) 250))))] 52) w fun (b2 : Addr) (w : World) =>
  Run .sl Try.prog (Builtin.append_ #[30, 30] 30 #[.slice l.a l.len l.cap, .slice (some b2) 1 1]) w fun (l2 : Sl) (w : World) =>
  ∃ Inv_2 : Sl → Int → Nat → World → Prop, (∃ n : Nat, Inv_2 b 0 n w) ∧ ∀ c : Sl, ∀ n_ : Int, ∀ m3 : Nat, ∀ w : World, Inv_2 c n_ m3 w → (if (decide (n_ < 64)) = true then (Nw (.cells #[.int .u8 (IntKind.u8.wrap (IntKind.i64.wrap (3 + (Int.tmod (IntKind.i64.wrap (5 * (l.len : Int))) 250))))] 5) w fun (b3 : Addr) (w : World) =>
  Run .sl Try.prog (Builtin.append_ #[22, 22] 22 #[.slice c.a c.len c.cap, .slice (some b3) 1 1]) w fun (c2 : Sl) (w : World) =>
  ∃ m4 : Nat, m4 < m3 ∧ Inv_2 c2 (IntKind.i64.wrap (n_ + 1)) m4 w) else (Nw (.cells #[.slice c.a c.len c.cap, .int .u8 (IntKind.u8.wrap (IntKind.i64.wrap (3 + (Int.tmod (IntKind.i64.wrap (5 * (l.len : Int))) 250))))] 52) w fun (b4 : Addr) (w : World) =>
  Run .sl Try.prog (Builtin.append_ #[30, 30] 30 #[.slice l2.a l2.len l2.cap, .slice (some b4) 1 1]) w fun (s : Sl) (w : World) =>
  R s w)))))

theorem f14_eq (l : Sl) (b : Sl) (w : World) (R : Sl → World → Prop) :
    f14 l b w R = dFunc Try.prog ⟨[(3, ⟨[(6, .i .i64)], [0, 1, 5]⟩), (9, ⟨[(7, .sl), (8, .i .i64)], [0, 5]⟩)], []⟩ Try.f14 [.slice l.a l.len l.cap, .slice b.a b.len b.cap] (fun v w' => viewRet [.one .sl] v R w') w := by kernel_rfl

theorem c14_of {l : Sl} {b : Sl} {w : World} {R : Sl → World → Prop} (h : f14 l b w R) : c14 l b w R :=
  callK_of okP Try.func14 (by rw [← f14_eq]; exact h)

/-- hindcast/hindcastlaw02.looks. -/
def f15 (l : Sl) (w : World) (R : Bool → World → Prop) : Prop :=
  ∃ Inv_ : Int → Nat → World → Prop, (∃ n : Nat, Inv_ 0 n w) ∧ ∀ i : Int, ∀ m : Nat, ∀ w : World, Inv_ i m w → (if (decide (i < (l.len : Int))) = true then (∃ Inv_2 : Int → Nat → World → Prop, (∃ n : Nat, Inv_2 0 n w) ∧ ∀ k : Int, ∀ m3 : Nat, ∀ w : World, Inv_2 k m3 w → (Ix l.a l.len i 2 fun (a : Addr) =>
  Ld .sl w a fun (b : Sl) =>
  if (decide (k < (b.len : Int))) = true then (Dr w fun (w : World) =>
  Ix l.a l.len i 2 fun (a2 : Addr) =>
  Ld .sl w a2 fun (b2 : Sl) =>
  Ix b2.a b2.len k 1 fun (a3 : Addr) =>
  Ld (.i .u8) w a3 fun (x : Int) =>
  Ix l.a l.len i 2 fun (a4 : Addr) =>
  Ld (.i .u8) w (a4.add 1) fun (mark : Int) =>
  if (x != mark) = true then (R false w) else (∃ m4 : Nat, m4 < m3 ∧ Inv_2 (IntKind.i64.wrap (k + 1)) m4 w)) else (∃ m2 : Nat, m2 < m ∧ Inv_ (IntKind.i64.wrap (i + 1)) m2 w))) else (R true w))

theorem f15_eq (l : Sl) (w : World) (R : Bool → World → Prop) :
    f15 l w R = dFunc Try.prog ⟨[(2, ⟨[(3, .i .i64)], [0]⟩), (5, ⟨[(4, .i .i64)], [0, 3]⟩)], []⟩ Try.f15 [.slice l.a l.len l.cap] (fun v w' => viewRet [.one .b] v R w') w := by kernel_rfl

theorem c15_of {l : Sl} {w : World} {R : Bool → World → Prop} (h : f15 l w R) : c15 l w R :=
  callK_of okP Try.func15 (by rw [← f15_eq]; exact h)

/-- hindcast/record.Scan. -/
def f17 (b : Sl) (w : World) (R : Sl → Int → World → Prop) : Prop :=
  ∃ Inv_ : Sl → Int → Nat → World → Prop, (∃ n : Nat, Inv_ ⟨none, 0, 0⟩ 0 n w) ∧ ∀ out : Sl, ∀ at_ : Int, ∀ m : Nat, ∀ w : World, Inv_ out at_ m w → (Cut ⟨b.a, b.len, b.cap⟩ at_ (b.len : Int) (b.cap : Int) 1 fun (s : Sl) =>
  c18 s w fun (data : Sl) (n_ : Int) (w : World) =>
  if (n_ == 0) = true then (R out at_ w) else (Nw (.cells #[.slice data.a data.len data.cap] 22) w fun (b2 : Addr) (w : World) =>
  Run .sl Try.prog (Builtin.append_ #[34, 34] 34 #[.slice out.a out.len out.cap, .slice (some b2) 1 1]) w fun (out2 : Sl) (w : World) =>
  ∃ m2 : Nat, m2 < m ∧ Inv_ out2 (IntKind.i64.wrap (at_ + n_)) m2 w))

theorem f17_eq (b : Sl) (w : World) (R : Sl → Int → World → Prop) :
    f17 b w R = dFunc Try.prog ⟨[(3, ⟨[(4, .sl), (5, .i .i64)], [0]⟩)], []⟩ Try.f17 [.slice b.a b.len b.cap] (fun v w' => viewRet [.one .sl, .one (.i .i64)] v R w') w := by kernel_rfl

theorem c17_of {b : Sl} {w : World} {R : Sl → Int → World → Prop} (h : f17 b w R) : c17 b w R :=
  callK_of okP Try.func17 (by rw [← f17_eq]; exact h)

/-- hindcast/record.Get. -/
def f18 (b : Sl) (w : World) (R : Sl → Int → World → Prop) : Prop :=
  ∃ J_ : World → Prop, (if ((b.len : Int) == 0) = true then (R ⟨none, 0, 0⟩ 0 w) else (Ix b.a b.len 0 1 fun (a : Addr) =>
  Ld (.i .u8) w a fun (x : Int) =>
  if (x != 130) = true then (R ⟨none, 0, 0⟩ 0 w) else (J_  w))) ∧ ∀ w : World, J_  w → (Cut ⟨b.a, b.len, b.cap⟩ 1 (b.len : Int) (b.cap : Int) 1 fun (s : Sl) =>
  c30 s w fun (n_ : Int) (size : Int) (w : World) =>
  if (cond (cond (size == 0) true (n_ == 0)) true (decide (n_ > 100000))) = true then (R ⟨none, 0, 0⟩ 0 w) else (Dr w fun (w : World) =>
  Cut ⟨b.a, b.len, b.cap⟩ 0 (IntKind.i64.wrap (1 + size)) (IntKind.i64.wrap (1 + size)) 1 fun (head : Sl) =>
  Cut ⟨b.a, b.len, b.cap⟩ (IntKind.i64.wrap (1 + size)) (b.len : Int) (b.cap : Int) 1 fun (rest : Sl) =>
  if (decide ((rest.len : Int) < (IntKind.i64.wrap (4 + (IntKind.i64.wrap n_))))) = true then (R ⟨none, 0, 0⟩ 0 w) else (Cut ⟨rest.a, rest.len, rest.cap⟩ 4 (IntKind.i64.wrap (4 + (IntKind.i64.wrap n_))) (IntKind.i64.wrap (4 + (IntKind.i64.wrap n_))) 1 fun (data : Sl) =>
  Dr w fun (w : World) =>
  Cut ⟨rest.a, rest.len, rest.cap⟩ 0 4 (rest.cap : Int) 1 fun (s2 : Sl) =>
  c24 head data w fun (r : Sl) (w : World) =>
  c31 s2 r w fun (r2 : Bool) (w : World) =>
  if (!r2) = true then (R ⟨none, 0, 0⟩ 0 w) else (c32 data w fun (r3 : Sl) (w : World) =>
  R r3 (IntKind.i64.wrap ((head.len : Int) + (IntKind.i64.wrap (4 + (IntKind.i64.wrap n_))))) w))))

theorem f18_eq (b : Sl) (w : World) (R : Sl → Int → World → Prop) :
    f18 b w R = dFunc Try.prog ⟨[], [(3, ⟨[], [0]⟩)]⟩ Try.f18 [.slice b.a b.len b.cap] (fun v w' => viewRet [.one .sl, .one (.i .i64)] v R w') w := by kernel_rfl

theorem c18_of {b : Sl} {w : World} {R : Sl → Int → World → Prop} (h : f18 b w R) : c18 b w R :=
  callK_of okP Try.func18 (by rw [← f18_eq]; exact h)

/-- hindcast/hindcastlaw02.pick. -/
def f19 (c : Int) (n_ : Int) (w : World) (R : Int → World → Prop) : Prop :=
  if (decide (c < 0)) = true then ((n_ : Int) ≠ 0 ∧ (R (Int.tmod (IntKind.i64.wrap (0 - (IntKind.i64.wrap (c + 1)))) n_) w)) else ((n_ : Int) ≠ 0 ∧ (R (Int.tmod c n_) w))

theorem f19_eq (c : Int) (n_ : Int) (w : World) (R : Int → World → Prop) :
    f19 c n_ w R = dFunc Try.prog ⟨[], []⟩ Try.f19 [.int .i64 c, .int .i64 n_] (fun v w' => viewRet [.one (.i .i64)] v R w') w := by kernel_rfl

theorem c19_of {c : Int} {n_ : Int} {w : World} {R : Int → World → Prop} (h : f19 c n_ w R) : c19 c n_ w R :=
  callK_of okP Try.func19 (by rw [← f19_eq]; exact h)

/-- hindcast/hindcastref01.Sum. -/
def f20 (b : Sl) (w : World) (R : Int → World → Prop) : Prop :=
  ∃ Inv_ : Int → Int → Nat → World → Prop, (∃ n : Nat, Inv_ 4294967295 0 n w) ∧ ∀ s : Int, ∀ i : Int, ∀ m : Nat, ∀ w : World, Inv_ s i m w → (if (decide (i < (b.len : Int))) = true then (∃ Inv_2 : Int → Int → Nat → World → Prop, (∃ n : Nat, Inv_2 s 0 n w) ∧ ∀ s2 : Int, ∀ k : Int, ∀ m3 : Nat, ∀ w : World, Inv_2 s2 k m3 w → (if (decide (k < 8)) = true then (Ix b.a b.len i 1 fun (a : Addr) =>
  Ld (.i .u8) w a fun (x : Int) =>
  (0 : Int) ≤ k ∧ ((2 : Int) ≠ 0 ∧ ((2 : Int) ≠ 0 ∧ ((2 : Int) ≠ 0 ∧ (if ((Int.tmod (Int.fdiv (IntKind.u32.wrap x) (2 ^ (min (Int.toNat k) 32))) 2) != (Int.tmod s2 2)) = true then (∃ m4 : Nat, m4 < m3 ∧ Inv_2 (IntKind.u32.wrap ((BitVec.ofInt 32 (IntKind.u32.wrap (Int.tdiv s2 2)) ^^^ BitVec.ofInt 32 2197175160).toNat : Nat)) (IntKind.i64.wrap (k + 1)) m4 w) else (∃ m4 : Nat, m4 < m3 ∧ Inv_2 (IntKind.u32.wrap (Int.tdiv s2 2)) (IntKind.i64.wrap (k + 1)) m4 w)))))) else (∃ m2 : Nat, m2 < m ∧ Inv_ s2 (IntKind.i64.wrap (i + 1)) m2 w))) else (R (IntKind.u32.wrap ((BitVec.ofInt 32 s ^^^ BitVec.ofInt 32 4294967295).toNat : Nat)) w))

theorem f20_eq (b : Sl) (w : World) (R : Int → World → Prop) :
    f20 b w R = dFunc Try.prog ⟨[(3, ⟨[(3, .i .u32), (4, .i .i64)], [0]⟩), (6, ⟨[(3, .i .u32), (5, .i .i64)], [0, 4]⟩)], []⟩ Try.f20 [.slice b.a b.len b.cap] (fun v w' => viewRet [.one (.i .u32)] v R w') w := by kernel_rfl

theorem c20_of {b : Sl} {w : World} {R : Int → World → Prop} (h : f20 b w R) : c20 b w R :=
  callK_of okP Try.func20 (by rw [← f20_eq]; exact h)

/-- hindcast/record.Walk. -/
def f21 (b : Sl) (w : World) (R : Value → World → Prop) : Prop :=
  c32 b w fun (all : Sl) (w : World) =>
  Nw (.cells #[.slice none 0 0] 22) w fun (all2 : Addr) (w : World) =>
  St all2 (.slice all.a all.len all.cap) w fun (w : World) =>
  R (.func (.func 33) #[] #[.pointer (some all2)]) w

theorem f21_eq (b : Sl) (w : World) (R : Value → World → Prop) :
    f21 b w R = dFunc Try.prog ⟨[], []⟩ Try.f21 [.slice b.a b.len b.cap] (fun v w' => viewRet [.one .v] v R w') w := by kernel_rfl

theorem c21_of {b : Sl} {w : World} {R : Value → World → Prop} (h : f21 b w R) : c21 b w R :=
  callK_of okP Try.func21 (by rw [← f21_eq]; exact h)

/-- hindcast/pack.Put. -/
def f22 (b : Sl) (n_ : Int) (w : World) (R : Sl → World → Prop) : Prop :=
  c35 b w fun (r : Sl) (w : World) =>
  c34 r n_ w fun (r2 : Sl) (w : World) =>
  R r2 w

theorem f22_eq (b : Sl) (n_ : Int) (w : World) (R : Sl → World → Prop) :
    f22 b n_ w R = dFunc Try.prog ⟨[], []⟩ Try.f22 [.slice b.a b.len b.cap, .int .u64 n_] (fun v w' => viewRet [.one .sl] v R w') w := by kernel_rfl

theorem c22_of {b : Sl} {n_ : Int} {w : World} {R : Sl → World → Prop} (h : f22 b n_ w R) : c22 b n_ w R :=
  callK_of okP Try.func22 (by rw [← f22_eq]; exact h)

/-- slices.Concat[[]byte,byte]. -/
def f23 (slices : Sl) (w : World) (R : Sl → World → Prop) : Prop :=
  ∃ Inv_ : Int → Int → Nat → World → Prop, (∃ n : Nat, Inv_ 0 0 n w) ∧ ∀ size : Int, ∀ t11 : Int, ∀ m : Nat, ∀ w : World, Inv_ size t11 m w → (if (decide (t11 < (slices.len : Int))) = true then (Ix slices.a slices.len t11 1 fun (a : Addr) =>
  Ld .sl w a fun (s : Sl) =>
  if (decide ((IntKind.i64.wrap (size + (s.len : Int))) < 0)) = true then (False) else (∃ m2 : Nat, m2 < m ∧ Inv_ (IntKind.i64.wrap (size + (s.len : Int))) (IntKind.i64.wrap (t11 + 1)) m2 w)) else (c36 ⟨none, 0, 0⟩ size w fun (newslice : Sl) (w : World) =>
  ∃ Inv_2 : Sl → Int → Nat → World → Prop, (∃ n : Nat, Inv_2 newslice 0 n w) ∧ ∀ newslice2 : Sl, ∀ t27 : Int, ∀ m3 : Nat, ∀ w : World, Inv_2 newslice2 t27 m3 w → (if (decide (t27 < (slices.len : Int))) = true then (Ix slices.a slices.len t27 1 fun (a2 : Addr) =>
  Ld .sl w a2 fun (s2 : Sl) =>
  Run .sl Try.prog (Builtin.append_ #[22, 22] 22 #[.slice newslice2.a newslice2.len newslice2.cap, .slice s2.a s2.len s2.cap]) w fun (newslice3 : Sl) (w : World) =>
  ∃ m4 : Nat, m4 < m3 ∧ Inv_2 newslice3 (IntKind.i64.wrap (t27 + 1)) m4 w) else (R newslice2 w))))

theorem f23_eq (slices : Sl) (w : World) (R : Sl → World → Prop) :
    f23 slices w R = dFunc Try.prog ⟨[(3, ⟨[(3, .i .i64), (11, .i .i64)], [0, 9, 10]⟩), (11, ⟨[(6, .sl), (27, .i .i64)], [25, 26]⟩)], []⟩ Try.f23 [.slice slices.a slices.len slices.cap] (fun v w' => viewRet [.one .sl] v R w') w := by kernel_rfl

theorem c23_of {slices : Sl} {w : World} {R : Sl → World → Prop} (h : f23 slices w R) : c23 slices w R :=
  callK_of okP Try.func23 (by rw [← f23_eq]; exact h)

/-- hindcast/record.sum. -/
def f24 (head : Sl) (data : Sl) (w : World) (R : Sl → World → Prop) : Prop :=
  Nw (.cells #[.slice head.a head.len head.cap, .slice data.a data.len data.cap] 22) w fun (b : Addr) (w : World) =>
  c23 ⟨some b, 2, 2⟩ w fun (r : Sl) (w : World) =>
  c37 r w fun (n_ : Int) (w : World) =>
  (0 : Int) ≤ 8 ∧ ((0 : Int) ≤ 16 ∧ ((0 : Int) ≤ 24 ∧ (Nw (.cells #[.int .u8 (IntKind.u8.wrap n_), .int .u8 (IntKind.u8.wrap (Int.fdiv n_ (2 ^ (min (Int.toNat 8) 32)))), .int .u8 (IntKind.u8.wrap (Int.fdiv n_ (2 ^ (min (Int.toNat 16) 32)))), .int .u8 (IntKind.u8.wrap (Int.fdiv n_ (2 ^ (min (Int.toNat 24) 32))))] 5) w fun (b2 : Addr) (w : World) =>
  R ⟨some b2, 4, 4⟩ w)))

theorem f24_eq (head : Sl) (data : Sl) (w : World) (R : Sl → World → Prop) :
    f24 head data w R = dFunc Try.prog ⟨[], []⟩ Try.f24 [.slice head.a head.len head.cap, .slice data.a data.len data.cap] (fun v w' => viewRet [.one .sl] v R w') w := by kernel_rfl

theorem c24_of {head : Sl} {data : Sl} {w : World} {R : Sl → World → Prop} (h : f24 head data w R) : c24 head data w R :=
  callK_of okP Try.func24 (by rw [← f24_eq]; exact h)

/-- hindcast/hindcastref02.Made. -/
def f25 (data : Sl) (w : World) (R : Sl → World → Prop) : Prop :=
  Nw (.cells #[.int .u8 130] 5) w fun (b : Addr) (w : World) =>
  c38 ⟨some b, 1, 1⟩ (IntKind.u64.wrap (data.len : Int)) w fun (head : Sl) (w : World) =>
  Nw (.cells #[] 5) w fun (b2 : Addr) (w : World) =>
  Run .sl Try.prog (Builtin.append_ #[22, 22] 22 #[.slice (some b2) 0 0, .slice head.a head.len head.cap]) w fun (all : Sl) (w : World) =>
  Run .sl Try.prog (Builtin.append_ #[22, 22] 22 #[.slice all.a all.len all.cap, .slice data.a data.len data.cap]) w fun (all2 : Sl) (w : World) =>
  c20 all2 w fun (sum : Int) (w : World) =>
  Nw (.cells #[] 5) w fun (b3 : Addr) (w : World) =>
  Run .sl Try.prog (Builtin.append_ #[22, 22] 22 #[.slice (some b3) 0 0, .slice head.a head.len head.cap]) w fun (out : Sl) (w : World) =>
  ∃ Inv_ : Sl → Int → Nat → World → Prop, (∃ n : Nat, Inv_ out 0 n w) ∧ ∀ out2 : Sl, ∀ k : Int, ∀ m : Nat, ∀ w : World, Inv_ out2 k m w → (if (decide (k < 4)) = true then ((0 : Int) ≤ (IntKind.i64.wrap (8 * k)) ∧ (Nw (.cells #[.int .u8 (IntKind.u8.wrap (Int.fdiv sum (2 ^ (min (Int.toNat (IntKind.i64.wrap (8 * k))) 32))))] 5) w fun (b4 : Addr) (w : World) =>
  Run .sl Try.prog (Builtin.append_ #[22, 22] 22 #[.slice out2.a out2.len out2.cap, .slice (some b4) 1 1]) w fun (out3 : Sl) (w : World) =>
  ∃ m2 : Nat, m2 < m ∧ Inv_ out3 (IntKind.i64.wrap (k + 1)) m2 w)) else (Run .sl Try.prog (Builtin.append_ #[22, 22] 22 #[.slice out2.a out2.len out2.cap, .slice data.a data.len data.cap]) w fun (s : Sl) (w : World) =>
  R s w))

theorem f25_eq (data : Sl) (w : World) (R : Sl → World → Prop) :
    f25 data w R = dFunc Try.prog ⟨[(7, ⟨[(6, .sl), (7, .i .i64)], [0, 5]⟩)], []⟩ Try.f25 [.slice data.a data.len data.cap] (fun v w' => viewRet [.one .sl] v R w') w := by kernel_rfl

theorem c25_of {data : Sl} {w : World} {R : Sl → World → Prop} (h : f25 data w R) : c25 data w R :=
  callK_of okP Try.func25 (by rw [← f25_eq]; exact h)

/-- hindcast/hindcastref02.Get. -/
def f26 (b : Sl) (w : World) (R : Sl → Int → World → Prop) : Prop :=
  ∃ J_ : World → Prop, (if (decide ((b.len : Int) < 1)) = true then (R ⟨none, 0, 0⟩ 0 w) else (Ix b.a b.len 0 1 fun (a : Addr) =>
  Ld (.i .u8) w a fun (x : Int) =>
  if (x != 130) = true then (R ⟨none, 0, 0⟩ 0 w) else (J_  w))) ∧ ∀ w : World, J_  w → (Cut ⟨b.a, b.len, b.cap⟩ 1 (b.len : Int) (b.cap : Int) 1 fun (s : Sl) =>
  c39 s w fun (n_ : Int) (size : Int) (w : World) =>
  if (cond (cond (size == 0) true (decide (n_ < 1))) true (decide (n_ > 100000))) = true then (R ⟨none, 0, 0⟩ 0 w) else (if (decide ((IntKind.i64.wrap ((IntKind.i64.wrap ((IntKind.i64.wrap (1 + size)) + 4)) + (IntKind.i64.wrap n_))) > (b.len : Int))) = true then (R ⟨none, 0, 0⟩ 0 w) else (Nw (.cells #[] 5) w fun (b2 : Addr) (w : World) =>
  Cut ⟨b.a, b.len, b.cap⟩ (IntKind.i64.wrap ((IntKind.i64.wrap (1 + size)) + 4)) (IntKind.i64.wrap ((IntKind.i64.wrap ((IntKind.i64.wrap (1 + size)) + 4)) + (IntKind.i64.wrap n_))) (b.cap : Int) 1 fun (s2 : Sl) =>
  Run .sl Try.prog (Builtin.append_ #[22, 22] 22 #[.slice (some b2) 0 0, .slice s2.a s2.len s2.cap]) w fun (data : Sl) (w : World) =>
  c25 data w fun (made : Sl) (w : World) =>
  Dr w fun (w : World) =>
  RdB w ⟨made.a, made.len, made.cap⟩ fun (x2 : ByteArray) =>
  Cut ⟨b.a, b.len, b.cap⟩ 0 (IntKind.i64.wrap ((IntKind.i64.wrap ((IntKind.i64.wrap (1 + size)) + 4)) + (IntKind.i64.wrap n_))) (b.cap : Int) 1 fun (s3 : Sl) =>
  RdB w ⟨s3.a, s3.len, s3.cap⟩ fun (x3 : ByteArray) =>
  if (!(x2.toList == x3.toList)) = true then (R ⟨none, 0, 0⟩ 0 w) else (R data (IntKind.i64.wrap ((IntKind.i64.wrap ((IntKind.i64.wrap (1 + size)) + 4)) + (IntKind.i64.wrap n_))) w))))

theorem f26_eq (b : Sl) (w : World) (R : Sl → Int → World → Prop) :
    f26 b w R = dFunc Try.prog ⟨[], [(3, ⟨[], [0]⟩)]⟩ Try.f26 [.slice b.a b.len b.cap] (fun v w' => viewRet [.one .sl, .one (.i .i64)] v R w') w := by kernel_rfl

theorem c26_of {b : Sl} {w : World} {R : Sl → Int → World → Prop} (h : f26 b w R) : c26 b w R :=
  callK_of okP Try.func26 (by rw [← f26_eq]; exact h)

/-- hindcast/hindcastref02.Scan. -/
def f27 (b : Sl) (w : World) (R : Sl → Int → World → Prop) : Prop :=
  ∃ Inv_ : Sl → Int → Nat → World → Prop, (∃ n : Nat, Inv_ ⟨none, 0, 0⟩ 0 n w) ∧ ∀ out : Sl, ∀ at_ : Int, ∀ m : Nat, ∀ w : World, Inv_ out at_ m w → (Cut ⟨b.a, b.len, b.cap⟩ at_ (b.len : Int) (b.cap : Int) 1 fun (s : Sl) =>
  c26 s w fun (data : Sl) (n_ : Int) (w : World) =>
  if (n_ == 0) = true then (R out at_ w) else (Nw (.cells #[.slice data.a data.len data.cap] 22) w fun (b2 : Addr) (w : World) =>
  Run .sl Try.prog (Builtin.append_ #[34, 34] 34 #[.slice out.a out.len out.cap, .slice (some b2) 1 1]) w fun (out2 : Sl) (w : World) =>
  ∃ m2 : Nat, m2 < m ∧ Inv_ out2 (IntKind.i64.wrap (at_ + n_)) m2 w))

theorem f27_eq (b : Sl) (w : World) (R : Sl → Int → World → Prop) :
    f27 b w R = dFunc Try.prog ⟨[(3, ⟨[(4, .sl), (5, .i .i64)], [0]⟩)], []⟩ Try.f27 [.slice b.a b.len b.cap] (fun v w' => viewRet [.one .sl, .one (.i .i64)] v R w') w := by kernel_rfl

theorem c27_of {b : Sl} {w : World} {R : Sl → Int → World → Prop} (h : f27 b w R) : c27 b w R :=
  callK_of okP Try.func27 (by rw [← f27_eq]; exact h)

/-- hindcast/hindcastlaw02.outer. -/
def f28 (l : Sl) (name : ByteArray) (w : World) (R : Sl → World → Prop) : Prop :=
  ∃ Inv_ : Int → Nat → World → Prop, (∃ n : Nat, Inv_ 0 n w) ∧ ∀ i : Int, ∀ m : Nat, ∀ w : World, Inv_ i m w → (if (decide (i < (l.len : Int))) = true then (Run .sl Try.prog (convert 9 22 (.string name)) w fun (x : Sl) (w : World) =>
  Ix l.a l.len i 1 fun (a : Addr) =>
  St a (.slice x.a x.len x.cap) w fun (w : World) =>
  ∃ m2 : Nat, m2 < m ∧ Inv_ (IntKind.i64.wrap (i + 1)) m2 w) else (∃ Inv_2 : Sl → Int → Nat → World → Prop, (∃ n : Nat, Inv_2 l 0 n w) ∧ ∀ l2 : Sl, ∀ n_ : Int, ∀ m3 : Nat, ∀ w : World, Inv_2 l2 n_ m3 w → (if (decide (n_ < 64)) = true then (Run .sl Try.prog (convert 9 22 (.string name)) w fun (x2 : Sl) (w : World) =>
  Nw (.cells #[.slice x2.a x2.len x2.cap] 22) w fun (b : Addr) (w : World) =>
  Run .sl Try.prog (Builtin.append_ #[34, 34] 34 #[.slice l2.a l2.len l2.cap, .slice (some b) 1 1]) w fun (l3 : Sl) (w : World) =>
  ∃ m4 : Nat, m4 < m3 ∧ Inv_2 l3 (IntKind.i64.wrap (n_ + 1)) m4 w) else (R l2 w))))

theorem f28_eq (l : Sl) (name : ByteArray) (w : World) (R : Sl → World → Prop) :
    f28 l name w R = dFunc Try.prog ⟨[(2, ⟨[(5, .i .i64)], [0, 1]⟩), (6, ⟨[(0, .sl), (6, .i .i64)], [1]⟩)], []⟩ Try.f28 [.slice l.a l.len l.cap, .string name] (fun v w' => viewRet [.one .sl] v R w') w := by kernel_rfl

theorem c28_of {l : Sl} {name : ByteArray} {w : World} {R : Sl → World → Prop} (h : f28 l name w R) : c28 l name w R :=
  callK_of okP Try.func28 (by rw [← f28_eq]; exact h)

/-- hindcast/hindcastlaw02.written. -/
def f29 (l : Sl) (name : ByteArray) (w : World) (R : Bool → World → Prop) : Prop :=
  ∃ Inv_ : Int → Nat → World → Prop, (∃ n : Nat, Inv_ 0 n w) ∧ ∀ i : Int, ∀ m : Nat, ∀ w : World, Inv_ i m w → (if (decide (i < (l.len : Int))) = true then (Ix l.a l.len i 1 fun (a : Addr) =>
  Ld .sl w a fun (x : Sl) =>
  RdB w ⟨x.a, x.len, x.cap⟩ fun (x2 : ByteArray) =>
  if (!(x2.toList == name.toList)) = true then (R false w) else (∃ m2 : Nat, m2 < m ∧ Inv_ (IntKind.i64.wrap (i + 1)) m2 w)) else (R true w))

theorem f29_eq (l : Sl) (name : ByteArray) (w : World) (R : Bool → World → Prop) :
    f29 l name w R = dFunc Try.prog ⟨[(2, ⟨[(5, .i .i64)], [0, 1]⟩)], []⟩ Try.f29 [.slice l.a l.len l.cap, .string name] (fun v w' => viewRet [.one .b] v R w') w := by kernel_rfl

theorem c29_of {l : Sl} {name : ByteArray} {w : World} {R : Bool → World → Prop} (h : f29 l name w R) : c29 l name w R :=
  callK_of okP Try.func29 (by rw [← f29_eq]; exact h)

/-- hindcast/pack.Get. -/
def f30 (b : Sl) (w : World) (R : Int → Int → World → Prop) : Prop :=
  ∃ Inv_ : Int → Int → Nat → World → Prop, (∃ n : Nat, Inv_ 0 0 n w) ∧ ∀ n_ : Int, ∀ t9 : Int, ∀ m : Nat, ∀ w : World, Inv_ n_ t9 m w → (if (decide (t9 < (b.len : Int))) = true then (Ix b.a b.len t9 1 fun (a : Addr) =>
  Ld (.i .u8) w a fun (c : Int) =>
  if (cond (t9 == 9) (decide (c > 1)) false) = true then (R 0 0 w) else ((0 : Int) ≤ (IntKind.i64.wrap (7 * t9)) ∧ (if (decide (c ≥ 128)) = true then (∃ m2 : Nat, m2 < m ∧ Inv_ (IntKind.u64.wrap ((BitVec.ofInt 64 n_ ||| BitVec.ofInt 64 (IntKind.u64.wrap ((IntKind.u64.wrap (IntKind.u8.wrap ((BitVec.ofInt 8 c &&& BitVec.ofInt 8 127).toNat : Nat))) * 2 ^ (min (Int.toNat (IntKind.i64.wrap (7 * t9))) 64)))).toNat : Nat)) (IntKind.i64.wrap (t9 + 1)) m2 w) else (if (cond (c == 0) (decide (t9 > 0)) false) = true then (R 0 0 w) else (R (IntKind.u64.wrap ((BitVec.ofInt 64 n_ ||| BitVec.ofInt 64 (IntKind.u64.wrap ((IntKind.u64.wrap (IntKind.u8.wrap ((BitVec.ofInt 8 c &&& BitVec.ofInt 8 127).toNat : Nat))) * 2 ^ (min (Int.toNat (IntKind.i64.wrap (7 * t9))) 64)))).toNat : Nat)) (IntKind.i64.wrap (t9 + 1)) w))))) else (R 0 0 w))

theorem f30_eq (b : Sl) (w : World) (R : Int → Int → World → Prop) :
    f30 b w R = dFunc Try.prog ⟨[(3, ⟨[(4, .i .u64), (9, .i .i64)], [7, 8]⟩)], []⟩ Try.f30 [.slice b.a b.len b.cap] (fun v w' => viewRet [.one (.i .u64), .one (.i .i64)] v R w') w := by kernel_rfl

theorem c30_of {b : Sl} {w : World} {R : Int → Int → World → Prop} (h : f30 b w R) : c30 b w R :=
  callK_of okP Try.func30 (by rw [← f30_eq]; exact h)

/-- slices.Equal[[]byte,byte]. -/
def f31 (s1 : Sl) (s2 : Sl) (w : World) (R : Bool → World → Prop) : Prop :=
  if ((s1.len : Int) != (s2.len : Int)) = true then (R false w) else (∃ Inv_ : Int → Nat → World → Prop, (∃ n : Nat, Inv_ 0 n w) ∧ ∀ t13 : Int, ∀ m : Nat, ∀ w : World, Inv_ t13 m w → (if (decide (t13 < (s1.len : Int))) = true then (Dr w fun (w : World) =>
  Ix s1.a s1.len t13 1 fun (a : Addr) =>
  Ld (.i .u8) w a fun (x : Int) =>
  Ix s2.a s2.len t13 1 fun (a2 : Addr) =>
  Ld (.i .u8) w a2 fun (x2 : Int) =>
  if (x != x2) = true then (R false w) else (∃ m2 : Nat, m2 < m ∧ Inv_ (IntKind.i64.wrap (t13 + 1)) m2 w)) else (R true w)))

theorem f31_eq (s1 : Sl) (s2 : Sl) (w : World) (R : Bool → World → Prop) :
    f31 s1 s2 w R = dFunc Try.prog ⟨[(4, ⟨[(13, .i .i64)], [0, 1, 12]⟩)], []⟩ Try.f31 [.slice s1.a s1.len s1.cap, .slice s2.a s2.len s2.cap] (fun v w' => viewRet [.one .b] v R w') w := by kernel_rfl

theorem c31_of {s1 : Sl} {s2 : Sl} {w : World} {R : Bool → World → Prop} (h : f31 s1 s2 w R) : c31 s1 s2 w R :=
  callK_of okP Try.func31 (by rw [← f31_eq]; exact h)

/-- slices.Clone[[]byte,byte]. -/
def f32 (s : Sl) (w : World) (R : Sl → World → Prop) : Prop :=
  if s.a.isNone = true then (R ⟨none, 0, 0⟩ w) else (Nw (.cells #[] 5) w fun (b : Addr) (w : World) =>
  Run .sl Try.prog (Builtin.append_ #[22, 22] 22 #[.slice (some b) 0 0, .slice s.a s.len s.cap]) w fun (s2 : Sl) (w : World) =>
  R s2 w)

theorem f32_eq (s : Sl) (w : World) (R : Sl → World → Prop) :
    f32 s w R = dFunc Try.prog ⟨[], []⟩ Try.f32 [.slice s.a s.len s.cap] (fun v w' => viewRet [.one .sl] v R w') w := by kernel_rfl

theorem c32_of {s : Sl} {w : World} {R : Sl → World → Prop} (h : f32 s w R) : c32 s w R :=
  callK_of okP Try.func32 (by rw [← f32_eq]; exact h)

/-- hindcast/record.Walk$1. -/
def f33 (yield : Value) (t1 : Option Addr) (w : World) (R : World → Prop) : Prop :=
  ∃ Inv_ : Int → Nat → World → Prop, (∃ n : Nat, Inv_ 0 n w) ∧ ∀ at_ : Int, ∀ m : Nat, ∀ w : World, Inv_ at_ m w → (NN t1 fun (a : Addr) =>
  Ld .sl w a fun (x : Sl) =>
  Cut ⟨x.a, x.len, x.cap⟩ at_ (x.len : Int) (x.cap : Int) 1 fun (s : Sl) =>
  c18 s w fun (data : Sl) (n_ : Int) (w : World) =>
  if (n_ == 0) = true then (R w) else (CallV Try.prog (yield) [.int .i64 at_, .slice data.a data.len data.cap] [.one .b] w fun (r : Bool) (w : World) =>
  if (!r) = true then (R w) else (∃ m2 : Nat, m2 < m ∧ Inv_ (IntKind.i64.wrap (at_ + n_)) m2 w)))

theorem f33_eq (yield : Value) (t1 : Option Addr) (w : World) (R : World → Prop) :
    f33 yield t1 w R = dFunc Try.prog ⟨[(1, ⟨[(3, .i .i64)], [0, 1]⟩)], []⟩ Try.f33 [yield, .pointer t1] (fun v w' => viewRet [] v R w') w := by kernel_rfl

theorem c33_of {yield : Value} {t1 : Option Addr} {w : World} {R : World → Prop} (h : f33 yield t1 w R) : c33 yield t1 w R :=
  callK_of okP Try.func33 (by rw [← f33_eq]; exact h)

/-- hindcast/pack.add. -/
def f34 (b : Sl) (n_ : Int) (w : World) (R : Sl → World → Prop) : Prop :=
  ∃ Inv_ : Sl → Int → Nat → World → Prop, (∃ n : Nat, Inv_ b n_ n w) ∧ ∀ b2 : Sl, ∀ n_2 : Int, ∀ m : Nat, ∀ w : World, Inv_ b2 n_2 m w → (if (decide (n_2 ≥ 128)) = true then (Nw (.cells #[.int .u8 (IntKind.u8.wrap ((BitVec.ofInt 8 (IntKind.u8.wrap n_2) ||| BitVec.ofInt 8 128).toNat : Nat))] 5) w fun (b3 : Addr) (w : World) =>
  Run .sl Try.prog (Builtin.append_ #[22, 22] 22 #[.slice b2.a b2.len b2.cap, .slice (some b3) 1 1]) w fun (b4 : Sl) (w : World) =>
  (0 : Int) ≤ 7 ∧ (∃ m2 : Nat, m2 < m ∧ Inv_ b4 (Int.fdiv n_2 (2 ^ (min (Int.toNat 7) 64))) m2 w)) else (Nw (.cells #[.int .u8 (IntKind.u8.wrap n_2)] 5) w fun (b5 : Addr) (w : World) =>
  Run .sl Try.prog (Builtin.append_ #[22, 22] 22 #[.slice b2.a b2.len b2.cap, .slice (some b5) 1 1]) w fun (s : Sl) (w : World) =>
  R s w))

theorem f34_eq (b : Sl) (n_ : Int) (w : World) (R : Sl → World → Prop) :
    f34 b n_ w R = dFunc Try.prog ⟨[(1, ⟨[(0, .sl), (1, .i .u64)], []⟩)], []⟩ Try.f34 [.slice b.a b.len b.cap, .int .u64 n_] (fun v w' => viewRet [.one .sl] v R w') w := by kernel_rfl

theorem c34_of {b : Sl} {n_ : Int} {w : World} {R : Sl → World → Prop} (h : f34 b n_ w R) : c34 b n_ w R :=
  callK_of okP Try.func34 (by rw [← f34_eq]; exact h)

/-- hindcast/pack.fresh. -/
def f35 (b : Sl) (w : World) (R : Sl → World → Prop) : Prop :=
  Run .sl Try.prog (Builtin.append_ #[22, 22] 22 #[.slice none 0 0, .slice b.a b.len b.cap]) w fun (s : Sl) (w : World) =>
  R s w

theorem f35_eq (b : Sl) (w : World) (R : Sl → World → Prop) :
    f35 b w R = dFunc Try.prog ⟨[], []⟩ Try.f35 [.slice b.a b.len b.cap] (fun v w' => viewRet [.one .sl] v R w') w := by kernel_rfl

theorem c35_of {b : Sl} {w : World} {R : Sl → World → Prop} (h : f35 b w R) : c35 b w R :=
  callK_of okP Try.func35 (by rw [← f35_eq]; exact h)

/-- slices.Grow[[]byte,byte]. -/
def f36 (s : Sl) (n_ : Int) (w : World) (R : Sl → World → Prop) : Prop :=
  ∃ J_ : World → Prop, (if (decide (n_ < 0)) = true then (False) else (J_  w)) ∧ ∀ w : World, J_  w → (if (decide ((IntKind.i64.wrap (n_ - (IntKind.i64.wrap ((s.cap : Int) - (s.len : Int))))) > 0)) = true then (Cut ⟨s.a, s.len, s.cap⟩ 0 (s.cap : Int) (s.cap : Int) 1 fun (s2 : Sl) =>
  Run .sl Try.prog (Builtin.append_ #[22, 3] 22 #[.slice s2.a s2.len s2.cap, .int .i64 (IntKind.i64.wrap (n_ - (IntKind.i64.wrap ((s.cap : Int) - (s.len : Int)))))]) w fun (s3 : Sl) (w : World) =>
  Cut ⟨s3.a, s3.len, s3.cap⟩ 0 (s.len : Int) (s3.cap : Int) 1 fun (s4 : Sl) =>
  R s4 w) else (R s w))

theorem f36_eq (s : Sl) (n_ : Int) (w : World) (R : Sl → World → Prop) :
    f36 s n_ w R = dFunc Try.prog ⟨[], [(3, ⟨[], [0, 1]⟩)]⟩ Try.f36 [.slice s.a s.len s.cap, .int .i64 n_] (fun v w' => viewRet [.one .sl] v R w') w := by kernel_rfl

theorem c36_of {s : Sl} {n_ : Int} {w : World} {R : Sl → World → Prop} (h : f36 s n_ w R) : c36 s n_ w R :=
  callK_of okP Try.func36 (by rw [← f36_eq]; exact h)

/-- hindcast/pack.Sum. -/
def f37 (b : Sl) (w : World) (R : Int → World → Prop) : Prop :=
  ∃ Inv_ : Int → Int → Nat → World → Prop, (∃ n : Nat, Inv_ 4294967295 0 n w) ∧ ∀ n_ : Int, ∀ t8 : Int, ∀ m : Nat, ∀ w : World, Inv_ n_ t8 m w → (if (decide (t8 < (b.len : Int))) = true then (Ix b.a b.len t8 1 fun (a : Addr) =>
  Ld (.i .u8) w a fun (c : Int) =>
  ∃ Inv_2 : Int → Int → Nat → World → Prop, (∃ n : Nat, Inv_2 (IntKind.u32.wrap ((BitVec.ofInt 32 n_ ^^^ BitVec.ofInt 32 (IntKind.u32.wrap c)).toNat : Nat)) 0 n w) ∧ ∀ n_2 : Int, ∀ t16 : Int, ∀ m3 : Nat, ∀ w : World, Inv_2 n_2 t16 m3 w → (if (decide (t16 < 8)) = true then ((0 : Int) ≤ 1 ∧ (∃ m4 : Nat, m4 < m3 ∧ Inv_2 (IntKind.u32.wrap ((BitVec.ofInt 32 (Int.fdiv n_2 (2 ^ (min (Int.toNat 1) 32))) ^^^ BitVec.ofInt 32 (IntKind.u32.wrap ((BitVec.ofInt 32 2197175160 &&& BitVec.ofInt 32 (IntKind.u32.wrap (0 - (IntKind.u32.wrap ((BitVec.ofInt 32 n_2 &&& BitVec.ofInt 32 1).toNat : Nat))))).toNat : Nat))).toNat : Nat)) (IntKind.i64.wrap (t16 + 1)) m4 w)) else (∃ m2 : Nat, m2 < m ∧ Inv_ n_2 (IntKind.i64.wrap (t8 + 1)) m2 w))) else (R (IntKind.u32.wrap ((BitVec.ofInt 32 4294967295 ^^^ BitVec.ofInt 32 n_).toNat : Nat)) w))

theorem f37_eq (b : Sl) (w : World) (R : Int → World → Prop) :
    f37 b w R = dFunc Try.prog ⟨[(3, ⟨[(3, .i .u32), (8, .i .i64)], [6, 7]⟩), (7, ⟨[(3, .i .u32), (16, .i .i64)], [6, 7, 8]⟩)], []⟩ Try.f37 [.slice b.a b.len b.cap] (fun v w' => viewRet [.one (.i .u32)] v R w') w := by kernel_rfl

theorem c37_of {b : Sl} {w : World} {R : Int → World → Prop} (h : f37 b w R) : c37 b w R :=
  callK_of okP Try.func37 (by rw [← f37_eq]; exact h)

/-- hindcast/hindcastref01.Put. -/
def f38 (b : Sl) (n_ : Int) (w : World) (R : Sl → World → Prop) : Prop :=
  Run .sl Try.prog (Builtin.append_ #[22, 22] 22 #[.slice none 0 0, .slice b.a b.len b.cap]) w fun (out : Sl) (w : World) =>
  ∃ Inv_ : Int → Sl → Nat → World → Prop, (∃ n : Nat, Inv_ n_ out n w) ∧ ∀ n_2 : Int, ∀ out2 : Sl, ∀ m : Nat, ∀ w : World, Inv_ n_2 out2 m w → (if (decide (n_2 ≥ 128)) = true then ((128 : Int) ≠ 0 ∧ (Nw (.cells #[.int .u8 (IntKind.u8.wrap (IntKind.u64.wrap ((Int.tmod n_2 128) + 128)))] 5) w fun (b2 : Addr) (w : World) =>
  Run .sl Try.prog (Builtin.append_ #[22, 22] 22 #[.slice out2.a out2.len out2.cap, .slice (some b2) 1 1]) w fun (out3 : Sl) (w : World) =>
  (128 : Int) ≠ 0 ∧ (∃ m2 : Nat, m2 < m ∧ Inv_ (IntKind.u64.wrap (Int.tdiv n_2 128)) out3 m2 w))) else (Nw (.cells #[.int .u8 (IntKind.u8.wrap n_2)] 5) w fun (b3 : Addr) (w : World) =>
  Run .sl Try.prog (Builtin.append_ #[22, 22] 22 #[.slice out2.a out2.len out2.cap, .slice (some b3) 1 1]) w fun (s : Sl) (w : World) =>
  R s w))

theorem f38_eq (b : Sl) (n_ : Int) (w : World) (R : Sl → World → Prop) :
    f38 b n_ w R = dFunc Try.prog ⟨[(3, ⟨[(1, .i .u64), (5, .sl)], []⟩)], []⟩ Try.f38 [.slice b.a b.len b.cap, .int .u64 n_] (fun v w' => viewRet [.one .sl] v R w') w := by kernel_rfl

theorem c38_of {b : Sl} {n_ : Int} {w : World} {R : Sl → World → Prop} (h : f38 b n_ w R) : c38 b n_ w R :=
  callK_of okP Try.func38 (by rw [← f38_eq]; exact h)

/-- hindcast/hindcastref01.Get. -/
def f39 (b : Sl) (w : World) (R : Int → Int → World → Prop) : Prop :=
  ∃ Inv_ : Int → Int → Nat → World → Prop, (∃ n : Nat, Inv_ 0 0 n w) ∧ ∀ n_ : Int, ∀ i : Int, ∀ m : Nat, ∀ w : World, Inv_ n_ i m w → (if (cond (decide (i < 10)) (decide (i < (b.len : Int))) false) = true then (Ix b.a b.len i 1 fun (a : Addr) =>
  Ld (.i .u8) w a fun (x : Int) =>
  if (cond (i == 9) (decide ((IntKind.u64.wrap x) > 1)) false) = true then (R 0 0 w) else ((128 : Int) ≠ 0 ∧ ((0 : Int) ≤ (IntKind.i64.wrap (7 * i)) ∧ (if (decide ((IntKind.u64.wrap x) ≥ 128)) = true then (∃ m2 : Nat, m2 < m ∧ Inv_ (IntKind.u64.wrap (n_ + (IntKind.u64.wrap ((Int.tmod (IntKind.u64.wrap x) 128) * 2 ^ (min (Int.toNat (IntKind.i64.wrap (7 * i))) 64))))) (IntKind.i64.wrap (i + 1)) m2 w) else (if (cond ((IntKind.u64.wrap x) == 0) (decide (i > 0)) false) = true then (R 0 0 w) else (R (IntKind.u64.wrap (n_ + (IntKind.u64.wrap ((Int.tmod (IntKind.u64.wrap x) 128) * 2 ^ (min (Int.toNat (IntKind.i64.wrap (7 * i))) 64))))) (IntKind.i64.wrap (i + 1)) w)))))) else (R 0 0 w))

theorem f39_eq (b : Sl) (w : World) (R : Int → Int → World → Prop) :
    f39 b w R = dFunc Try.prog ⟨[(3, ⟨[(4, .i .u64), (5, .i .i64)], [0]⟩)], []⟩ Try.f39 [.slice b.a b.len b.cap] (fun v w' => viewRet [.one (.i .u64), .one (.i .i64)] v R w') w := by kernel_rfl

theorem c39_of {b : Sl} {w : World} {R : Int → Int → World → Prop} (h : f39 b w R) : c39 b w R :=
  callK_of okP Try.func39 (by rw [← f39_eq]; exact h)

end Go.Proofs.Ytmbbfaigbhnhcaa.F
