/-
  Printed by den.py: the formula of a function with loops over functions within one another.
-/
import Derived.Test.YtmbbfaigbhnhcaaF02
import Derived.Test.YtmbbfaigbhnhcaaDenL
set_option linter.unusedVariables false
set_option maxRecDepth 100000
namespace Go.Proofs.Ytmbbfaigbhnhcaa.F
open Go Go.Den Go.Proofs

/-- hindcast/hindcastlaw02.scanned. -/
def f16 (b : Sl) (stop : Int) (w : World) (R : Bool → World → Prop) : Prop :=
  Nw (.cells #[.int .i64 stop] 3) w fun (stop2 : Addr) (w : World) =>
  Nw (.cells #[.bool false] 4) w fun (a : Addr) (w : World) =>
  c9 b w fun (x : Sl) (w : World) =>
  Cut ⟨x.a, x.len, x.cap⟩ 0 (b.len : Int) (x.cap : Int) 1 fun (s : Sl) =>
  c18 s w fun (d : Sl) (n_ : Int) (w : World) =>
  Cut ⟨x.a, x.len, x.cap⟩ 0 (b.len : Int) (x.cap : Int) 1 fun (s2 : Sl) =>
  c18 s2 w fun (d2 : Sl) (n2 : Int) (w : World) =>
  c12 x b w fun (one : Bool) (w : World) =>
  Cut ⟨x.a, x.len, x.cap⟩ 0 (b.len : Int) (x.cap : Int) 1 fun (s3 : Sl) =>
  c18 s3 w fun (d3 : Sl) (n3 : Int) (w : World) =>
  c26 b w fun (want : Sl) (m : Int) (w : World) =>
  ∃ J_ : World → Prop, (if (!one) = true then (St a (.bool false) w fun (w : World) =>
  Ld .b w a fun (r : Bool) =>
  R r w) else (if (n_ != m) = true then (St a (.bool false) w fun (w : World) =>
  Ld .b w a fun (r2 : Bool) =>
  R r2 w) else (if (n2 != m) = true then (St a (.bool false) w fun (w : World) =>
  Ld .b w a fun (r3 : Bool) =>
  R r3 w) else (RdB w ⟨d.a, d.len, d.cap⟩ fun (x2 : ByteArray) =>
  RdB w ⟨want.a, want.len, want.cap⟩ fun (x3 : ByteArray) =>
  if (!(x2.toList == x3.toList)) = true then (St a (.bool false) w fun (w : World) =>
  Ld .b w a fun (r4 : Bool) =>
  R r4 w) else (RdB w ⟨d2.a, d2.len, d2.cap⟩ fun (x4 : ByteArray) =>
  RdB w ⟨want.a, want.len, want.cap⟩ fun (x5 : ByteArray) =>
  if (!(x4.toList == x5.toList)) = true then (St a (.bool false) w fun (w : World) =>
  Ld .b w a fun (r5 : Bool) =>
  R r5 w) else (if (n3 != 0) = true then (St a (.bool false) w fun (w : World) =>
  Ld .b w a fun (r6 : Bool) =>
  R r6 w) else (if ((d3.len : Int) != 0) = true then (St a (.bool false) w fun (w : World) =>
  Ld .b w a fun (r7 : Bool) =>
  R r7 w) else (J_  w)))))))) ∧ ∀ w : World, J_  w → (c14 ⟨none, 0, 0⟩ d w fun (kept : Sl) (w : World) =>
  RdB w ⟨d2.a, d2.len, d2.cap⟩ fun (x6 : ByteArray) =>
  RdB w ⟨want.a, want.len, want.cap⟩ fun (x7 : ByteArray) =>
  if (!(x6.toList == x7.toList)) = true then (St a (.bool false) w fun (w : World) =>
  Ld .b w a fun (r8 : Bool) =>
  R r8 w) else (c14 kept d2 w fun (kept2 : Sl) (w : World) =>
  c9 b w fun (y : Sl) (w : World) =>
  Cut ⟨y.a, y.len, y.cap⟩ 0 (b.len : Int) (y.cap : Int) 1 fun (s4 : Sl) =>
  c17 s4 w fun (l : Sl) (k : Int) (w : World) =>
  Cut ⟨y.a, y.len, y.cap⟩ 0 (b.len : Int) (y.cap : Int) 1 fun (s5 : Sl) =>
  c17 s5 w fun (l2 : Sl) (k2 : Int) (w : World) =>
  c12 y b w fun (two : Bool) (w : World) =>
  Cut ⟨y.a, y.len, y.cap⟩ 0 (b.len : Int) (y.cap : Int) 1 fun (s6 : Sl) =>
  c17 s6 w fun (l3 : Sl) (k3 : Int) (w : World) =>
  c27 b w fun (all : Sl) (size : Int) (w : World) =>
  Nw (.cells #[.slice none 0 0] 34) w fun (all2 : Addr) (w : World) =>
  St all2 (.slice all.a all.len all.cap) w fun (w : World) =>
  ∃ J_2 : World → Prop, (if (!two) = true then (St a (.bool false) w fun (w : World) =>
  Ld .b w a fun (r9 : Bool) =>
  R r9 w) else (if (k != size) = true then (St a (.bool false) w fun (w : World) =>
  Ld .b w a fun (r10 : Bool) =>
  R r10 w) else (if (k2 != size) = true then (St a (.bool false) w fun (w : World) =>
  Ld .b w a fun (r11 : Bool) =>
  R r11 w) else (Ld .sl w all2 fun (all3 : Sl) =>
  if ((l.len : Int) != (all3.len : Int)) = true then (St a (.bool false) w fun (w : World) =>
  Ld .b w a fun (r12 : Bool) =>
  R r12 w) else (Ld .sl w all2 fun (all4 : Sl) =>
  if ((l2.len : Int) != (all4.len : Int)) = true then (St a (.bool false) w fun (w : World) =>
  Ld .b w a fun (r13 : Bool) =>
  R r13 w) else (if (k3 != 0) = true then (St a (.bool false) w fun (w : World) =>
  Ld .b w a fun (r14 : Bool) =>
  R r14 w) else (if ((l3.len : Int) != 0) = true then (St a (.bool false) w fun (w : World) =>
  Ld .b w a fun (r15 : Bool) =>
  R r15 w) else (J_2  w)))))))) ∧ ∀ w : World, J_2  w → (∃ Inv_ : Int → Nat → World → Prop, (∃ n : Nat, Inv_ 0 n w) ∧ ∀ i : Int, ∀ m2 : Nat, ∀ w : World, Inv_ i m2 w → (if (decide (i < (l.len : Int))) = true then (Dr w fun (w : World) =>
  Ix l.a l.len i 1 fun (a2 : Addr) =>
  Ld .sl w a2 fun (x8 : Sl) =>
  RdB w ⟨x8.a, x8.len, x8.cap⟩ fun (x9 : ByteArray) =>
  Ld .sl w all2 fun (all5 : Sl) =>
  Ix all5.a all5.len i 1 fun (a3 : Addr) =>
  Ld .sl w a3 fun (x10 : Sl) =>
  RdB w ⟨x10.a, x10.len, x10.cap⟩ fun (x11 : ByteArray) =>
  if (!(x9.toList == x11.toList)) = true then (St a (.bool false) w fun (w : World) =>
  Ld .b w a fun (r16 : Bool) =>
  R r16 w) else (Ix l2.a l2.len i 1 fun (a4 : Addr) =>
  Ld .sl w a4 fun (x12 : Sl) =>
  RdB w ⟨x12.a, x12.len, x12.cap⟩ fun (x13 : ByteArray) =>
  Ld .sl w all2 fun (all6 : Sl) =>
  Ix all6.a all6.len i 1 fun (a5 : Addr) =>
  Ld .sl w a5 fun (x14 : Sl) =>
  RdB w ⟨x14.a, x14.len, x14.cap⟩ fun (x15 : ByteArray) =>
  if (!(x13.toList == x15.toList)) = true then (St a (.bool false) w fun (w : World) =>
  Ld .b w a fun (r17 : Bool) =>
  R r17 w) else (∃ m3 : Nat, m3 < m2 ∧ Inv_ (IntKind.i64.wrap (i + 1)) m3 w))) else (Nw (.cells #[] 22) w fun (b2 : Addr) (w : World) =>
  Run .sl Try.prog (Builtin.append_ #[34, 34] 34 #[.slice (some b2) 0 0, .slice l.a l.len l.cap]) w fun (one2 : Sl) (w : World) =>
  Nw (.cells #[] 22) w fun (b3 : Addr) (w : World) =>
  Run .sl Try.prog (Builtin.append_ #[34, 34] 34 #[.slice (some b3) 0 0, .slice l2.a l2.len l2.cap]) w fun (two2 : Sl) (w : World) =>
  c28 l (⟨#[102, 105, 114, 115, 116]⟩ : ByteArray) w fun (grown : Sl) (w : World) =>
  ∃ Inv_2 : Sl → Int → Nat → World → Prop, (∃ n : Nat, Inv_2 kept2 0 n w) ∧ ∀ kept3 : Sl, ∀ i2 : Int, ∀ m4 : Nat, ∀ w : World, Inv_2 kept3 i2 m4 w → (if (decide (i2 < (one2.len : Int))) = true then (Ix one2.a one2.len i2 1 fun (a6 : Addr) =>
  Ld .sl w a6 fun (x16 : Sl) =>
  c14 kept3 x16 w fun (kept4 : Sl) (w : World) =>
  ∃ m5 : Nat, m5 < m4 ∧ Inv_2 kept4 (IntKind.i64.wrap (i2 + 1)) m5 w) else (∃ Inv_3 : Int → Nat → World → Prop, (∃ n : Nat, Inv_3 0 n w) ∧ ∀ i3 : Int, ∀ m6 : Nat, ∀ w : World, Inv_3 i3 m6 w → (Ld .sl w all2 fun (all7 : Sl) =>
  if (decide (i3 < (all7.len : Int))) = true then (Dr w fun (w : World) =>
  Ix l2.a l2.len i3 1 fun (a7 : Addr) =>
  Ld .sl w a7 fun (x17 : Sl) =>
  RdB w ⟨x17.a, x17.len, x17.cap⟩ fun (x18 : ByteArray) =>
  Ld .sl w all2 fun (all8 : Sl) =>
  Ix all8.a all8.len i3 1 fun (a8 : Addr) =>
  Ld .sl w a8 fun (x19 : Sl) =>
  RdB w ⟨x19.a, x19.len, x19.cap⟩ fun (x20 : ByteArray) =>
  if (!(x18.toList == x20.toList)) = true then (St a (.bool false) w fun (w : World) =>
  Ld .b w a fun (r18 : Bool) =>
  R r18 w) else (∃ m7 : Nat, m7 < m6 ∧ Inv_3 (IntKind.i64.wrap (i3 + 1)) m7 w)) else (c28 l2 (⟨#[115, 101, 99, 111, 110, 100]⟩ : ByteArray) w fun (behind : Sl) (w : World) =>
  ∃ Inv_4 : Int → Nat → World → Prop, (∃ n : Nat, Inv_4 0 n w) ∧ ∀ i4 : Int, ∀ m8 : Nat, ∀ w : World, Inv_4 i4 m8 w → (if (decide (i4 < (two2.len : Int))) = true then (Dr w fun (w : World) =>
  Ix two2.a two2.len i4 1 fun (a9 : Addr) =>
  Ld .sl w a9 fun (x21 : Sl) =>
  RdB w ⟨x21.a, x21.len, x21.cap⟩ fun (x22 : ByteArray) =>
  Ld .sl w all2 fun (all9 : Sl) =>
  Ix all9.a all9.len i4 1 fun (a10 : Addr) =>
  Ld .sl w a10 fun (x23 : Sl) =>
  RdB w ⟨x23.a, x23.len, x23.cap⟩ fun (x24 : ByteArray) =>
  if (!(x22.toList == x24.toList)) = true then (St a (.bool false) w fun (w : World) =>
  Ld .b w a fun (r19 : Bool) =>
  R r19 w) else (∃ m9 : Nat, m9 < m8 ∧ Inv_4 (IntKind.i64.wrap (i4 + 1)) m9 w)) else (∃ Inv_5 : Sl → Int → Nat → World → Prop, (∃ n : Nat, Inv_5 kept3 0 n w) ∧ ∀ kept5 : Sl, ∀ i5 : Int, ∀ m10 : Nat, ∀ w : World, Inv_5 kept5 i5 m10 w → (if (decide (i5 < (two2.len : Int))) = true then (Ix two2.a two2.len i5 1 fun (a11 : Addr) =>
  Ld .sl w a11 fun (x25 : Sl) =>
  c14 kept5 x25 w fun (kept6 : Sl) (w : World) =>
  ∃ m11 : Nat, m11 < m10 ∧ Inv_5 kept6 (IntKind.i64.wrap (i5 + 1)) m11 w) else (c29 grown (⟨#[102, 105, 114, 115, 116]⟩ : ByteArray) w fun (first : Bool) (w : World) =>
  c29 behind (⟨#[115, 101, 99, 111, 110, 100]⟩ : ByteArray) w fun (second : Bool) (w : World) =>
  if (cond (!first) true (!second)) = true then (St a (.bool false) w fun (w : World) =>
  Ld .b w a fun (r20 : Bool) =>
  R r20 w) else (c9 b w fun (z : Sl) (w : World) =>
  Cut ⟨z.a, z.len, z.cap⟩ 0 (b.len : Int) (z.cap : Int) 1 fun (s7 : Sl) =>
  c21 s7 w fun (walk : Value) (w : World) =>
  Nw (.cells #[.nilFunc] 45) w fun (walk2 : Addr) (w : World) =>
  (walk : Value).oneCell' = true ∧ (St walk2 (walk) w fun (w : World) =>
  c12 z b w fun (three : Bool) (w : World) =>
  c15 kept5 w fun (ok : Bool) (w : World) =>
  ∃ J_3 : World → Prop, (if (!three) = true then (St a (.bool false) w fun (w : World) =>
  Ld .b w a fun (r21 : Bool) =>
  R r21 w) else (if (!ok) = true then (St a (.bool false) w fun (w : World) =>
  Ld .b w a fun (r22 : Bool) =>
  R r22 w) else (Ld .v w walk2 fun (walk3 : Value) =>
  RunRo .b Try.prog (binSem .eql 45 (.tmp 327) (.const (.nilFunc)) (walk3) (.nilFunc)) w fun (eq : Bool) =>
  if eq = true then (St a (.bool false) w fun (w : World) =>
  Ld .b w a fun (r23 : Bool) =>
  R r23 w) else (J_3  w)))) ∧ ∀ w : World, J_3  w → (Nw (.cells #[.slice none 0 0, .slice none 0 0] 55) w fun (told : Addr) (w : World) =>
  Nw (.cells #[.int .i64 0] 3) w fun (turn : Addr) (w : World) =>
  St turn (.int .i64 0) w fun (w : World) =>
  ∃ Inv_6 : Option Addr → List Nat → Nat → World → Prop, (∃ n : Nat, Inv_6 (some turn) [] n w) ∧ ∀ turn2 : Option Addr, ∀ ms : List Nat, ∀ m12 : Nat, ∀ w : World, Inv_6 turn2 ms m12 w → (NN turn2 fun (a12 : Addr) =>
  Ld (.i .i64) w a12 fun (x26 : Int) =>
  if (decide (x26 < 2)) = true then (∃ J_4 : List Nat → World → Prop, (Nw (.cells #[.int .i64 0] 3) w fun (i6 : Addr) (w : World) =>
  St i6 (.int .i64 0) w fun (w : World) =>
  Nw (.cells #[.int .i64 0] 3) w fun (place : Addr) (w : World) =>
  St place (.int .i64 0) w fun (w : World) =>
  Ld .v w walk2 fun (walk4 : Value) =>
  RangeK2 Try.prog (walk4) [.i .i64, .sl] (fun (L : Nat) (at_ : Int) (data : Sl) (C : BodyK) => ∀ w : World, (Exit.normal = Exit.normal ∧ w = w ∧ C fun (w : World) (post : Exit → World → Prop) =>
  ∃ J_5 : World → Prop, (NN turn2 fun (a13 : Addr) =>
  Ld (.i .i64) w a13 fun (x27 : Int) =>
  if (x27 == 0) = true then (Ld (.i .i64) w i6 fun (i7 : Int) =>
  Ld (.i .i64) w stop2 fun (stop3 : Int) =>
  if (i7 == stop3) = true then (post (.exit 12) w) else (J_5  w)) else (J_5  w)) ∧ ∀ w : World, J_5  w → (∃ J_6 : World → Prop, (Dr w fun (w : World) =>
  Ld (.i .i64) w i6 fun (i8 : Int) =>
  Ld .sl w all2 fun (all10 : Sl) =>
  if (decide (i8 ≥ (all10.len : Int))) = true then (St a (.bool false) w fun (w : World) =>
  post .ret w) else (Ld (.i .i64) w place fun (place2 : Int) =>
  if (at_ != place2) = true then (St a (.bool false) w fun (w : World) =>
  post .ret w) else (RdB w ⟨data.a, data.len, data.cap⟩ fun (x28 : ByteArray) =>
  Ld .sl w all2 fun (all11 : Sl) =>
  Ld (.i .i64) w i6 fun (i9 : Int) =>
  Ix all11.a all11.len i9 1 fun (a14 : Addr) =>
  Ld .sl w a14 fun (x29 : Sl) =>
  RdB w ⟨x29.a, x29.len, x29.cap⟩ fun (x30 : ByteArray) =>
  if (!(x28.toList == x30.toList)) = true then (St a (.bool false) w fun (w : World) =>
  post .ret w) else (J_6  w)))) ∧ ∀ w : World, J_6  w → (∃ J_7 : List Nat → World → Prop, (∃ J_8 : Bool → World → Prop, (NN turn2 fun (a15 : Addr) =>
  Ld (.i .i64) w a15 fun (x31 : Int) =>
  if (x31 == 1) = true then (Ld (.i .i64) w i6 fun (i10 : Int) =>
  Ld (.i .i64) w stop2 fun (stop4 : Int) =>
  J_8 (i10 == stop4) w) else (J_8 false w)) ∧ ∀ t369 : Bool, ∀ w : World, J_8 t369 w → (if t369 = true then (Nw (.cells #[.int .i64 0] 3) w fun (n_2 : Addr) (w : World) =>
  St n_2 (.int .i64 0) w fun (w : World) =>
  Ld .v w walk2 fun (walk5 : Value) =>
  RangeN Try.prog L (walk5) [.v, .v] (fun (L2 : Nat) (x32 : Value) (x33 : Value) (C2 : BodyK) => ∀ w : World, (Exit.normal = Exit.normal ∧ w = w ∧ C2 fun (w : World) (post2 : Exit → World → Prop) =>
  Ld (.i .i64) w n_2 fun (n_3 : Int) =>
  St n_2 (.int .i64 (IntKind.i64.wrap (n_3 + 1))) w fun (w : World) =>
  post2 .normal w)) w (fun (w : World) =>
  Ld (.i .i64) w n_2 fun (n_4 : Int) =>
  Ld .sl w all2 fun (all12 : Sl) =>
  if (n_4 != (all12.len : Int)) = true then (St a (.bool false) w fun (w : World) =>
  post .ret w) else (J_7  [] w)) (fun (w : World) =>
  post .ret w) []) else (J_7  [] w))) ∧ ∀ ms2 : List Nat, ∀ w : World, J_7 ms2 w → (Ld .sl w all2 fun (all13 : Sl) =>
  Ld (.i .i64) w i6 fun (i11 : Int) =>
  Ix all13.a all13.len i11 1 fun (a16 : Addr) =>
  Ld .sl w a16 fun (x34 : Sl) =>
  c25 x34 w fun (made : Sl) (w : World) =>
  Ld (.i .i64) w place fun (place3 : Int) =>
  St place (.int .i64 (IntKind.i64.wrap (place3 + (made.len : Int)))) w fun (w : World) =>
  Dr w fun (w : World) =>
  NN turn2 fun (a17 : Addr) =>
  Ld (.i .i64) w a17 fun (x35 : Int) =>
  NN turn2 fun (a18 : Addr) =>
  Ld (.i .i64) w a18 fun (x36 : Int) =>
  IxA told 2 x36 1 fun (a19 : Addr) =>
  Ld .sl w a19 fun (x37 : Sl) =>
  Nw (.cells #[.slice data.a data.len data.cap] 22) w fun (b4 : Addr) (w : World) =>
  Run .sl Try.prog (Builtin.append_ #[34, 34] 34 #[.slice x37.a x37.len x37.cap, .slice (some b4) 1 1]) w fun (s8 : Sl) (w : World) =>
  w.cell? a17 = some (.int .i64 x35) ∧ (IxA told 2 x35 1 fun (a20 : Addr) =>
  St a20 (.slice s8.a s8.len s8.cap) w fun (w : World) =>
  Ld (.i .i64) w i6 fun (i12 : Int) =>
  St i6 (.int .i64 (IntKind.i64.wrap (i12 + 1))) w fun (w : World) =>
  post .normal w)))))) w (fun (D : Nat) (w : World) =>
  NN turn2 fun (a25 : Addr) =>
  Ld (.i .i64) w a25 fun (x42 : Int) =>
  if (x42 == 0) = true then (Ld (.i .i64) w i6 fun (i18 : Int) =>
  Ld (.i .i64) w stop2 fun (stop6 : Int) =>
  if (i18 != stop6) = true then (Ld (.i .i64) w i6 fun (i19 : Int) =>
  Ld .sl w all2 fun (all18 : Sl) =>
  if (i19 != (all18.len : Int)) = true then (St a (.bool false) w fun (w : World) =>
  EndM (D :: ms) w fun (w : World) =>
  Ld .b w a fun (r28 : Bool) =>
  R r28 w) else (NN turn2 fun (a26 : Addr) =>
  Ld (.i .i64) w a26 fun (x43 : Int) =>
  if (x43 == 1) = true then (Ld (.i .i64) w i6 fun (i20 : Int) =>
  Ld .sl w all2 fun (all19 : Sl) =>
  if (i20 != (all19.len : Int)) = true then (St a (.bool false) w fun (w : World) =>
  EndM (D :: ms) w fun (w : World) =>
  Ld .b w a fun (r29 : Bool) =>
  R r29 w) else (J_4  (D :: []) w)) else (J_4  (D :: []) w))) else (NN turn2 fun (a27 : Addr) =>
  Ld (.i .i64) w a27 fun (x44 : Int) =>
  if (x44 == 1) = true then (Ld (.i .i64) w i6 fun (i21 : Int) =>
  Ld .sl w all2 fun (all20 : Sl) =>
  if (i21 != (all20.len : Int)) = true then (St a (.bool false) w fun (w : World) =>
  EndM (D :: ms) w fun (w : World) =>
  Ld .b w a fun (r30 : Bool) =>
  R r30 w) else (J_4  (D :: []) w)) else (J_4  (D :: []) w))) else (NN turn2 fun (a28 : Addr) =>
  Ld (.i .i64) w a28 fun (x45 : Int) =>
  if (x45 == 1) = true then (Ld (.i .i64) w i6 fun (i22 : Int) =>
  Ld .sl w all2 fun (all21 : Sl) =>
  if (i22 != (all21.len : Int)) = true then (St a (.bool false) w fun (w : World) =>
  EndM (D :: ms) w fun (w : World) =>
  Ld .b w a fun (r31 : Bool) =>
  R r31 w) else (J_4  (D :: []) w)) else (J_4  (D :: []) w))) (fun (D : Nat) (w : World) =>
  EndM (D :: ms) w fun (w : World) =>
  Ld .b w a fun (r32 : Bool) =>
  R r32 w) [(12, fun (D : Nat) (w : World) =>
  NN turn2 fun (a21 : Addr) =>
  Ld (.i .i64) w a21 fun (x38 : Int) =>
  if (x38 == 0) = true then (Ld (.i .i64) w i6 fun (i13 : Int) =>
  Ld (.i .i64) w stop2 fun (stop5 : Int) =>
  if (i13 != stop5) = true then (Ld (.i .i64) w i6 fun (i14 : Int) =>
  Ld .sl w all2 fun (all14 : Sl) =>
  if (i14 != (all14.len : Int)) = true then (St a (.bool false) w fun (w : World) =>
  EndM (D :: ms) w fun (w : World) =>
  Ld .b w a fun (r24 : Bool) =>
  R r24 w) else (NN turn2 fun (a22 : Addr) =>
  Ld (.i .i64) w a22 fun (x39 : Int) =>
  if (x39 == 1) = true then (Ld (.i .i64) w i6 fun (i15 : Int) =>
  Ld .sl w all2 fun (all15 : Sl) =>
  if (i15 != (all15.len : Int)) = true then (St a (.bool false) w fun (w : World) =>
  EndM (D :: ms) w fun (w : World) =>
  Ld .b w a fun (r25 : Bool) =>
  R r25 w) else (J_4  (D :: []) w)) else (J_4  (D :: []) w))) else (NN turn2 fun (a23 : Addr) =>
  Ld (.i .i64) w a23 fun (x40 : Int) =>
  if (x40 == 1) = true then (Ld (.i .i64) w i6 fun (i16 : Int) =>
  Ld .sl w all2 fun (all16 : Sl) =>
  if (i16 != (all16.len : Int)) = true then (St a (.bool false) w fun (w : World) =>
  EndM (D :: ms) w fun (w : World) =>
  Ld .b w a fun (r26 : Bool) =>
  R r26 w) else (J_4  (D :: []) w)) else (J_4  (D :: []) w))) else (NN turn2 fun (a24 : Addr) =>
  Ld (.i .i64) w a24 fun (x41 : Int) =>
  if (x41 == 1) = true then (Ld (.i .i64) w i6 fun (i17 : Int) =>
  Ld .sl w all2 fun (all17 : Sl) =>
  if (i17 != (all17.len : Int)) = true then (St a (.bool false) w fun (w : World) =>
  EndM (D :: ms) w fun (w : World) =>
  Ld .b w a fun (r27 : Bool) =>
  R r27 w) else (J_4  (D :: []) w)) else (J_4  (D :: []) w)))]) ∧ ∀ ms3 : List Nat, ∀ w : World, J_4 ms3 w → (NN turn2 fun (a29 : Addr) =>
  Ld (.i .i64) w a29 fun (x46 : Int) =>
  Nw (.cells #[.int .i64 0] 3) w fun (turn3 : Addr) (w : World) =>
  St turn3 (.int .i64 x46) w fun (w : World) =>
  Ld (.i .i64) w turn3 fun (x47 : Int) =>
  St turn3 (.int .i64 (IntKind.i64.wrap (x47 + 1))) w fun (w : World) =>
  ∃ m13 : Nat, m13 < m12 ∧ Inv_6 (some turn3) (ms3 ++ ms) m13 w)) else (∃ Inv_7 : Sl → Int → Nat → World → Prop, (∃ n : Nat, Inv_7 kept5 0 n w) ∧ ∀ kept7 : Sl, ∀ i23 : Int, ∀ m14 : Nat, ∀ w : World, Inv_7 kept7 i23 m14 w → (IxA told 2 0 1 fun (a30 : Addr) =>
  Ld .sl w a30 fun (x48 : Sl) =>
  if (decide (i23 < (x48.len : Int))) = true then (IxA told 2 0 1 fun (a31 : Addr) =>
  Ld .sl w a31 fun (x49 : Sl) =>
  Ix x49.a x49.len i23 1 fun (a32 : Addr) =>
  Ld .sl w a32 fun (x50 : Sl) =>
  c14 kept7 x50 w fun (kept8 : Sl) (w : World) =>
  ∃ m15 : Nat, m15 < m14 ∧ Inv_7 kept8 (IntKind.i64.wrap (i23 + 1)) m15 w) else (∃ Inv_8 : Sl → Int → Nat → World → Prop, (∃ n : Nat, Inv_8 kept7 0 n w) ∧ ∀ kept9 : Sl, ∀ i24 : Int, ∀ m16 : Nat, ∀ w : World, Inv_8 kept9 i24 m16 w → (IxA told 2 1 1 fun (a33 : Addr) =>
  Ld .sl w a33 fun (x51 : Sl) =>
  if (decide (i24 < (x51.len : Int))) = true then (Dr w fun (w : World) =>
  IxA told 2 1 1 fun (a34 : Addr) =>
  Ld .sl w a34 fun (x52 : Sl) =>
  Ix x52.a x52.len i24 1 fun (a35 : Addr) =>
  Ld .sl w a35 fun (x53 : Sl) =>
  RdB w ⟨x53.a, x53.len, x53.cap⟩ fun (x54 : ByteArray) =>
  Ld .sl w all2 fun (all22 : Sl) =>
  Ix all22.a all22.len i24 1 fun (a36 : Addr) =>
  Ld .sl w a36 fun (x55 : Sl) =>
  RdB w ⟨x55.a, x55.len, x55.cap⟩ fun (x56 : ByteArray) =>
  if (!(x54.toList == x56.toList)) = true then (St a (.bool false) w fun (w : World) =>
  EndM ms w fun (w : World) =>
  Ld .b w a fun (r33 : Bool) =>
  R r33 w) else (IxA told 2 1 1 fun (a37 : Addr) =>
  Ld .sl w a37 fun (x57 : Sl) =>
  Ix x57.a x57.len i24 1 fun (a38 : Addr) =>
  Ld .sl w a38 fun (x58 : Sl) =>
  c14 kept9 x58 w fun (kept10 : Sl) (w : World) =>
  ∃ m17 : Nat, m17 < m16 ∧ Inv_8 kept10 (IntKind.i64.wrap (i24 + 1)) m17 w)) else (c15 kept9 w fun (r34 : Bool) (w : World) =>
  St a (.bool r34) w fun (w : World) =>
  EndM ms w fun (w : World) =>
  Ld .b w a fun (r35 : Bool) =>
  R r35 w))))))))))))))))))))))

theorem f16_eq (b : Sl) (stop : Int) (w : World) (R : Bool → World → Prop) :
    f16 b stop w R = dFuncA Try.prog ⟨[(23, ⟨[(26, .i .i64)], [0, 3, 4, 5, 17, 19, 24]⟩), (31, ⟨[(5, .sl), (30, .i .i64)], [0, 3, 4, 19, 24, 27, 28, 29]⟩), (35, ⟨[(31, .i .i64)], [0, 3, 4, 5, 19, 24, 28, 29]⟩), (41, ⟨[(33, .i .i64)], [0, 3, 4, 5, 24, 28, 29, 32]⟩), (46, ⟨[(5, .sl), (34, .i .i64)], [0, 3, 4, 24, 28, 29, 32]⟩), (61, ⟨[(42, .p)], [3, 4, 5, 24, 38, 41]⟩), (86, ⟨[(5, .sl), (49, .i .i64)], [4, 24, 41]⟩), (90, ⟨[(5, .sl), (50, .i .i64)], [4, 24, 41]⟩)], [(10, ⟨[], [0, 3, 4, 5, 7, 9, 14]⟩), (22, ⟨[], [0, 3, 4, 5, 17, 19, 24]⟩), (59, ⟨[], [3, 4, 5, 24, 38]⟩), (69, ⟨[], [3, 4, 24, 38, 41, 42, 43, 44, 45, 46]⟩), (71, ⟨[], [3, 4, 24, 38, 41, 42, 43, 44, 46]⟩), (72, ⟨[(369, .b)], [4, 24, 38, 41, 42, 43, 44, 46]⟩), (77, ⟨[], [24, 41, 42, 43, 44, 46]⟩), (83, ⟨[], [3, 4, 5, 24, 38, 41, 42]⟩)]⟩ [[(335, .i .i64), (336, .sl)], [(371, .v), (372, .v)]] Try.f16 [.slice b.a b.len b.cap, .int .i64 stop] (fun v w' => viewRet [.one .b] v R w') w := by kernel_rfl

theorem c16_of {b : Sl} {stop : Int} {w : World} {R : Bool → World → Prop} (h : f16 b stop w R) : c16 b stop w R :=
  callK_ofA okP Try.func16 (by rw [← f16_eq]; exact h)


end Go.Proofs.Ytmbbfaigbhnhcaa.F
