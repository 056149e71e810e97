/-
  Printed by den.py: for each Go function its formula, the kernel's equation, and the law of its call.
-/
import Derived.Test.YtmlkjbolccapkaaProg
import Derived.Test.YtmlkjbolccapkaaDenH
set_option linter.unusedVariables false
set_option maxRecDepth 100000
namespace Go.Proofs.Ytmlkjbolccapkaa.F
open Go Go.Den Go.Proofs

theorem okP : OkP Try.prog := ⟨by kernel_rfl, by kernel_rfl⟩

/-- A call of gosem.cut.init. -/
def c2 (w : World) (R : World → Prop) : Prop :=
  CallK Try.prog 2 [] [] w R

/-- A call of hindcast/hindcastlaw04.IdsNever. -/
def c3 (most : Int) (acts : Sl) (w : World) (R : Bool → World → Prop) : Prop :=
  CallK Try.prog 3 [.int .i64 most, .slice acts.a acts.len acts.cap] [.one .b] w R

/-- A call of hindcast/hindcastlaw04.IdsPlays. -/
def c4 (one : Int) (two : Int) (script : Sl) (w : World) (R : Bool → World → Prop) : Prop :=
  CallK Try.prog 4 [.int .i64 one, .int .i64 two, .slice script.a script.len script.cap] [.one .b] w R

/-- A call of hindcast/hindcastlaw04.shown. -/
def c5 (w : World) (R : Bool → World → Prop) : Prop :=
  CallK Try.prog 5 [] [.one .b] w R

/-- A call of hindcast/hindcastlaw04.pick. -/
def c6 (c : Int) (n_ : Int) (w : World) (R : Int → World → Prop) : Prop :=
  CallK Try.prog 6 [.int .i64 c, .int .i64 n_] [.one (.i .i64)] w R

/-- A call of hindcast/ids.New. -/
def c7 (most : Int) (w : World) (R : Option Addr → Int → World → Prop) : Prop :=
  CallK Try.prog 7 [.int .i64 most] [.one .p, .one (.i .i64)] w R

/-- A call of (*hindcast/ids.Pool).Give. -/
def c8 (p : Option Addr) (e_Index : Int) (e_Gen : Int) (w : World) (R : Int → World → Prop) : Prop :=
  CallK Try.prog 8 [.pointer p, .agg #[.int .i64 e_Index, .int .i64 e_Gen]] [.one (.i .i64)] w R

/-- A call of (*hindcast/ids.Pool).Take. -/
def c9 (p : Option Addr) (w : World) (R : Int → Int → Int → World → Prop) : Prop :=
  CallK Try.prog 9 [.pointer p] [.agg [.i .i64, .i .i64], .one (.i .i64)] w R

/-- A call of (*hindcast/ids.Pool).All. -/
def c10 (p : Option Addr) (w : World) (R : Sl → World → Prop) : Prop :=
  CallK Try.prog 10 [.pointer p] [.one .sl] w R

/-- A call of (*hindcast/ids.Pool).At. -/
def c11 (p : Option Addr) (index : Int) (w : World) (R : Int → Int → Int → World → Prop) : Prop :=
  CallK Try.prog 11 [.pointer p, .int .i64 index] [.agg [.i .i64, .i .i64], .one (.i .i64)] w R

/-- A call of (*hindcast/ids.Pool).Lives. -/
def c12 (p : Option Addr) (e_Index : Int) (e_Gen : Int) (w : World) (R : Bool → World → Prop) : Prop :=
  CallK Try.prog 12 [.pointer p, .agg #[.int .i64 e_Index, .int .i64 e_Gen]] [.one .b] w R

/-- A call of (*hindcast/ids.Pool).State. -/
def c13 (p : Option Addr) (w : World) (R : Sl → Sl → World → Prop) : Prop :=
  CallK Try.prog 13 [.pointer p] [.one .sl, .one .sl] w R

/-- A call of hindcast/ids.From. -/
def c14 (most : Int) (gens : Sl) (free : Sl) (w : World) (R : Option Addr → Int → World → Prop) : Prop :=
  CallK Try.prog 14 [.int .i64 most, .slice gens.a gens.len gens.cap, .slice free.a free.len free.cap] [.one .p, .one (.i .i64)] w R

/-- A call of hindcast/hindcastref04.New. -/
def c15 (most : Int) (w : World) (R : Option Addr → Int → World → Prop) : Prop :=
  CallK Try.prog 15 [.int .i64 most] [.one .p, .one (.i .i64)] w R

/-- A call of (*hindcast/hindcastlaw04.world).step. -/
def c16 (w_ : Option Addr) (o_Kind : Int) (o_N : Int) (o_A : Int) (o_E_Index : Int) (o_E_Gen : Int) (o_Gens : Sl) (o_Free : Sl) (w : World) (R : Bool → World → Prop) : Prop :=
  CallK Try.prog 16 [.pointer w_, .agg #[.int .i64 o_Kind, .int .i64 o_N, .int .i64 o_A, .int .i64 o_E_Index, .int .i64 o_E_Gen, .slice o_Gens.a o_Gens.len o_Gens.cap, .slice o_Free.a o_Free.len o_Free.cap]] [.one .b] w R

/-- A call of (*hindcast/hindcastlaw04.world).looks. -/
def c17 (w_ : Option Addr) (w : World) (R : Bool → World → Prop) : Prop :=
  CallK Try.prog 17 [.pointer w_] [.one .b] w R

/-- A call of (*hindcast/hindcastlaw04.world).state. -/
def c18 (w_ : Option Addr) (x_p : Option Addr) (x_r : Option Addr) (w : World) (R : Bool → World → Prop) : Prop :=
  CallK Try.prog 18 [.pointer w_, .agg #[.pointer x_p, .pointer x_r]] [.one .b] w R

/-- A call of slices.Clone[[]int,int]. -/
def c19 (s : Sl) (w : World) (R : Sl → World → Prop) : Prop :=
  CallK Try.prog 19 [.slice s.a s.len s.cap] [.one .sl] w R

/-- A call of (*hindcast/hindcastref04.Pool).Take. -/
def c20 (p : Option Addr) (w : World) (R : Int → Int → Int → World → Prop) : Prop :=
  CallK Try.prog 20 [.pointer p] [.agg [.i .i64, .i .i64], .one (.i .i64)] w R

/-- A call of (*hindcast/hindcastref04.Pool).Give. -/
def c21 (p : Option Addr) (e_Index : Int) (e_Gen : Int) (w : World) (R : Int → World → Prop) : Prop :=
  CallK Try.prog 21 [.pointer p, .agg #[.int .i64 e_Index, .int .i64 e_Gen]] [.one (.i .i64)] w R

/-- A call of (*hindcast/hindcastref04.Pool).All. -/
def c22 (p : Option Addr) (w : World) (R : Sl → World → Prop) : Prop :=
  CallK Try.prog 22 [.pointer p] [.one .sl] w R

/-- A call of (*hindcast/hindcastlaw04.world).look. -/
def c23 (w_ : Option Addr) (x_p : Option Addr) (x_r : Option Addr) (o_Kind : Int) (o_N : Int) (o_A : Int) (o_E_Index : Int) (o_E_Gen : Int) (o_Gens : Sl) (o_Free : Sl) (w : World) (R : Bool → World → Prop) : Prop :=
  CallK Try.prog 23 [.pointer w_, .agg #[.pointer x_p, .pointer x_r], .agg #[.int .i64 o_Kind, .int .i64 o_N, .int .i64 o_A, .int .i64 o_E_Index, .int .i64 o_E_Gen, .slice o_Gens.a o_Gens.len o_Gens.cap, .slice o_Free.a o_Free.len o_Free.cap]] [.one .b] w R

/-- A call of hindcast/hindcastlaw04.from. -/
def c24 (most : Int) (gens : Sl) (free : Sl) (w : World) (R : Option Addr → Option Addr → Bool → World → Prop) : Prop :=
  CallK Try.prog 24 [.int .i64 most, .slice gens.a gens.len gens.cap, .slice free.a free.len free.cap] [.agg [.p, .p], .one .b] w R

/-- A call of (*hindcast/ids.Pool).Clone. -/
def c25 (p : Option Addr) (w : World) (R : Option Addr → World → Prop) : Prop :=
  CallK Try.prog 25 [.pointer p] [.one .p] w R

/-- A call of (*hindcast/hindcastref04.Pool).Clone. -/
def c26 (p : Option Addr) (w : World) (R : Option Addr → World → Prop) : Prop :=
  CallK Try.prog 26 [.pointer p] [.one .p] w R

/-- A call of (*hindcast/hindcastref04.Pool).State. -/
def c27 (p : Option Addr) (w : World) (R : Sl → Sl → World → Prop) : Prop :=
  CallK Try.prog 27 [.pointer p] [.one .sl, .one .sl] w R

/-- A call of hindcast/hindcastlaw04.same. -/
def c28 (a : Sl) (b : Sl) (w : World) (R : Bool → World → Prop) : Prop :=
  CallK Try.prog 28 [.slice a.a a.len a.cap, .slice b.a b.len b.cap] [.one .b] w R

/-- A call of (*hindcast/hindcastlaw04.world).fill. -/
def c29 (w_ : Option Addr) (a : Sl) (e : Sl) (w : World) (R : World → Prop) : Prop :=
  CallK Try.prog 29 [.pointer w_, .slice a.a a.len a.cap, .slice e.a e.len e.cap] [] w R

/-- A call of (*hindcast/hindcastref04.Pool).Lives. -/
def c30 (p : Option Addr) (e_Index : Int) (e_Gen : Int) (w : World) (R : Bool → World → Prop) : Prop :=
  CallK Try.prog 30 [.pointer p, .agg #[.int .i64 e_Index, .int .i64 e_Gen]] [.one .b] w R

/-- A call of (*hindcast/hindcastref04.Pool).At. -/
def c31 (p : Option Addr) (index : Int) (w : World) (R : Int → Int → Int → World → Prop) : Prop :=
  CallK Try.prog 31 [.pointer p, .int .i64 index] [.agg [.i .i64, .i .i64], .one (.i .i64)] w R

/-- A call of hindcast/hindcastref04.From. -/
def c32 (most : Int) (gens : Sl) (free : Sl) (w : World) (R : Option Addr → Int → World → Prop) : Prop :=
  CallK Try.prog 32 [.int .i64 most, .slice gens.a gens.len gens.cap, .slice free.a free.len free.cap] [.one .p, .one (.i .i64)] w R

/-- A call of slices.Clone[[]bool,bool]. -/
def c33 (s : Sl) (w : World) (R : Sl → World → Prop) : Prop :=
  CallK Try.prog 33 [.slice s.a s.len s.cap] [.one .sl] w R

/-- A call of (*hindcast/hindcastref04.Pool).free. -/
def c34 (p : Option Addr) (i : Int) (w : World) (R : Bool → World → Prop) : Prop :=
  CallK Try.prog 34 [.pointer p, .int .i64 i] [.one .b] w R

/-- gosem.cut.init. -/
def f2 (w : World) (R : World → Prop) : Prop :=
  CallX Try.prog 1 [] [] w fun  (w : World) =>
  R w

theorem f2_eq (w : World) (R : World → Prop) :
    f2  w R = dFunc Try.prog ⟨[], []⟩ Try.f2 [] (fun v w' => viewRet [] v R w') w := by kernel_rfl

theorem c2_of {w : World} {R : World → Prop} (h : f2  w R) : c2  w R :=
  callK_of okP Try.func2 (by rw [← f2_eq]; exact h)

/-- hindcast/hindcastlaw04.IdsNever. -/
def f3 (most : Int) (acts : Sl) (w : World) (R : Bool → World → Prop) : Prop :=
  c5  w fun (head : Bool) (w : World) =>
  c6 most 12 w fun (r : Int) (w : World) =>
  c7 (IntKind.i64.wrap (1 + r)) w fun (p : Option Addr) (e : Int) (w : World) =>
  if (cond (!head) true (e != 0)) = true then (R false w) else (∃ Inv_ : Option Addr → Sl → Sl → Int → Nat → World → Prop, (∃ n : Nat, Inv_ p ⟨none, 0, 0⟩ ⟨none, 0, 0⟩ 0 n w) ∧ ∀ p2 : Option Addr, ∀ alive : Sl, ∀ all : Sl, ∀ i : Int, ∀ m : Nat, ∀ w : World, Inv_ p2 alive all i m w → (if (cond (decide (i < (acts.len : Int))) (decide (i < 400)) false) = true then (∃ J_ : Sl → Sl → World → Prop, (∃ J_2 : Bool → World → Prop, (if (decide ((alive.len : Int) > 0)) = true then (Ix acts.a acts.len i 1 fun (a : Addr) =>
  Ld (.i .i64) w a fun (x : Int) =>
  J_2 ((IntKind.i64.wrap ((BitVec.ofInt 64 x &&& BitVec.ofInt 64 1).toNat : Nat)) == 1) w) else (J_2 false w)) ∧ ∀ t67 : Bool, ∀ w : World, J_2 t67 w → (if t67 = true then (Ix acts.a acts.len i 1 fun (a2 : Addr) =>
  Ld (.i .i64) w a2 fun (x2 : Int) =>
  (2 : Int) ≠ 0 ∧ (c6 (IntKind.i64.wrap (Int.tdiv x2 2)) (alive.len : Int) w fun (k : Int) (w : World) =>
  Ix alive.a alive.len k 2 fun (a3 : Addr) =>
  Ld (.i .i64) w a3 fun (x_Index : Int) => Ld (.i .i64) w (a3.add 1) fun (x_Gen : Int) => 
  Nw (.cells #[.int .i64 0, .int .i64 0] 31) w fun (x3 : Addr) (w : World) =>
  St x3 (.int .i64 x_Index) w fun (w : World) =>
  St (x3.add 1) (.int .i64 x_Gen) w fun (w : World) =>
  Ld (.i .i64) w x3 fun (x_Index2 : Int) => Ld (.i .i64) w (x3.add 1) fun (x_Gen2 : Int) => 
  c8 p2 x_Index2 x_Gen2 w fun (f : Int) (w : World) =>
  Ld (.i .i64) w x3 fun (x_Index3 : Int) => Ld (.i .i64) w (x3.add 1) fun (x_Gen3 : Int) => 
  c8 p2 x_Index3 x_Gen3 w fun (g : Int) (w : World) =>
  if (cond (f != 0) true (g != 41)) = true then (R false w) else (Dr w fun (w : World) =>
  Cut ⟨alive.a, alive.len, alive.cap⟩ 0 k k 2 fun (s : Sl) =>
  Cut ⟨alive.a, alive.len, alive.cap⟩ (IntKind.i64.wrap (k + 1)) (alive.len : Int) (alive.cap : Int) 2 fun (s2 : Sl) =>
  Run .sl Try.prog (Builtin.append_ #[29, 29] 29 #[.slice s.a s.len s.cap, .slice s2.a s2.len s2.cap]) w fun (alive2 : Sl) (w : World) =>
  J_ alive2 all w))) else (c9 p2 w fun (x_Index4 : Int) (x_Gen4 : Int) (f2 : Int) (w : World) =>
  Nw (.cells #[.int .i64 0, .int .i64 0] 31) w fun (x4 : Addr) (w : World) =>
  St x4 (.int .i64 x_Index4) w fun (w : World) =>
  St (x4.add 1) (.int .i64 x_Gen4) w fun (w : World) =>
  if (cond (!((f2 == 40) == ((alive.len : Int) == (IntKind.i64.wrap (1 + r))))) true (cond (f2 != 0) (f2 != 40) false)) = true then (R false w) else (if (f2 == 0) = true then (∃ Inv_2 : Int → Nat → World → Prop, (∃ n : Nat, Inv_2 0 n w) ∧ ∀ k2 : Int, ∀ m3 : Nat, ∀ w : World, Inv_2 k2 m3 w → (if (decide (k2 < (all.len : Int))) = true then (Dr w fun (w : World) =>
  Ix all.a all.len k2 2 fun (a4 : Addr) =>
  Ld (.i .i64) w a4 fun (x_Index5 : Int) => Ld (.i .i64) w (a4.add 1) fun (x_Gen5 : Int) => 
  Ld (.i .i64) w x4 fun (x_Index6 : Int) => Ld (.i .i64) w (x4.add 1) fun (x_Gen6 : Int) => 
  RunRo .b Try.prog (binSem .eql 31 (.tmp 132) (.tmp 133) (.agg #[.int .i64 x_Index5, .int .i64 x_Gen5]) (.agg #[.int .i64 x_Index6, .int .i64 x_Gen6])) w fun (eq : Bool) =>
  if eq = true then (R false w) else (∃ m4 : Nat, m4 < m3 ∧ Inv_2 (IntKind.i64.wrap (k2 + 1)) m4 w)) else (Ld (.i .i64) w x4 fun (x_Index7 : Int) => Ld (.i .i64) w (x4.add 1) fun (x_Gen7 : Int) => 
  Nw (.cells #[.int .i64 x_Index7, .int .i64 x_Gen7] 31) w fun (b : Addr) (w : World) =>
  Run .sl Try.prog (Builtin.append_ #[29, 29] 29 #[.slice all.a all.len all.cap, .slice (some b) 1 1]) w fun (all2 : Sl) (w : World) =>
  Ld (.i .i64) w x4 fun (x_Index8 : Int) => Ld (.i .i64) w (x4.add 1) fun (x_Gen8 : Int) => 
  Nw (.cells #[.int .i64 x_Index8, .int .i64 x_Gen8] 31) w fun (b2 : Addr) (w : World) =>
  Run .sl Try.prog (Builtin.append_ #[29, 29] 29 #[.slice alive.a alive.len alive.cap, .slice (some b2) 1 1]) w fun (alive3 : Sl) (w : World) =>
  J_ alive3 all2 w))) else (J_ alive all w))))) ∧ ∀ alive4 : Sl, ∀ all3 : Sl, ∀ w : World, J_ alive4 all3 w → (c10 p2 w fun (l : Sl) (w : World) =>
  if ((l.len : Int) != (alive4.len : Int)) = true then (R false w) else (∃ Inv_3 : Int → Int → Nat → World → Prop, (∃ n : Nat, Inv_3 (-1) 0 n w) ∧ ∀ last : Int, ∀ k3 : Int, ∀ m5 : Nat, ∀ w : World, Inv_3 last k3 m5 w → (if (decide (k3 < (l.len : Int))) = true then (Ix l.a l.len k3 2 fun (a5 : Addr) =>
  Ld (.i .i64) w a5 fun (Index : Int) =>
  c11 p2 Index w fun (y_Index : Int) (y_Gen : Int) (f3 : Int) (w : World) =>
  Nw (.cells #[.int .i64 0, .int .i64 0] 31) w fun (y : Addr) (w : World) =>
  St y (.int .i64 y_Index) w fun (w : World) =>
  St (y.add 1) (.int .i64 y_Gen) w fun (w : World) =>
  Ix l.a l.len k3 2 fun (a6 : Addr) =>
  Ld (.i .i64) w a6 fun (x_Index9 : Int) => Ld (.i .i64) w (a6.add 1) fun (x_Gen9 : Int) => 
  c12 p2 x_Index9 x_Gen9 w fun (lives : Bool) (w : World) =>
  ∃ J_3 : World → Prop, (Dr w fun (w : World) =>
  Ix l.a l.len k3 2 fun (a7 : Addr) =>
  Ld (.i .i64) w a7 fun (Index2 : Int) =>
  if (decide (Index2 ≤ last)) = true then (R false w) else (Ix l.a l.len k3 2 fun (a8 : Addr) =>
  Ld (.i .i64) w a8 fun (Index3 : Int) =>
  if (decide (Index3 ≥ (IntKind.i64.wrap (1 + r)))) = true then (R false w) else (if (f3 != 0) = true then (R false w) else (Ld (.i .i64) w y fun (y_Index2 : Int) => Ld (.i .i64) w (y.add 1) fun (y_Gen2 : Int) => 
  Ix l.a l.len k3 2 fun (a9 : Addr) =>
  Ld (.i .i64) w a9 fun (x_Index10 : Int) => Ld (.i .i64) w (a9.add 1) fun (x_Gen10 : Int) => 
  RunRo .b Try.prog (binSem .neq 31 (.tmp 193) (.tmp 197) (.agg #[.int .i64 y_Index2, .int .i64 y_Gen2]) (.agg #[.int .i64 x_Index10, .int .i64 x_Gen10])) w fun (eq2 : Bool) =>
  if eq2 = true then (R false w) else (if (!lives) = true then (R false w) else (J_3  w)))))) ∧ ∀ w : World, J_3  w → (Ix l.a l.len k3 2 fun (a10 : Addr) =>
  Ld (.i .i64) w a10 fun (Index4 : Int) =>
  ∃ m6 : Nat, m6 < m5 ∧ Inv_3 Index4 (IntKind.i64.wrap (k3 + 1)) m6 w)) else ((7 : Int) ≠ 0 ∧ (if ((Int.tmod i 7) == 3) = true then (c13 p2 w fun (gens : Sl) (free : Sl) (w : World) =>
  c14 (IntKind.i64.wrap (1 + r)) gens free w fun (q : Option Addr) (f4 : Int) (w : World) =>
  if (cond (f4 != 0) true q.isNone) = true then (R false w) else (∃ m2 : Nat, m2 < m ∧ Inv_ q alive4 all3 (IntKind.i64.wrap (i + 1)) m2 w)) else (∃ m2 : Nat, m2 < m ∧ Inv_ p2 alive4 all3 (IntKind.i64.wrap (i + 1)) m2 w))))))) else (∃ Inv_4 : Int → Nat → World → Prop, (∃ n : Nat, Inv_4 0 n w) ∧ ∀ k4 : Int, ∀ m7 : Nat, ∀ w : World, Inv_4 k4 m7 w → (if (decide (k4 < (all.len : Int))) = true then (∃ Inv_5 : Bool → Int → Nat → World → Prop, (∃ n : Nat, Inv_5 false 0 n w) ∧ ∀ there : Bool, ∀ i2 : Int, ∀ m9 : Nat, ∀ w : World, Inv_5 there i2 m9 w → (if (decide (i2 < (alive.len : Int))) = true then (Dr w fun (w : World) =>
  if there = true then (∃ m10 : Nat, m10 < m9 ∧ Inv_5 true (IntKind.i64.wrap (i2 + 1)) m10 w) else (Ix alive.a alive.len i2 2 fun (a11 : Addr) =>
  Ld (.i .i64) w a11 fun (x_Index11 : Int) => Ld (.i .i64) w (a11.add 1) fun (x_Gen11 : Int) => 
  Ix all.a all.len k4 2 fun (a12 : Addr) =>
  Ld (.i .i64) w a12 fun (x_Index12 : Int) => Ld (.i .i64) w (a12.add 1) fun (x_Gen12 : Int) => 
  RunRo .b Try.prog (binSem .eql 31 (.tmp 248) (.tmp 252) (.agg #[.int .i64 x_Index11, .int .i64 x_Gen11]) (.agg #[.int .i64 x_Index12, .int .i64 x_Gen12])) w fun (eq3 : Bool) =>
  ∃ m10 : Nat, m10 < m9 ∧ Inv_5 eq3 (IntKind.i64.wrap (i2 + 1)) m10 w)) else (Ix all.a all.len k4 2 fun (a13 : Addr) =>
  Ld (.i .i64) w a13 fun (x_Index13 : Int) => Ld (.i .i64) w (a13.add 1) fun (x_Gen13 : Int) => 
  c12 p2 x_Index13 x_Gen13 w fun (r2 : Bool) (w : World) =>
  if (!(r2 == there)) = true then (R false w) else (∃ m8 : Nat, m8 < m7 ∧ Inv_4 (IntKind.i64.wrap (k4 + 1)) m8 w)))) else (R true w)))))

theorem f3_eq (most : Int) (acts : Sl) (w : World) (R : Bool → World → Prop) :
    f3 most acts w R = dFunc Try.prog ⟨[(9, ⟨[(7, .p), (9, .sl), (10, .sl), (11, .i .i64)], [1, 6]⟩), (24, ⟨[(18, .i .i64)], [1, 6, 7, 9, 10, 11, 16]⟩), (35, ⟨[(20, .i .i64), (21, .i .i64)], [1, 6, 7, 9, 10, 11, 19]⟩), (49, ⟨[(29, .i .i64)], [7, 9, 10]⟩), (53, ⟨[(30, .b), (31, .i .i64)], [7, 9, 10, 29]⟩)], [(12, ⟨[(67, .b)], [1, 6, 7, 9, 10, 11]⟩), (30, ⟨[(9, .sl), (10, .sl)], [1, 6, 7, 11]⟩), (41, ⟨[], [1, 6, 7, 9, 10, 11, 19, 21]⟩)]⟩ Try.f3 [.int .i64 most, .slice acts.a acts.len acts.cap] (fun v w' => viewRet [.one .b] v R w') w := by kernel_rfl

theorem c3_of {most : Int} {acts : Sl} {w : World} {R : Bool → World → Prop} (h : f3 most acts w R) : c3 most acts w R :=
  callK_of okP Try.func3 (by rw [← f3_eq]; exact h)

/-- hindcast/hindcastlaw04.IdsPlays. -/
def f4 (one : Int) (two : Int) (script : Sl) (w : World) (R : Bool → World → Prop) : Prop :=
  c5  w fun (head : Bool) (w : World) =>
  Nw (.cells #[.pointer none, .pointer none, .pointer none, .pointer none, .slice none 0 0] 50) w fun (w_ : Addr) (w : World) =>
  Nw (.cells #[.int .i64 one, .int .i64 two] 3) w fun (b : Addr) (w : World) =>
  ∃ Inv_ : Int → Nat → World → Prop, (∃ n : Nat, Inv_ 0 n w) ∧ ∀ i : Int, ∀ m : Nat, ∀ w : World, Inv_ i m w → (if (decide (i < 2)) = true then (Ix (some b) 2 i 1 fun (a : Addr) =>
  Ld (.i .i64) w a fun (x : Int) =>
  c7 x w fun (p : Option Addr) (e : Int) (w : World) =>
  Ix (some b) 2 i 1 fun (a2 : Addr) =>
  Ld (.i .i64) w a2 fun (x2 : Int) =>
  c15 x2 w fun (r : Option Addr) (f : Int) (w : World) =>
  if (cond (e != f) true (!(p.isNone == r.isNone))) = true then (R false w) else (∃ J_ : Option Addr → Option Addr → World → Prop, (if r.isNone = true then (c7 5 w fun (p2 : Option Addr) (e2 : Int) (w : World) =>
  c15 5 w fun (r2 : Option Addr) (r3 : Int) (w : World) =>
  if (cond (e2 != 0) true p2.isNone) = true then (R false w) else (J_ p2 r2 w)) else (J_ p r w)) ∧ ∀ p3 : Option Addr, ∀ r4 : Option Addr, ∀ w : World, J_ p3 r4 w → (IxA w_ 2 i 2 fun (a3 : Addr) =>
  St a3 (.pointer p3) w fun (w : World) =>
  St (a3.add 1) (.pointer r4) w fun (w : World) =>
  ∃ m2 : Nat, m2 < m ∧ Inv_ (IntKind.i64.wrap (i + 1)) m2 w))) else (∃ Inv_2 : Int → Nat → World → Prop, (∃ n : Nat, Inv_2 0 n w) ∧ ∀ i2 : Int, ∀ m3 : Nat, ∀ w : World, Inv_2 i2 m3 w → (if (cond (decide (i2 < (script.len : Int))) (decide (i2 < 400)) false) = true then (Ix script.a script.len i2 7 fun (a4 : Addr) =>
  Ld (.i .i64) w a4 fun (x_Kind : Int) => Ld (.i .i64) w (a4.add 1) fun (x_N : Int) => Ld (.i .i64) w (a4.add 2) fun (x_A : Int) => Ld (.i .i64) w (a4.add 3) fun (x_E_Index : Int) => Ld (.i .i64) w (a4.add 4) fun (x_E_Gen : Int) => Ld .sl w (a4.add 5) fun (x_Gens : Sl) => Ld .sl w (a4.add 6) fun (x_Free : Sl) => 
  c16 (some w_) x_Kind x_N x_A x_E_Index x_E_Gen x_Gens x_Free w fun (ok : Bool) (w : World) =>
  c17 (some w_) w fun (looks : Bool) (w : World) =>
  if (cond (!ok) true (!looks)) = true then (R false w) else (∃ m4 : Nat, m4 < m3 ∧ Inv_2 (IntKind.i64.wrap (i2 + 1)) m4 w)) else (IxA w_ 2 0 2 fun (a5 : Addr) =>
  Ld .p w a5 fun (x_p : Option Addr) => Ld .p w (a5.add 1) fun (x_r : Option Addr) => 
  c18 (some w_) x_p x_r w fun (a6 : Bool) (w : World) =>
  IxA w_ 2 1 2 fun (a7 : Addr) =>
  Ld .p w a7 fun (x_p2 : Option Addr) => Ld .p w (a7.add 1) fun (x_r2 : Option Addr) => 
  c18 (some w_) x_p2 x_r2 w fun (b2 : Bool) (w : World) =>
  R (cond (cond head a6 false) b2 false) w))))

theorem f4_eq (one : Int) (two : Int) (script : Sl) (w : World) (R : Bool → World → Prop) :
    f4 one two script w R = dFunc Try.prog ⟨[(5, ⟨[(10, .i .i64)], [2, 7, 8, 9]⟩), (18, ⟨[(15, .i .i64)], [2, 7, 8]⟩)], [(16, ⟨[(11, .p), (13, .p)], [2, 7, 8, 9, 10]⟩)]⟩ Try.f4 [.int .i64 one, .int .i64 two, .slice script.a script.len script.cap] (fun v w' => viewRet [.one .b] v R w') w := by kernel_rfl

theorem c4_of {one : Int} {two : Int} {script : Sl} {w : World} {R : Bool → World → Prop} (h : f4 one two script w R) : c4 one two script w R :=
  callK_of okP Try.func4 (by rw [← f4_eq]; exact h)

/-- hindcast/hindcastlaw04.shown. -/
def f5 (w : World) (R : Bool → World → Prop) : Prop :=
  c7 2 w fun (p : Option Addr) (e : Int) (w : World) =>
  if (cond (e != 0) true p.isNone) = true then (R false w) else (c9 p w fun (a_Index : Int) (a_Gen : Int) (f : Int) (w : World) =>
  Nw (.cells #[.int .i64 0, .int .i64 0] 31) w fun (a : Addr) (w : World) =>
  St a (.int .i64 a_Index) w fun (w : World) =>
  St (a.add 1) (.int .i64 a_Gen) w fun (w : World) =>
  c9 p w fun (b_Index : Int) (b_Gen : Int) (g : Int) (w : World) =>
  Nw (.cells #[.int .i64 0, .int .i64 0] 31) w fun (b : Addr) (w : World) =>
  St b (.int .i64 b_Index) w fun (w : World) =>
  St (b.add 1) (.int .i64 b_Gen) w fun (w : World) =>
  c9 p w fun (x__Index : Int) (x__Gen : Int) (h : Int) (w : World) =>
  Nw (.cells #[.int .i64 0, .int .i64 0] 31) w fun (x_ : Addr) (w : World) =>
  St x_ (.int .i64 x__Index) w fun (w : World) =>
  St (x_.add 1) (.int .i64 x__Gen) w fun (w : World) =>
  Ld (.i .i64) w a fun (a_Index2 : Int) => Ld (.i .i64) w (a.add 1) fun (a_Gen2 : Int) => 
  c8 p a_Index2 a_Gen2 w fun (i : Int) (w : World) =>
  Ld (.i .i64) w a fun (a_Index3 : Int) => Ld (.i .i64) w (a.add 1) fun (a_Gen3 : Int) => 
  c8 p a_Index3 a_Gen3 w fun (j : Int) (w : World) =>
  c9 p w fun (c_Index : Int) (c_Gen : Int) (k : Int) (w : World) =>
  Nw (.cells #[.int .i64 0, .int .i64 0] 31) w fun (c : Addr) (w : World) =>
  St c (.int .i64 c_Index) w fun (w : World) =>
  St (c.add 1) (.int .i64 c_Gen) w fun (w : World) =>
  c13 p w fun (gens : Sl) (free : Sl) (w : World) =>
  Ld (.i .i64) w c fun (c_Index2 : Int) => Ld (.i .i64) w (c.add 1) fun (c_Gen2 : Int) => 
  c12 p c_Index2 c_Gen2 w fun (lives : Bool) (w : World) =>
  Ld (.i .i64) w a fun (a_Index4 : Int) => Ld (.i .i64) w (a.add 1) fun (a_Gen4 : Int) => 
  c12 p a_Index4 a_Gen4 w fun (old : Bool) (w : World) =>
  Ld (.i .i64) w a fun (a_Index5 : Int) => Ld (.i .i64) w (a.add 1) fun (a_Gen5 : Int) => 
  RunRo .b Try.prog (binSem .eql 31 (.tmp 64) (.tmp 65) (.agg #[.int .i64 a_Index5, .int .i64 a_Gen5]) (.agg #[.int .i64 0, .int .i64 1])) w fun (eq : Bool) =>
  if eq = true then (if (f == 0) = true then (Ld (.i .i64) w b fun (b_Index2 : Int) => Ld (.i .i64) w (b.add 1) fun (b_Gen2 : Int) => 
  RunRo .b Try.prog (binSem .eql 31 (.tmp 72) (.tmp 73) (.agg #[.int .i64 b_Index2, .int .i64 b_Gen2]) (.agg #[.int .i64 1, .int .i64 1])) w fun (eq2 : Bool) =>
  if eq2 = true then (if (g == 0) = true then (if (h == 40) = true then (if (i == 0) = true then (if (j == 41) = true then (Ld (.i .i64) w c fun (c_Index3 : Int) => Ld (.i .i64) w (c.add 1) fun (c_Gen3 : Int) => 
  RunRo .b Try.prog (binSem .eql 31 (.tmp 93) (.tmp 94) (.agg #[.int .i64 c_Index3, .int .i64 c_Gen3]) (.agg #[.int .i64 0, .int .i64 2])) w fun (eq3 : Bool) =>
  if eq3 = true then (if (k == 0) = true then (if ((gens.len : Int) == 2) = true then (Ix gens.a gens.len 0 1 fun (a2 : Addr) =>
  Ld (.i .i64) w a2 fun (x : Int) =>
  if (x == 2) = true then (if ((free.len : Int) == 0) = true then (if lives = true then (R (!old) w) else (R false w)) else (R false w)) else (R false w)) else (R false w)) else (R false w)) else (R false w)) else (R false w)) else (R false w)) else (R false w)) else (R false w)) else (R false w)) else (R false w)) else (R false w))

theorem f5_eq (w : World) (R : Bool → World → Prop) :
    f5  w R = dFunc Try.prog ⟨[], []⟩ Try.f5 [] (fun v w' => viewRet [.one .b] v R w') w := by kernel_rfl

theorem c5_of {w : World} {R : Bool → World → Prop} (h : f5  w R) : c5  w R :=
  callK_of okP Try.func5 (by rw [← f5_eq]; exact h)

/-- hindcast/hindcastlaw04.pick. -/
def f6 (c : Int) (n_ : Int) (w : World) (R : Int → World → Prop) : Prop :=
  if (decide (c < 0)) = true then ((n_ : Int) ≠ 0 ∧ (R (Int.tmod (IntKind.i64.wrap (0 - (IntKind.i64.wrap (c + 1)))) n_) w)) else ((n_ : Int) ≠ 0 ∧ (R (Int.tmod c n_) w))

theorem f6_eq (c : Int) (n_ : Int) (w : World) (R : Int → World → Prop) :
    f6 c n_ w R = dFunc Try.prog ⟨[], []⟩ Try.f6 [.int .i64 c, .int .i64 n_] (fun v w' => viewRet [.one (.i .i64)] v R w') w := by kernel_rfl

theorem c6_of {c : Int} {n_ : Int} {w : World} {R : Int → World → Prop} (h : f6 c n_ w R) : c6 c n_ w R :=
  callK_of okP Try.func6 (by rw [← f6_eq]; exact h)

/-- hindcast/ids.New. -/
def f7 (most : Int) (w : World) (R : Option Addr → Int → World → Prop) : Prop :=
  if (cond (decide (most < 1)) true (decide (most > 200))) = true then (R none 1 w) else (Nw (.cells #[.int .i64 most, .slice none 0 0, .slice none 0 0, .slice none 0 0] 60) w fun (a : Addr) (w : World) =>
  R (some a) 0 w)

theorem f7_eq (most : Int) (w : World) (R : Option Addr → Int → World → Prop) :
    f7 most w R = dFunc Try.prog ⟨[], []⟩ Try.f7 [.int .i64 most] (fun v w' => viewRet [.one .p, .one (.i .i64)] v R w') w := by kernel_rfl

theorem c7_of {most : Int} {w : World} {R : Option Addr → Int → World → Prop} (h : f7 most w R) : c7 most w R :=
  callK_of okP Try.func7 (by rw [← f7_eq]; exact h)

/-- (*hindcast/ids.Pool).Give. -/
def f8 (p : Option Addr) (e_Index : Int) (e_Gen : Int) (w : World) (R : Int → World → Prop) : Prop :=
  Nw (.cells #[.int .i64 e_Index, .int .i64 e_Gen] 31) w fun (e : Addr) (w : World) =>
  Ld (.i .i64) w e fun (e_Index2 : Int) => Ld (.i .i64) w (e.add 1) fun (e_Gen2 : Int) => 
  c12 p e_Index2 e_Gen2 w fun (r : Bool) (w : World) =>
  if (!r) = true then (R 41 w) else (Dr w fun (w : World) =>
  NN p fun (p_ : Addr) =>
  Ld .sl w (p_.add 2) fun (alive : Sl) =>
  Ld (.i .i64) w e fun (Index : Int) =>
  Ix alive.a alive.len Index 1 fun (a : Addr) =>
  St a (.bool false) w fun (w : World) =>
  Ld (.i .i64) w (e.add 1) fun (Gen : Int) =>
  if (decide (Gen < 1000000)) = true then (Dr w fun (w : World) =>
  NN p fun (p_2 : Addr) =>
  Ld .sl w (p_2.add 3) fun (free : Sl) =>
  Ld (.i .i64) w e fun (Index2 : Int) =>
  Nw (.cells #[.int .i64 Index2] 3) w fun (b : Addr) (w : World) =>
  Run .sl Try.prog (Builtin.append_ #[22, 22] 22 #[.slice free.a free.len free.cap, .slice (some b) 1 1]) w fun (s : Sl) (w : World) =>
  NN p fun (p_3 : Addr) =>
  St (p_3.add 3) (.slice s.a s.len s.cap) w fun (w : World) =>
  R 0 w) else (R 0 w))

theorem f8_eq (p : Option Addr) (e_Index : Int) (e_Gen : Int) (w : World) (R : Int → World → Prop) :
    f8 p e_Index e_Gen w R = dFunc Try.prog ⟨[], []⟩ Try.f8 [.pointer p, .agg #[.int .i64 e_Index, .int .i64 e_Gen]] (fun v w' => viewRet [.one (.i .i64)] v R w') w := by kernel_rfl

theorem c8_of {p : Option Addr} {e_Index : Int} {e_Gen : Int} {w : World} {R : Int → World → Prop} (h : f8 p e_Index e_Gen w R) : c8 p e_Index e_Gen w R :=
  callK_of okP Try.func8 (by rw [← f8_eq]; exact h)

/-- (*hindcast/ids.Pool).Take. -/
def f9 (p : Option Addr) (w : World) (R : Int → Int → Int → World → Prop) : Prop :=
  Nw (.cells #[.int .i64 0, .int .i64 0] 31) w fun (a : Addr) (w : World) =>
  NN p fun (p_ : Addr) =>
  Ld .sl w (p_.add 3) fun (free : Sl) =>
  if (decide ((free.len : Int) > 0)) = true then (NN p fun (p_2 : Addr) =>
  Ld .sl w (p_2.add 3) fun (free2 : Sl) =>
  Ix free2.a free2.len 0 1 fun (a2 : Addr) =>
  Ld (.i .i64) w a2 fun (i : Int) =>
  NN p fun (p_3 : Addr) =>
  Ld .sl w (p_3.add 3) fun (free3 : Sl) =>
  Cut ⟨free3.a, free3.len, free3.cap⟩ 1 (free3.len : Int) (free3.cap : Int) 1 fun (s : Sl) =>
  NN p fun (p_4 : Addr) =>
  St (p_4.add 3) (.slice s.a s.len s.cap) w fun (w : World) =>
  NN p fun (p_5 : Addr) =>
  Ld .sl w (p_5.add 1) fun (gens : Sl) =>
  Ix gens.a gens.len i 1 fun (a3 : Addr) =>
  Ld (.i .i64) w a3 fun (x : Int) =>
  Ix gens.a gens.len i 1 fun (a4 : Addr) =>
  St a4 (.int .i64 (IntKind.i64.wrap (x + 1))) w fun (w : World) =>
  NN p fun (p_6 : Addr) =>
  Ld .sl w (p_6.add 2) fun (alive : Sl) =>
  Ix alive.a alive.len i 1 fun (a5 : Addr) =>
  St a5 (.bool true) w fun (w : World) =>
  NN p fun (p_7 : Addr) =>
  Ld .sl w (p_7.add 1) fun (gens2 : Sl) =>
  Ix gens2.a gens2.len i 1 fun (a6 : Addr) =>
  Ld (.i .i64) w a6 fun (x2 : Int) =>
  St a (.int .i64 i) w fun (w : World) =>
  St (a.add 1) (.int .i64 x2) w fun (w : World) =>
  Ld (.i .i64) w a fun (r_Index : Int) => Ld (.i .i64) w (a.add 1) fun (r_Gen : Int) => 
  R r_Index r_Gen 0 w) else (Dr w fun (w : World) =>
  NN p fun (p_8 : Addr) =>
  Ld .sl w (p_8.add 1) fun (gens3 : Sl) =>
  NN p fun (p_9 : Addr) =>
  Ld (.i .i64) w p_9 fun (most : Int) =>
  if ((gens3.len : Int) == most) = true then (St a (.int .i64 0) w fun (w : World) =>
  St (a.add 1) (.int .i64 0) w fun (w : World) =>
  Ld (.i .i64) w a fun (r_Index2 : Int) => Ld (.i .i64) w (a.add 1) fun (r_Gen2 : Int) => 
  R r_Index2 r_Gen2 40 w) else (NN p fun (p_10 : Addr) =>
  Ld .sl w (p_10.add 1) fun (gens4 : Sl) =>
  Nw (.cells #[.int .i64 1] 3) w fun (b : Addr) (w : World) =>
  Run .sl Try.prog (Builtin.append_ #[22, 22] 22 #[.slice gens4.a gens4.len gens4.cap, .slice (some b) 1 1]) w fun (s2 : Sl) (w : World) =>
  NN p fun (p_11 : Addr) =>
  St (p_11.add 1) (.slice s2.a s2.len s2.cap) w fun (w : World) =>
  NN p fun (p_12 : Addr) =>
  Ld .sl w (p_12.add 2) fun (alive2 : Sl) =>
  Nw (.cells #[.bool true] 4) w fun (b2 : Addr) (w : World) =>
  Run .sl Try.prog (Builtin.append_ #[58, 58] 58 #[.slice alive2.a alive2.len alive2.cap, .slice (some b2) 1 1]) w fun (s3 : Sl) (w : World) =>
  NN p fun (p_13 : Addr) =>
  St (p_13.add 2) (.slice s3.a s3.len s3.cap) w fun (w : World) =>
  NN p fun (p_14 : Addr) =>
  Ld .sl w (p_14.add 1) fun (gens5 : Sl) =>
  St a (.int .i64 (IntKind.i64.wrap ((gens5.len : Int) - 1))) w fun (w : World) =>
  St (a.add 1) (.int .i64 1) w fun (w : World) =>
  Ld (.i .i64) w a fun (r_Index3 : Int) => Ld (.i .i64) w (a.add 1) fun (r_Gen3 : Int) => 
  R r_Index3 r_Gen3 0 w))

theorem f9_eq (p : Option Addr) (w : World) (R : Int → Int → Int → World → Prop) :
    f9 p w R = dFunc Try.prog ⟨[], []⟩ Try.f9 [.pointer p] (fun v w' => viewRet [.agg [.i .i64, .i .i64], .one (.i .i64)] v R w') w := by kernel_rfl

theorem c9_of {p : Option Addr} {w : World} {R : Int → Int → Int → World → Prop} (h : f9 p w R) : c9 p w R :=
  callK_of okP Try.func9 (by rw [← f9_eq]; exact h)

/-- (*hindcast/ids.Pool).All. -/
def f10 (p : Option Addr) (w : World) (R : Sl → World → Prop) : Prop :=
  NN p fun (p_ : Addr) =>
  Ld .sl w (p_.add 1) fun (gens : Sl) =>
  ∃ Inv_ : Sl → Int → Nat → World → Prop, (∃ n : Nat, Inv_ ⟨none, 0, 0⟩ 0 n w) ∧ ∀ out : Sl, ∀ t12 : Int, ∀ m : Nat, ∀ w : World, Inv_ out t12 m w → (if (decide (t12 < (gens.len : Int))) = true then (c11 p t12 w fun (e_Index : Int) (e_Gen : Int) (err : Int) (w : World) =>
  Nw (.cells #[.int .i64 0, .int .i64 0] 31) w fun (e : Addr) (w : World) =>
  St e (.int .i64 e_Index) w fun (w : World) =>
  St (e.add 1) (.int .i64 e_Gen) w fun (w : World) =>
  if (err == 0) = true then (Ld (.i .i64) w e fun (e_Index2 : Int) => Ld (.i .i64) w (e.add 1) fun (e_Gen2 : Int) => 
  Nw (.cells #[.int .i64 e_Index2, .int .i64 e_Gen2] 31) w fun (b : Addr) (w : World) =>
  Run .sl Try.prog (Builtin.append_ #[29, 29] 29 #[.slice out.a out.len out.cap, .slice (some b) 1 1]) w fun (out2 : Sl) (w : World) =>
  ∃ m2 : Nat, m2 < m ∧ Inv_ out2 (IntKind.i64.wrap (t12 + 1)) m2 w) else (∃ m2 : Nat, m2 < m ∧ Inv_ out (IntKind.i64.wrap (t12 + 1)) m2 w)) else (R out w))

theorem f10_eq (p : Option Addr) (w : World) (R : Sl → World → Prop) :
    f10 p w R = dFunc Try.prog ⟨[(3, ⟨[(3, .sl), (12, .i .i64)], [0, 11]⟩)], []⟩ Try.f10 [.pointer p] (fun v w' => viewRet [.one .sl] v R w') w := by kernel_rfl

theorem c10_of {p : Option Addr} {w : World} {R : Sl → World → Prop} (h : f10 p w R) : c10 p w R :=
  callK_of okP Try.func10 (by rw [← f10_eq]; exact h)

/-- (*hindcast/ids.Pool).At. -/
def f11 (p : Option Addr) (index : Int) (w : World) (R : Int → Int → Int → World → Prop) : Prop :=
  Nw (.cells #[.int .i64 0, .int .i64 0] 31) w fun (a : Addr) (w : World) =>
  ∃ J_ : Bool → World → Prop, (if (decide (index < 0)) = true then (J_ true w) else (NN p fun (p_ : Addr) =>
  Ld .sl w (p_.add 1) fun (gens : Sl) =>
  if (decide (index ≥ (gens.len : Int))) = true then (J_ true w) else (NN p fun (p_2 : Addr) =>
  Ld .sl w (p_2.add 2) fun (alive : Sl) =>
  Ix alive.a alive.len index 1 fun (a2 : Addr) =>
  Ld .b w a2 fun (x : Bool) =>
  J_ (!x) w))) ∧ ∀ t26 : Bool, ∀ w : World, J_ t26 w → (if t26 = true then (St a (.int .i64 0) w fun (w : World) =>
  St (a.add 1) (.int .i64 0) w fun (w : World) =>
  Ld (.i .i64) w a fun (r_Index : Int) => Ld (.i .i64) w (a.add 1) fun (r_Gen : Int) => 
  R r_Index r_Gen 41 w) else (NN p fun (p_3 : Addr) =>
  Ld .sl w (p_3.add 1) fun (gens2 : Sl) =>
  Ix gens2.a gens2.len index 1 fun (a3 : Addr) =>
  Ld (.i .i64) w a3 fun (x2 : Int) =>
  St a (.int .i64 index) w fun (w : World) =>
  St (a.add 1) (.int .i64 x2) w fun (w : World) =>
  Ld (.i .i64) w a fun (r_Index2 : Int) => Ld (.i .i64) w (a.add 1) fun (r_Gen2 : Int) => 
  R r_Index2 r_Gen2 0 w))

theorem f11_eq (p : Option Addr) (index : Int) (w : World) (R : Int → Int → Int → World → Prop) :
    f11 p index w R = dFunc Try.prog ⟨[], [(2, ⟨[(26, .b)], [0, 1, 4]⟩)]⟩ Try.f11 [.pointer p, .int .i64 index] (fun v w' => viewRet [.agg [.i .i64, .i .i64], .one (.i .i64)] v R w') w := by kernel_rfl

theorem c11_of {p : Option Addr} {index : Int} {w : World} {R : Int → Int → Int → World → Prop} (h : f11 p index w R) : c11 p index w R :=
  callK_of okP Try.func11 (by rw [← f11_eq]; exact h)

/-- (*hindcast/ids.Pool).Lives. -/
def f12 (p : Option Addr) (e_Index : Int) (e_Gen : Int) (w : World) (R : Bool → World → Prop) : Prop :=
  Nw (.cells #[.int .i64 e_Index, .int .i64 e_Gen] 31) w fun (e : Addr) (w : World) =>
  Ld (.i .i64) w e fun (Index : Int) =>
  c11 p Index w fun (x_Index : Int) (x_Gen : Int) (err : Int) (w : World) =>
  Nw (.cells #[.int .i64 0, .int .i64 0] 31) w fun (x : Addr) (w : World) =>
  St x (.int .i64 x_Index) w fun (w : World) =>
  St (x.add 1) (.int .i64 x_Gen) w fun (w : World) =>
  if (err == 0) = true then (Ld (.i .i64) w x fun (x_Index2 : Int) => Ld (.i .i64) w (x.add 1) fun (x_Gen2 : Int) => 
  Ld (.i .i64) w e fun (e_Index2 : Int) => Ld (.i .i64) w (e.add 1) fun (e_Gen2 : Int) => 
  RunRo .b Try.prog (binSem .eql 31 (.tmp 17) (.tmp 18) (.agg #[.int .i64 x_Index2, .int .i64 x_Gen2]) (.agg #[.int .i64 e_Index2, .int .i64 e_Gen2])) w fun (eq : Bool) =>
  R eq w) else (R false w)

theorem f12_eq (p : Option Addr) (e_Index : Int) (e_Gen : Int) (w : World) (R : Bool → World → Prop) :
    f12 p e_Index e_Gen w R = dFunc Try.prog ⟨[], []⟩ Try.f12 [.pointer p, .agg #[.int .i64 e_Index, .int .i64 e_Gen]] (fun v w' => viewRet [.one .b] v R w') w := by kernel_rfl

theorem c12_of {p : Option Addr} {e_Index : Int} {e_Gen : Int} {w : World} {R : Bool → World → Prop} (h : f12 p e_Index e_Gen w R) : c12 p e_Index e_Gen w R :=
  callK_of okP Try.func12 (by rw [← f12_eq]; exact h)

/-- (*hindcast/ids.Pool).State. -/
def f13 (p : Option Addr) (w : World) (R : Sl → Sl → World → Prop) : Prop :=
  NN p fun (p_ : Addr) =>
  Ld .sl w (p_.add 1) fun (gens : Sl) =>
  c19 gens w fun (gens2 : Sl) (w : World) =>
  ∃ Inv_ : Int → Nat → World → Prop, (∃ n : Nat, Inv_ 0 n w) ∧ ∀ t13 : Int, ∀ m : Nat, ∀ w : World, Inv_ t13 m w → (if (decide (t13 < (gens2.len : Int))) = true then (Ix gens2.a gens2.len t13 1 fun (a : Addr) =>
  Ld (.i .i64) w a fun (g : Int) =>
  ∃ J_ : Bool → World → Prop, (if (g == 1000000) = true then (NN p fun (p_2 : Addr) =>
  Ld .sl w (p_2.add 2) fun (alive : Sl) =>
  Ix alive.a alive.len t13 1 fun (a2 : Addr) =>
  Ld .b w a2 fun (x : Bool) =>
  J_ (!x) w) else (J_ false w)) ∧ ∀ t29 : Bool, ∀ w : World, J_ t29 w → (if t29 = true then (Ix gens2.a gens2.len t13 1 fun (a3 : Addr) =>
  Ld (.i .i64) w a3 fun (x2 : Int) =>
  Ix gens2.a gens2.len t13 1 fun (a4 : Addr) =>
  St a4 (.int .i64 (IntKind.i64.wrap (x2 + 1))) w fun (w : World) =>
  ∃ m2 : Nat, m2 < m ∧ Inv_ (IntKind.i64.wrap (t13 + 1)) m2 w) else (∃ m2 : Nat, m2 < m ∧ Inv_ (IntKind.i64.wrap (t13 + 1)) m2 w))) else (NN p fun (p_3 : Addr) =>
  Ld .sl w (p_3.add 3) fun (free : Sl) =>
  c19 free w fun (free2 : Sl) (w : World) =>
  R gens2 free2 w))

theorem f13_eq (p : Option Addr) (w : World) (R : Sl → Sl → World → Prop) :
    f13 p w R = dFunc Try.prog ⟨[(3, ⟨[(13, .i .i64)], [0, 2, 11, 12]⟩)], [(6, ⟨[(29, .b)], [0, 2, 4, 11, 12, 13]⟩)]⟩ Try.f13 [.pointer p] (fun v w' => viewRet [.one .sl, .one .sl] v R w') w := by kernel_rfl

theorem c13_of {p : Option Addr} {w : World} {R : Sl → Sl → World → Prop} (h : f13 p w R) : c13 p w R :=
  callK_of okP Try.func13 (by rw [← f13_eq]; exact h)

/-- hindcast/ids.From. -/
def f14 (most : Int) (gens : Sl) (free : Sl) (w : World) (R : Option Addr → Int → World → Prop) : Prop :=
  c7 most w fun (p : Option Addr) (e : Int) (w : World) =>
  if (cond (e != 0) true (decide ((gens.len : Int) > most))) = true then (R none 1 w) else (∃ Inv_ : Int → Nat → World → Prop, (∃ n : Nat, Inv_ 0 n w) ∧ ∀ t29 : Int, ∀ m : Nat, ∀ w : World, Inv_ t29 m w → (if (decide (t29 < (gens.len : Int))) = true then (Ix gens.a gens.len t29 1 fun (a : Addr) =>
  Ld (.i .i64) w a fun (g : Int) =>
  if (cond (decide (g < 1)) true (decide (g > 1000001))) = true then (R none 1 w) else (NN p fun (p_ : Addr) =>
  Ld .sl w (p_.add 1) fun (gens2 : Sl) =>
  Nw (.cells #[.int .i64 (if 1000000 < g then 1000000 else g)] 3) w fun (b : Addr) (w : World) =>
  Run .sl Try.prog (Builtin.append_ #[22, 22] 22 #[.slice gens2.a gens2.len gens2.cap, .slice (some b) 1 1]) w fun (s : Sl) (w : World) =>
  NN p fun (p_2 : Addr) =>
  St (p_2.add 1) (.slice s.a s.len s.cap) w fun (w : World) =>
  NN p fun (p_3 : Addr) =>
  Ld .sl w (p_3.add 2) fun (alive : Sl) =>
  Nw (.cells #[.bool (decide (g ≤ 1000000))] 4) w fun (b2 : Addr) (w : World) =>
  Run .sl Try.prog (Builtin.append_ #[58, 58] 58 #[.slice alive.a alive.len alive.cap, .slice (some b2) 1 1]) w fun (s2 : Sl) (w : World) =>
  NN p fun (p_4 : Addr) =>
  St (p_4.add 2) (.slice s2.a s2.len s2.cap) w fun (w : World) =>
  ∃ m2 : Nat, m2 < m ∧ Inv_ (IntKind.i64.wrap (t29 + 1)) m2 w)) else (∃ Inv_2 : Int → Nat → World → Prop, (∃ n : Nat, Inv_2 0 n w) ∧ ∀ t64 : Int, ∀ m3 : Nat, ∀ w : World, Inv_2 t64 m3 w → (if (decide (t64 < (free.len : Int))) = true then (Ix free.a free.len t64 1 fun (a2 : Addr) =>
  Ld (.i .i64) w a2 fun (i : Int) =>
  ∃ J_ : World → Prop, (if (decide (i < 0)) = true then (R none 1 w) else (if (decide (i ≥ (gens.len : Int))) = true then (R none 1 w) else (NN p fun (p_5 : Addr) =>
  Ld .sl w (p_5.add 2) fun (alive2 : Sl) =>
  Ix alive2.a alive2.len i 1 fun (a3 : Addr) =>
  Ld .b w a3 fun (x : Bool) =>
  if (!x) = true then (R none 1 w) else (Ix gens.a gens.len i 1 fun (a4 : Addr) =>
  Ld (.i .i64) w a4 fun (x2 : Int) =>
  if (decide (x2 ≥ 1000000)) = true then (R none 1 w) else (J_  w))))) ∧ ∀ w : World, J_  w → (NN p fun (p_6 : Addr) =>
  Ld .sl w (p_6.add 2) fun (alive3 : Sl) =>
  Ix alive3.a alive3.len i 1 fun (a5 : Addr) =>
  St a5 (.bool false) w fun (w : World) =>
  NN p fun (p_7 : Addr) =>
  Ld .sl w (p_7.add 3) fun (free2 : Sl) =>
  Nw (.cells #[.int .i64 i] 3) w fun (b3 : Addr) (w : World) =>
  Run .sl Try.prog (Builtin.append_ #[22, 22] 22 #[.slice free2.a free2.len free2.cap, .slice (some b3) 1 1]) w fun (s3 : Sl) (w : World) =>
  NN p fun (p_8 : Addr) =>
  St (p_8.add 3) (.slice s3.a s3.len s3.cap) w fun (w : World) =>
  ∃ m4 : Nat, m4 < m3 ∧ Inv_2 (IntKind.i64.wrap (t64 + 1)) m4 w)) else (R p 0 w)))))

theorem f14_eq (most : Int) (gens : Sl) (free : Sl) (w : World) (R : Option Addr → Int → World → Prop) :
    f14 most gens free w R = dFunc Try.prog ⟨[(5, ⟨[(29, .i .i64)], [1, 2, 8, 27, 28]⟩), (13, ⟨[(64, .i .i64)], [1, 8, 62, 63]⟩)], [(17, ⟨[], [1, 8, 13, 62, 63, 64]⟩)]⟩ Try.f14 [.int .i64 most, .slice gens.a gens.len gens.cap, .slice free.a free.len free.cap] (fun v w' => viewRet [.one .p, .one (.i .i64)] v R w') w := by kernel_rfl

theorem c14_of {most : Int} {gens : Sl} {free : Sl} {w : World} {R : Option Addr → Int → World → Prop} (h : f14 most gens free w R) : c14 most gens free w R :=
  callK_of okP Try.func14 (by rw [← f14_eq]; exact h)

/-- hindcast/hindcastref04.New. -/
def f15 (most : Int) (w : World) (R : Option Addr → Int → World → Prop) : Prop :=
  if (cond (decide (most < 1)) true (decide (most > 200))) = true then (R none 1 w) else (Nw (.cells #[.int .i64 most, .slice none 0 0, .slice none 0 0, .slice none 0 0] 63) w fun (a : Addr) (w : World) =>
  R (some a) 0 w)

theorem f15_eq (most : Int) (w : World) (R : Option Addr → Int → World → Prop) :
    f15 most w R = dFunc Try.prog ⟨[], []⟩ Try.f15 [.int .i64 most] (fun v w' => viewRet [.one .p, .one (.i .i64)] v R w') w := by kernel_rfl

theorem c15_of {most : Int} {w : World} {R : Option Addr → Int → World → Prop} (h : f15 most w R) : c15 most w R :=
  callK_of okP Try.func15 (by rw [← f15_eq]; exact h)

/-- (*hindcast/hindcastlaw04.world).step. -/
def f16 (w_ : Option Addr) (o_Kind : Int) (o_N : Int) (o_A : Int) (o_E_Index : Int) (o_E_Gen : Int) (o_Gens : Sl) (o_Free : Sl) (w : World) (R : Bool → World → Prop) : Prop :=
  Nw (.cells #[.int .i64 o_Kind, .int .i64 o_N, .int .i64 o_A, .int .i64 o_E_Index, .int .i64 o_E_Gen, .slice o_Gens.a o_Gens.len o_Gens.cap, .slice o_Free.a o_Free.len o_Free.cap] 55) w fun (o : Addr) (w : World) =>
  Ld (.i .i64) w (o.add 1) fun (N : Int) =>
  c6 N 2 w fun (n_ : Int) (w : World) =>
  NN w_ fun (w_2 : Addr) =>
  IxA w_2 2 n_ 2 fun (a : Addr) =>
  Ld .p w a fun (x_p : Option Addr) => Ld .p w (a.add 1) fun (x_r : Option Addr) => 
  Nw (.cells #[.pointer none, .pointer none] 46) w fun (x : Addr) (w : World) =>
  St x (.pointer x_p) w fun (w : World) =>
  St (x.add 1) (.pointer x_r) w fun (w : World) =>
  Ld (.i .i64) w o fun (Kind : Int) =>
  if (Kind == 1) = true then (Ld .p w x fun (p : Option Addr) =>
  c9 p w fun (a_Index : Int) (a_Gen : Int) (e : Int) (w : World) =>
  Nw (.cells #[.int .i64 0, .int .i64 0] 31) w fun (a2 : Addr) (w : World) =>
  St a2 (.int .i64 a_Index) w fun (w : World) =>
  St (a2.add 1) (.int .i64 a_Gen) w fun (w : World) =>
  Ld .p w (x.add 1) fun (r : Option Addr) =>
  c20 r w fun (b_Index : Int) (b_Gen : Int) (f : Int) (w : World) =>
  Nw (.cells #[.int .i64 0, .int .i64 0] 31) w fun (b : Addr) (w : World) =>
  St b (.int .i64 b_Index) w fun (w : World) =>
  St (b.add 1) (.int .i64 b_Gen) w fun (w : World) =>
  Ld (.i .i64) w a2 fun (a_Index2 : Int) => Ld (.i .i64) w (a2.add 1) fun (a_Gen2 : Int) => 
  Ld (.i .i64) w b fun (b_Index2 : Int) => Ld (.i .i64) w (b.add 1) fun (b_Gen2 : Int) => 
  RunRo .b Try.prog (binSem .eql 31 (.tmp 45) (.tmp 46) (.agg #[.int .i64 a_Index2, .int .i64 a_Gen2]) (.agg #[.int .i64 b_Index2, .int .i64 b_Gen2])) w fun (eq : Bool) =>
  R (cond eq (e == f) false) w) else (if (Kind == 2) = true then (Dr w fun (w : World) =>
  Ld .p w x fun (p2 : Option Addr) =>
  Ld (.i .i64) w (o.add 3) fun (E_Index : Int) => Ld (.i .i64) w ((o.add 3).add 1) fun (E_Gen : Int) => 
  Ld .p w (x.add 1) fun (r2 : Option Addr) =>
  Ld (.i .i64) w (o.add 3) fun (E_Index2 : Int) => Ld (.i .i64) w ((o.add 3).add 1) fun (E_Gen2 : Int) => 
  c8 p2 E_Index E_Gen w fun (r3 : Int) (w : World) =>
  w.cell? (o.add 3) = some (.int .i64 E_Index2) ∧ w.cell? ((o.add 3).add 1) = some (.int .i64 E_Gen2) ∧ w.cell? (x.add 1) = some (.pointer r2) ∧ (c21 r2 E_Index2 E_Gen2 w fun (r4 : Int) (w : World) =>
  R (r3 == r4) w)) else (if (Kind == 3) = true then (Ld .p w (x.add 1) fun (r5 : Option Addr) =>
  c22 r5 w fun (l : Sl) (w : World) =>
  if ((l.len : Int) == 0) = true then (R true w) else (Ld (.i .i64) w (o.add 2) fun (A : Int) =>
  c6 A (l.len : Int) w fun (r6 : Int) (w : World) =>
  Ix l.a l.len r6 2 fun (a3 : Addr) =>
  Ld (.i .i64) w a3 fun (e_Index : Int) => Ld (.i .i64) w (a3.add 1) fun (e_Gen : Int) => 
  Nw (.cells #[.int .i64 0, .int .i64 0] 31) w fun (e2 : Addr) (w : World) =>
  St e2 (.int .i64 e_Index) w fun (w : World) =>
  St (e2.add 1) (.int .i64 e_Gen) w fun (w : World) =>
  Dr w fun (w : World) =>
  Ld .p w x fun (p3 : Option Addr) =>
  Ld (.i .i64) w e2 fun (e_Index2 : Int) => Ld (.i .i64) w (e2.add 1) fun (e_Gen2 : Int) => 
  Ld .p w (x.add 1) fun (r7 : Option Addr) =>
  Ld (.i .i64) w e2 fun (e_Index3 : Int) => Ld (.i .i64) w (e2.add 1) fun (e_Gen3 : Int) => 
  c8 p3 e_Index2 e_Gen2 w fun (r8 : Int) (w : World) =>
  w.cell? e2 = some (.int .i64 e_Index3) ∧ w.cell? (e2.add 1) = some (.int .i64 e_Gen3) ∧ w.cell? (x.add 1) = some (.pointer r7) ∧ (c21 r7 e_Index3 e_Gen3 w fun (r9 : Int) (w : World) =>
  R (r8 == r9) w))) else (if (Kind == 4) = true then (Ld .p w x fun (x_p2 : Option Addr) => Ld .p w (x.add 1) fun (x_r2 : Option Addr) => 
  Ld (.i .i64) w o fun (o_Kind2 : Int) => Ld (.i .i64) w (o.add 1) fun (o_N2 : Int) => Ld (.i .i64) w (o.add 2) fun (o_A2 : Int) => Ld (.i .i64) w (o.add 3) fun (o_E_Index2 : Int) => Ld (.i .i64) w (o.add 4) fun (o_E_Gen2 : Int) => Ld .sl w (o.add 5) fun (o_Gens2 : Sl) => Ld .sl w (o.add 6) fun (o_Free2 : Sl) => 
  c23 w_ x_p2 x_r2 o_Kind2 o_N2 o_A2 o_E_Index2 o_E_Gen2 o_Gens2 o_Free2 w fun (r10 : Bool) (w : World) =>
  R r10 w) else (if (Kind == 5) = true then (Ld .p w x fun (x_p3 : Option Addr) => Ld .p w (x.add 1) fun (x_r3 : Option Addr) => 
  c18 w_ x_p3 x_r3 w fun (r11 : Bool) (w : World) =>
  R r11 w) else (if (Kind == 6) = true then (Ld (.i .i64) w (o.add 2) fun (A2 : Int) =>
  Ld .sl w (o.add 5) fun (Gens : Sl) =>
  Ld .sl w (o.add 6) fun (Free : Sl) =>
  c24 A2 Gens Free w fun (y_p : Option Addr) (y_r : Option Addr) (ok : Bool) (w : World) =>
  Nw (.cells #[.pointer none, .pointer none] 46) w fun (y : Addr) (w : World) =>
  St y (.pointer y_p) w fun (w : World) =>
  St (y.add 1) (.pointer y_r) w fun (w : World) =>
  ∃ J_ : Bool → World → Prop, (if ok = true then (Ld .p w (y.add 1) fun (r12 : Option Addr) =>
  J_ (!r12.isNone) w) else (J_ false w)) ∧ ∀ t119 : Bool, ∀ w : World, J_ t119 w → (if t119 = true then (Dr w fun (w : World) =>
  Ld .p w y fun (y_p2 : Option Addr) => Ld .p w (y.add 1) fun (y_r2 : Option Addr) => 
  NN w_ fun (w_3 : Addr) =>
  IxA w_3 2 n_ 2 fun (a4 : Addr) =>
  St a4 (.pointer y_p2) w fun (w : World) =>
  St (a4.add 1) (.pointer y_r2) w fun (w : World) =>
  R ok w) else (R ok w))) else (if (Kind == 7) = true then (Dr w fun (w : World) =>
  Ld .p w x fun (p4 : Option Addr) =>
  Ld .p w (x.add 1) fun (r13 : Option Addr) =>
  FlS [(.cells #[.pointer none, .pointer none] 46, none)] w fun (y2 : Option Addr) (w : World) =>
  c25 p4 w fun (r14 : Option Addr) (w : World) =>
  w.cell? (x.add 1) = some (.pointer r13) ∧ (FlS [(.cells #[.pointer none, .pointer none] 46, y2)] w fun (y3 : Option Addr) (w : World) =>
  c26 r13 w fun (r15 : Option Addr) (w : World) =>
  FlS [(.cells #[.pointer none, .pointer none] 46, y3)] w fun (y4 : Option Addr) (w : World) =>
  Need y4 fun (y5 : Addr) =>
  St y5 (.pointer r14) w fun (w : World) =>
  St (y5.add 1) (.pointer r15) w fun (w : World) =>
  Ld .p w y5 fun (p5 : Option Addr) =>
  if p5.isNone = true then (R false w) else (Dr w fun (w : World) =>
  Ld .p w y5 fun (y_p3 : Option Addr) => Ld .p w (y5.add 1) fun (y_r3 : Option Addr) => 
  NN w_ fun (w_4 : Addr) =>
  IxA w_4 2 (IntKind.i64.wrap (1 - n_)) 2 fun (a5 : Addr) =>
  St a5 (.pointer y_p3) w fun (w : World) =>
  St (a5.add 1) (.pointer y_r3) w fun (w : World) =>
  R true w))) else (if (Kind == 8) = true then (Ld .p w x fun (p6 : Option Addr) =>
  c13 p6 w fun (gens : Sl) (free : Sl) (w : World) =>
  Dr w fun (w : World) =>
  Ld .p w (x.add 1) fun (r16 : Option Addr) =>
  NN r16 fun (a6 : Addr) =>
  Ld (.i .i64) w a6 fun (Most : Int) =>
  FlS [(.cells #[] 3, none), (.cells #[] 3, none), (.cells #[.pointer none, .pointer none] 46, none)] w fun (y6 : Option Addr) (y7 : Option Addr) (y8 : Option Addr) (w : World) =>
  Need y6 fun (a7 : Addr) =>
  FlS [(.cells #[] 3, y7), (.cells #[.pointer none, .pointer none] 46, y8)] w fun (y9 : Option Addr) (y10 : Option Addr) (w : World) =>
  Run .sl Try.prog (Builtin.append_ #[22, 22] 22 #[.slice (some a7) 0 0, .slice gens.a gens.len gens.cap]) w fun (s : Sl) (w : World) =>
  w.cell? a6 = some (.int .i64 Most) ∧ w.cell? (x.add 1) = some (.pointer r16) ∧ (FlS [(.cells #[] 3, y9), (.cells #[.pointer none, .pointer none] 46, y10)] w fun (y11 : Option Addr) (y12 : Option Addr) (w : World) =>
  Need y11 fun (a8 : Addr) =>
  FlS [(.cells #[.pointer none, .pointer none] 46, y12)] w fun (y13 : Option Addr) (w : World) =>
  Run .sl Try.prog (Builtin.append_ #[22, 22] 22 #[.slice (some a8) 0 0, .slice free.a free.len free.cap]) w fun (s2 : Sl) (w : World) =>
  w.cell? a6 = some (.int .i64 Most) ∧ w.cell? (x.add 1) = some (.pointer r16) ∧ (FlS [(.cells #[.pointer none, .pointer none] 46, y13)] w fun (y14 : Option Addr) (w : World) =>
  c24 Most s s2 w fun (y_p4 : Option Addr) (y_r4 : Option Addr) (ok2 : Bool) (w : World) =>
  FlS [(.cells #[.pointer none, .pointer none] 46, y14)] w fun (y15 : Option Addr) (w : World) =>
  Need y15 fun (y16 : Addr) =>
  St y16 (.pointer y_p4) w fun (w : World) =>
  St (y16.add 1) (.pointer y_r4) w fun (w : World) =>
  ∃ J_2 : World → Prop, (if (!ok2) = true then (R false w) else (Ld .p w (y16.add 1) fun (r17 : Option Addr) =>
  if r17.isNone = true then (R false w) else (J_2  w))) ∧ ∀ w : World, J_2  w → (Dr w fun (w : World) =>
  Ld .p w y16 fun (y_p5 : Option Addr) => Ld .p w (y16.add 1) fun (y_r5 : Option Addr) => 
  NN w_ fun (w_5 : Addr) =>
  IxA w_5 2 n_ 2 fun (a9 : Addr) =>
  St a9 (.pointer y_p5) w fun (w : World) =>
  St (a9.add 1) (.pointer y_r5) w fun (w : World) =>
  R true w)))) else (R true w))))))))

theorem f16_eq (w_ : Option Addr) (o_Kind : Int) (o_N : Int) (o_A : Int) (o_E_Index : Int) (o_E_Gen : Int) (o_Gens : Sl) (o_Free : Sl) (w : World) (R : Bool → World → Prop) :
    f16 w_ o_Kind o_N o_A o_E_Index o_E_Gen o_Gens o_Free w R = dFunc Try.prog ⟨[], [(23, ⟨[(119, .b)], [0, 5, 13, 14]⟩), (35, ⟨[], [0, 5, 18]⟩)]⟩ Try.f16 [.pointer w_, .agg #[.int .i64 o_Kind, .int .i64 o_N, .int .i64 o_A, .int .i64 o_E_Index, .int .i64 o_E_Gen, .slice o_Gens.a o_Gens.len o_Gens.cap, .slice o_Free.a o_Free.len o_Free.cap]] (fun v w' => viewRet [.one .b] v R w') w := by kernel_rfl

theorem c16_of {w_ : Option Addr} {o_Kind : Int} {o_N : Int} {o_A : Int} {o_E_Index : Int} {o_E_Gen : Int} {o_Gens : Sl} {o_Free : Sl} {w : World} {R : Bool → World → Prop} (h : f16 w_ o_Kind o_N o_A o_E_Index o_E_Gen o_Gens o_Free w R) : c16 w_ o_Kind o_N o_A o_E_Index o_E_Gen o_Gens o_Free w R :=
  callK_of okP Try.func16 (by rw [← f16_eq]; exact h)

/-- (*hindcast/hindcastlaw04.world).looks. -/
def f17 (w_ : Option Addr) (w : World) (R : Bool → World → Prop) : Prop :=
  ∃ Inv_ : Int → Nat → World → Prop, (∃ n : Nat, Inv_ 0 n w) ∧ ∀ i : Int, ∀ m : Nat, ∀ w : World, Inv_ i m w → (NN w_ fun (w_2 : Addr) =>
  Ld .sl w (w_2.add 4) fun (l : Sl) =>
  if (decide (i < (l.len : Int))) = true then (NN w_ fun (w_3 : Addr) =>
  Ld .sl w (w_3.add 4) fun (l2 : Sl) =>
  Ix l2.a l2.len i 3 fun (a : Addr) =>
  Ld .sl w a fun (x_a : Sl) => Ld .sl w (a.add 1) fun (x_e : Sl) => Ld (.i .i64) w (a.add 2) fun (x_mark : Int) => 
  Nw (.cells #[.slice none 0 0, .slice none 0 0, .int .i64 0] 70) w fun (x : Addr) (w : World) =>
  St x (.slice x_a.a x_a.len x_a.cap) w fun (w : World) =>
  St (x.add 1) (.slice x_e.a x_e.len x_e.cap) w fun (w : World) =>
  St (x.add 2) (.int .i64 x_mark) w fun (w : World) =>
  ∃ Inv_2 : Int → Nat → World → Prop, (∃ n : Nat, Inv_2 0 n w) ∧ ∀ k : Int, ∀ m3 : Nat, ∀ w : World, Inv_2 k m3 w → (Ld .sl w x fun (a2 : Sl) =>
  if (decide (k < (a2.len : Int))) = true then (Dr w fun (w : World) =>
  Ld .sl w x fun (a3 : Sl) =>
  Ix a3.a a3.len k 1 fun (a4 : Addr) =>
  Ld (.i .i64) w a4 fun (x2 : Int) =>
  Ld (.i .i64) w (x.add 2) fun (mark : Int) =>
  if (x2 != mark) = true then (R false w) else (∃ m4 : Nat, m4 < m3 ∧ Inv_2 (IntKind.i64.wrap (k + 1)) m4 w)) else (∃ Inv_3 : Int → Nat → World → Prop, (∃ n : Nat, Inv_3 0 n w) ∧ ∀ k2 : Int, ∀ m5 : Nat, ∀ w : World, Inv_3 k2 m5 w → (Ld .sl w (x.add 1) fun (e : Sl) =>
  if (decide (k2 < (e.len : Int))) = true then (Dr w fun (w : World) =>
  Ld .sl w (x.add 1) fun (e2 : Sl) =>
  Ix e2.a e2.len k2 2 fun (a5 : Addr) =>
  Ld (.i .i64) w a5 fun (x_Index : Int) => Ld (.i .i64) w (a5.add 1) fun (x_Gen : Int) => 
  Ld (.i .i64) w (x.add 2) fun (mark2 : Int) =>
  Ld (.i .i64) w (x.add 2) fun (mark3 : Int) =>
  RunRo .b Try.prog (binSem .neq 31 (.tmp 49) (.tmp 54) (.agg #[.int .i64 x_Index, .int .i64 x_Gen]) (.agg #[.int .i64 mark2, .int .i64 mark3])) w fun (eq : Bool) =>
  if eq = true then (R false w) else (∃ m6 : Nat, m6 < m5 ∧ Inv_3 (IntKind.i64.wrap (k2 + 1)) m6 w)) else (∃ m2 : Nat, m2 < m ∧ Inv_ (IntKind.i64.wrap (i + 1)) m2 w))))) else (R true w))

theorem f17_eq (w_ : Option Addr) (w : World) (R : Bool → World → Prop) :
    f17 w_ w R = dFunc Try.prog ⟨[(2, ⟨[(3, .i .i64)], [0]⟩), (6, ⟨[(5, .i .i64)], [0, 3, 4]⟩), (11, ⟨[(6, .i .i64)], [0, 3, 4]⟩)], []⟩ Try.f17 [.pointer w_] (fun v w' => viewRet [.one .b] v R w') w := by kernel_rfl

theorem c17_of {w_ : Option Addr} {w : World} {R : Bool → World → Prop} (h : f17 w_ w R) : c17 w_ w R :=
  callK_of okP Try.func17 (by rw [← f17_eq]; exact h)

/-- (*hindcast/hindcastlaw04.world).state. -/
def f18 (w_ : Option Addr) (x_p : Option Addr) (x_r : Option Addr) (w : World) (R : Bool → World → Prop) : Prop :=
  Nw (.cells #[.pointer x_p, .pointer x_r] 46) w fun (x : Addr) (w : World) =>
  Ld .p w x fun (p : Option Addr) =>
  c13 p w fun (a : Sl) (b : Sl) (w : World) =>
  Ld .p w (x.add 1) fun (r : Option Addr) =>
  c27 r w fun (c : Sl) (d : Sl) (w : World) =>
  c28 a c w fun (one : Bool) (w : World) =>
  c28 b d w fun (two : Bool) (w : World) =>
  Ld .p w x fun (p2 : Option Addr) =>
  c13 p2 w fun (e : Sl) (f : Sl) (w : World) =>
  c28 e c w fun (three : Bool) (w : World) =>
  c28 f d w fun (four : Bool) (w : World) =>
  Nw (.cells #[.slice a.a a.len a.cap, .slice b.a b.len b.cap, .slice e.a e.len e.cap, .slice f.a f.len f.cap] 22) w fun (b2 : Addr) (w : World) =>
  c29 w_ ⟨some b2, 4, 4⟩ ⟨none, 0, 0⟩ w fun  (w : World) =>
  R (cond (cond (cond one two false) three false) four false) w

theorem f18_eq (w_ : Option Addr) (x_p : Option Addr) (x_r : Option Addr) (w : World) (R : Bool → World → Prop) :
    f18 w_ x_p x_r w R = dFunc Try.prog ⟨[], []⟩ Try.f18 [.pointer w_, .agg #[.pointer x_p, .pointer x_r]] (fun v w' => viewRet [.one .b] v R w') w := by kernel_rfl

theorem c18_of {w_ : Option Addr} {x_p : Option Addr} {x_r : Option Addr} {w : World} {R : Bool → World → Prop} (h : f18 w_ x_p x_r w R) : c18 w_ x_p x_r w R :=
  callK_of okP Try.func18 (by rw [← f18_eq]; exact h)

/-- slices.Clone[[]int,int]. -/
def f19 (s : Sl) (w : World) (R : Sl → World → Prop) : Prop :=
  if s.a.isNone = true then (R ⟨none, 0, 0⟩ w) else (Nw (.cells #[] 3) w fun (b : Addr) (w : World) =>
  Run .sl Try.prog (Builtin.append_ #[22, 22] 22 #[.slice (some b) 0 0, .slice s.a s.len s.cap]) w fun (s2 : Sl) (w : World) =>
  R s2 w)

theorem f19_eq (s : Sl) (w : World) (R : Sl → World → Prop) :
    f19 s w R = dFunc Try.prog ⟨[], []⟩ Try.f19 [.slice s.a s.len s.cap] (fun v w' => viewRet [.one .sl] v R w') w := by kernel_rfl

theorem c19_of {s : Sl} {w : World} {R : Sl → World → Prop} (h : f19 s w R) : c19 s w R :=
  callK_of okP Try.func19 (by rw [← f19_eq]; exact h)

/-- (*hindcast/hindcastref04.Pool).Take. -/
def f20 (p : Option Addr) (w : World) (R : Int → Int → Int → World → Prop) : Prop :=
  Nw (.cells #[.int .i64 0, .int .i64 0] 31) w fun (a : Addr) (w : World) =>
  NN p fun (p_ : Addr) =>
  Ld .sl w (p_.add 3) fun (Free : Sl) =>
  if (decide ((Free.len : Int) > 0)) = true then (NN p fun (p_2 : Addr) =>
  Ld .sl w (p_2.add 3) fun (Free2 : Sl) =>
  Ix Free2.a Free2.len 0 1 fun (a2 : Addr) =>
  Ld (.i .i64) w a2 fun (i : Int) =>
  NN p fun (p_3 : Addr) =>
  Ld .sl w (p_3.add 3) fun (Free3 : Sl) =>
  Cut ⟨Free3.a, Free3.len, Free3.cap⟩ 1 (Free3.len : Int) (Free3.cap : Int) 1 fun (s : Sl) =>
  NN p fun (p_4 : Addr) =>
  St (p_4.add 3) (.slice s.a s.len s.cap) w fun (w : World) =>
  NN p fun (p_5 : Addr) =>
  Ld .sl w (p_5.add 1) fun (Gens : Sl) =>
  Ix Gens.a Gens.len i 1 fun (a3 : Addr) =>
  Ld (.i .i64) w a3 fun (x : Int) =>
  Ix Gens.a Gens.len i 1 fun (a4 : Addr) =>
  St a4 (.int .i64 (IntKind.i64.wrap (x + 1))) w fun (w : World) =>
  NN p fun (p_6 : Addr) =>
  Ld .sl w (p_6.add 2) fun (On : Sl) =>
  Ix On.a On.len i 1 fun (a5 : Addr) =>
  St a5 (.bool true) w fun (w : World) =>
  NN p fun (p_7 : Addr) =>
  Ld .sl w (p_7.add 1) fun (Gens2 : Sl) =>
  Ix Gens2.a Gens2.len i 1 fun (a6 : Addr) =>
  Ld (.i .i64) w a6 fun (x2 : Int) =>
  St a (.int .i64 i) w fun (w : World) =>
  St (a.add 1) (.int .i64 x2) w fun (w : World) =>
  Ld (.i .i64) w a fun (r_Index : Int) => Ld (.i .i64) w (a.add 1) fun (r_Gen : Int) => 
  R r_Index r_Gen 0 w) else (Dr w fun (w : World) =>
  NN p fun (p_8 : Addr) =>
  Ld .sl w (p_8.add 1) fun (Gens3 : Sl) =>
  NN p fun (p_9 : Addr) =>
  Ld (.i .i64) w p_9 fun (Most : Int) =>
  if (decide ((Gens3.len : Int) ≥ Most)) = true then (St a (.int .i64 0) w fun (w : World) =>
  St (a.add 1) (.int .i64 0) w fun (w : World) =>
  Ld (.i .i64) w a fun (r_Index2 : Int) => Ld (.i .i64) w (a.add 1) fun (r_Gen2 : Int) => 
  R r_Index2 r_Gen2 40 w) else (NN p fun (p_10 : Addr) =>
  Ld .sl w (p_10.add 1) fun (Gens4 : Sl) =>
  Nw (.cells #[.int .i64 1] 3) w fun (b : Addr) (w : World) =>
  Run .sl Try.prog (Builtin.append_ #[22, 22] 22 #[.slice Gens4.a Gens4.len Gens4.cap, .slice (some b) 1 1]) w fun (s2 : Sl) (w : World) =>
  NN p fun (p_11 : Addr) =>
  St (p_11.add 1) (.slice s2.a s2.len s2.cap) w fun (w : World) =>
  NN p fun (p_12 : Addr) =>
  Ld .sl w (p_12.add 2) fun (On2 : Sl) =>
  Nw (.cells #[.bool true] 4) w fun (b2 : Addr) (w : World) =>
  Run .sl Try.prog (Builtin.append_ #[58, 58] 58 #[.slice On2.a On2.len On2.cap, .slice (some b2) 1 1]) w fun (s3 : Sl) (w : World) =>
  NN p fun (p_13 : Addr) =>
  St (p_13.add 2) (.slice s3.a s3.len s3.cap) w fun (w : World) =>
  NN p fun (p_14 : Addr) =>
  Ld .sl w (p_14.add 1) fun (Gens5 : Sl) =>
  St a (.int .i64 (IntKind.i64.wrap ((Gens5.len : Int) - 1))) w fun (w : World) =>
  St (a.add 1) (.int .i64 1) w fun (w : World) =>
  Ld (.i .i64) w a fun (r_Index3 : Int) => Ld (.i .i64) w (a.add 1) fun (r_Gen3 : Int) => 
  R r_Index3 r_Gen3 0 w))

theorem f20_eq (p : Option Addr) (w : World) (R : Int → Int → Int → World → Prop) :
    f20 p w R = dFunc Try.prog ⟨[], []⟩ Try.f20 [.pointer p] (fun v w' => viewRet [.agg [.i .i64, .i .i64], .one (.i .i64)] v R w') w := by kernel_rfl

theorem c20_of {p : Option Addr} {w : World} {R : Int → Int → Int → World → Prop} (h : f20 p w R) : c20 p w R :=
  callK_of okP Try.func20 (by rw [← f20_eq]; exact h)

/-- (*hindcast/hindcastref04.Pool).Give. -/
def f21 (p : Option Addr) (e_Index : Int) (e_Gen : Int) (w : World) (R : Int → World → Prop) : Prop :=
  Nw (.cells #[.int .i64 e_Index, .int .i64 e_Gen] 31) w fun (e : Addr) (w : World) =>
  Ld (.i .i64) w e fun (e_Index2 : Int) => Ld (.i .i64) w (e.add 1) fun (e_Gen2 : Int) => 
  c30 p e_Index2 e_Gen2 w fun (lives : Bool) (w : World) =>
  if (!lives) = true then (R 41 w) else (Dr w fun (w : World) =>
  NN p fun (p_ : Addr) =>
  Ld .sl w (p_.add 2) fun (On : Sl) =>
  Ld (.i .i64) w e fun (Index : Int) =>
  Ix On.a On.len Index 1 fun (a : Addr) =>
  St a (.bool false) w fun (w : World) =>
  Ld (.i .i64) w (e.add 1) fun (Gen : Int) =>
  if (decide (Gen < 1000000)) = true then (NN p fun (p_2 : Addr) =>
  Ld .sl w (p_2.add 3) fun (Free : Sl) =>
  Run .sl Try.prog (Builtin.append_ #[22, 22] 22 #[.slice none 0 0, .slice Free.a Free.len Free.cap]) w fun (free : Sl) (w : World) =>
  Ld (.i .i64) w e fun (Index2 : Int) =>
  Nw (.cells #[.int .i64 Index2] 3) w fun (b : Addr) (w : World) =>
  Run .sl Try.prog (Builtin.append_ #[22, 22] 22 #[.slice free.a free.len free.cap, .slice (some b) 1 1]) w fun (s : Sl) (w : World) =>
  NN p fun (p_3 : Addr) =>
  St (p_3.add 3) (.slice s.a s.len s.cap) w fun (w : World) =>
  R 0 w) else (R 0 w))

theorem f21_eq (p : Option Addr) (e_Index : Int) (e_Gen : Int) (w : World) (R : Int → World → Prop) :
    f21 p e_Index e_Gen w R = dFunc Try.prog ⟨[], []⟩ Try.f21 [.pointer p, .agg #[.int .i64 e_Index, .int .i64 e_Gen]] (fun v w' => viewRet [.one (.i .i64)] v R w') w := by kernel_rfl

theorem c21_of {p : Option Addr} {e_Index : Int} {e_Gen : Int} {w : World} {R : Int → World → Prop} (h : f21 p e_Index e_Gen w R) : c21 p e_Index e_Gen w R :=
  callK_of okP Try.func21 (by rw [← f21_eq]; exact h)

/-- (*hindcast/hindcastref04.Pool).All. -/
def f22 (p : Option Addr) (w : World) (R : Sl → World → Prop) : Prop :=
  ∃ Inv_ : Sl → Int → Nat → World → Prop, (∃ n : Nat, Inv_ ⟨none, 0, 0⟩ 0 n w) ∧ ∀ out : Sl, ∀ i : Int, ∀ m : Nat, ∀ w : World, Inv_ out i m w → (NN p fun (p_ : Addr) =>
  Ld .sl w (p_.add 1) fun (Gens : Sl) =>
  if (decide (i < (Gens.len : Int))) = true then (NN p fun (p_2 : Addr) =>
  Ld .sl w (p_2.add 2) fun (On : Sl) =>
  Ix On.a On.len i 1 fun (a : Addr) =>
  Ld .b w a fun (x : Bool) =>
  if x = true then (NN p fun (p_3 : Addr) =>
  Ld .sl w (p_3.add 1) fun (Gens2 : Sl) =>
  Ix Gens2.a Gens2.len i 1 fun (a2 : Addr) =>
  Ld (.i .i64) w a2 fun (x2 : Int) =>
  Nw (.cells #[.int .i64 i, .int .i64 x2] 31) w fun (b : Addr) (w : World) =>
  Run .sl Try.prog (Builtin.append_ #[29, 29] 29 #[.slice out.a out.len out.cap, .slice (some b) 1 1]) w fun (out2 : Sl) (w : World) =>
  ∃ m2 : Nat, m2 < m ∧ Inv_ out2 (IntKind.i64.wrap (i + 1)) m2 w) else (∃ m2 : Nat, m2 < m ∧ Inv_ out (IntKind.i64.wrap (i + 1)) m2 w)) else (R out w))

theorem f22_eq (p : Option Addr) (w : World) (R : Sl → World → Prop) :
    f22 p w R = dFunc Try.prog ⟨[(3, ⟨[(3, .sl), (4, .i .i64)], [0]⟩)], []⟩ Try.f22 [.pointer p] (fun v w' => viewRet [.one .sl] v R w') w := by kernel_rfl

theorem c22_of {p : Option Addr} {w : World} {R : Sl → World → Prop} (h : f22 p w R) : c22 p w R :=
  callK_of okP Try.func22 (by rw [← f22_eq]; exact h)

/-- (*hindcast/hindcastlaw04.world).look. -/
def f23 (w_ : Option Addr) (x_p : Option Addr) (x_r : Option Addr) (o_Kind : Int) (o_N : Int) (o_A : Int) (o_E_Index : Int) (o_E_Gen : Int) (o_Gens : Sl) (o_Free : Sl) (w : World) (R : Bool → World → Prop) : Prop :=
  Nw (.cells #[.pointer x_p, .pointer x_r] 46) w fun (x : Addr) (w : World) =>
  Nw (.cells #[.int .i64 o_Kind, .int .i64 o_N, .int .i64 o_A, .int .i64 o_E_Index, .int .i64 o_E_Gen, .slice o_Gens.a o_Gens.len o_Gens.cap, .slice o_Free.a o_Free.len o_Free.cap] 55) w fun (o : Addr) (w : World) =>
  Dr w fun (w : World) =>
  Ld .p w x fun (p : Option Addr) =>
  Ld (.i .i64) w (o.add 3) fun (E_Index : Int) => Ld (.i .i64) w ((o.add 3).add 1) fun (E_Gen : Int) => 
  Ld .p w (x.add 1) fun (r : Option Addr) =>
  Ld (.i .i64) w (o.add 3) fun (E_Index2 : Int) => Ld (.i .i64) w ((o.add 3).add 1) fun (E_Gen2 : Int) => 
  c12 p E_Index E_Gen w fun (r2 : Bool) (w : World) =>
  w.cell? (o.add 3) = some (.int .i64 E_Index2) ∧ w.cell? ((o.add 3).add 1) = some (.int .i64 E_Gen2) ∧ w.cell? (x.add 1) = some (.pointer r) ∧ (c30 r E_Index2 E_Gen2 w fun (r3 : Bool) (w : World) =>
  if (!(r2 == r3)) = true then (R false w) else (Ld .p w x fun (p2 : Option Addr) =>
  Ld (.i .i64) w (o.add 2) fun (A : Int) =>
  c11 p2 A w fun (a_Index : Int) (a_Gen : Int) (e : Int) (w : World) =>
  Nw (.cells #[.int .i64 0, .int .i64 0] 31) w fun (a : Addr) (w : World) =>
  St a (.int .i64 a_Index) w fun (w : World) =>
  St (a.add 1) (.int .i64 a_Gen) w fun (w : World) =>
  Ld .p w (x.add 1) fun (r4 : Option Addr) =>
  Ld (.i .i64) w (o.add 2) fun (A2 : Int) =>
  c31 r4 A2 w fun (b_Index : Int) (b_Gen : Int) (f : Int) (w : World) =>
  Nw (.cells #[.int .i64 0, .int .i64 0] 31) w fun (b : Addr) (w : World) =>
  St b (.int .i64 b_Index) w fun (w : World) =>
  St (b.add 1) (.int .i64 b_Gen) w fun (w : World) =>
  Ld .p w x fun (p3 : Option Addr) =>
  c10 p3 w fun (l : Sl) (w : World) =>
  Ld .p w (x.add 1) fun (r5 : Option Addr) =>
  c22 r5 w fun (m : Sl) (w : World) =>
  Ld (.i .i64) w a fun (a_Index2 : Int) => Ld (.i .i64) w (a.add 1) fun (a_Gen2 : Int) => 
  Ld (.i .i64) w b fun (b_Index2 : Int) => Ld (.i .i64) w (b.add 1) fun (b_Gen2 : Int) => 
  RunRo .b Try.prog (binSem .eql 31 (.tmp 50) (.tmp 51) (.agg #[.int .i64 a_Index2, .int .i64 a_Gen2]) (.agg #[.int .i64 b_Index2, .int .i64 b_Gen2])) w fun (eq : Bool) =>
  ∃ Inv_ : Bool → Int → Nat → World → Prop, (∃ n : Nat, Inv_ (cond (cond eq (e == f) false) ((l.len : Int) == (m.len : Int)) false) 0 n w) ∧ ∀ ok : Bool, ∀ i : Int, ∀ m2 : Nat, ∀ w : World, Inv_ ok i m2 w → (if (cond (decide (i < (l.len : Int))) ok false) = true then (Dr w fun (w : World) =>
  Ix l.a l.len i 2 fun (a2 : Addr) =>
  Ld (.i .i64) w a2 fun (x_Index : Int) => Ld (.i .i64) w (a2.add 1) fun (x_Gen : Int) => 
  Ix m.a m.len i 2 fun (a3 : Addr) =>
  Ld (.i .i64) w a3 fun (x_Index2 : Int) => Ld (.i .i64) w (a3.add 1) fun (x_Gen2 : Int) => 
  RunRo .b Try.prog (binSem .eql 31 (.tmp 77) (.tmp 81) (.agg #[.int .i64 x_Index, .int .i64 x_Gen]) (.agg #[.int .i64 x_Index2, .int .i64 x_Gen2])) w fun (eq2 : Bool) =>
  ∃ m3 : Nat, m3 < m2 ∧ Inv_ eq2 (IntKind.i64.wrap (i + 1)) m3 w) else (Ld .p w x fun (p4 : Option Addr) =>
  c10 p4 w fun (k : Sl) (w : World) =>
  ∃ Inv_2 : Bool → Int → Nat → World → Prop, (∃ n : Nat, Inv_2 (cond ok ((k.len : Int) == (m.len : Int)) false) 0 n w) ∧ ∀ ok2 : Bool, ∀ i2 : Int, ∀ m4 : Nat, ∀ w : World, Inv_2 ok2 i2 m4 w → (if (cond (decide (i2 < (k.len : Int))) ok2 false) = true then (Dr w fun (w : World) =>
  Ix k.a k.len i2 2 fun (a4 : Addr) =>
  Ld (.i .i64) w a4 fun (x_Index3 : Int) => Ld (.i .i64) w (a4.add 1) fun (x_Gen3 : Int) => 
  Ix m.a m.len i2 2 fun (a5 : Addr) =>
  Ld (.i .i64) w a5 fun (x_Index4 : Int) => Ld (.i .i64) w (a5.add 1) fun (x_Gen4 : Int) => 
  RunRo .b Try.prog (binSem .eql 31 (.tmp 106) (.tmp 110) (.agg #[.int .i64 x_Index3, .int .i64 x_Gen3]) (.agg #[.int .i64 x_Index4, .int .i64 x_Gen4])) w fun (eq3 : Bool) =>
  ∃ m5 : Nat, m5 < m4 ∧ Inv_2 eq3 (IntKind.i64.wrap (i2 + 1)) m5 w) else (Nw (.cells #[.slice l.a l.len l.cap, .slice k.a k.len k.cap] 29) w fun (b2 : Addr) (w : World) =>
  c29 w_ ⟨none, 0, 0⟩ ⟨some b2, 2, 2⟩ w fun  (w : World) =>
  R ok2 w))))))

theorem f23_eq (w_ : Option Addr) (x_p : Option Addr) (x_r : Option Addr) (o_Kind : Int) (o_N : Int) (o_A : Int) (o_E_Index : Int) (o_E_Gen : Int) (o_Gens : Sl) (o_Free : Sl) (w : World) (R : Bool → World → Prop) :
    f23 w_ x_p x_r o_Kind o_N o_A o_E_Index o_E_Gen o_Gens o_Free w R = dFunc Try.prog ⟨[(9, ⟨[(13, .b), (14, .i .i64)], [0, 4, 11, 12]⟩), (15, ⟨[(13, .b), (16, .i .i64)], [0, 11, 12, 15]⟩)], []⟩ Try.f23 [.pointer w_, .agg #[.pointer x_p, .pointer x_r], .agg #[.int .i64 o_Kind, .int .i64 o_N, .int .i64 o_A, .int .i64 o_E_Index, .int .i64 o_E_Gen, .slice o_Gens.a o_Gens.len o_Gens.cap, .slice o_Free.a o_Free.len o_Free.cap]] (fun v w' => viewRet [.one .b] v R w') w := by kernel_rfl

theorem c23_of {w_ : Option Addr} {x_p : Option Addr} {x_r : Option Addr} {o_Kind : Int} {o_N : Int} {o_A : Int} {o_E_Index : Int} {o_E_Gen : Int} {o_Gens : Sl} {o_Free : Sl} {w : World} {R : Bool → World → Prop} (h : f23 w_ x_p x_r o_Kind o_N o_A o_E_Index o_E_Gen o_Gens o_Free w R) : c23 w_ x_p x_r o_Kind o_N o_A o_E_Index o_E_Gen o_Gens o_Free w R :=
  callK_of okP Try.func23 (by rw [← f23_eq]; exact h)

/-- hindcast/hindcastlaw04.from. -/
def f24 (most : Int) (gens : Sl) (free : Sl) (w : World) (R : Option Addr → Option Addr → Bool → World → Prop) : Prop :=
  Nw (.cells #[.pointer none, .pointer none] 46) w fun (a : Addr) (w : World) =>
  Mk [.int .i64 0] 3 8 (IntKind.i64.wrap ((gens.len : Int) + 8)) (IntKind.i64.wrap ((gens.len : Int) + 8)) w fun (a2 : Sl) (w : World) =>
  Mk [.int .i64 0] 3 8 (IntKind.i64.wrap ((free.len : Int) + 8)) (IntKind.i64.wrap ((free.len : Int) + 8)) w fun (b : Sl) (w : World) =>
  Run (.i .i64) Try.prog (Builtin.copy_ #[22, 22] 3 #[.slice a2.a a2.len a2.cap, .slice gens.a gens.len gens.cap]) w fun (n_ : Int) (w : World) =>
  Run (.i .i64) Try.prog (Builtin.copy_ #[22, 22] 3 #[.slice b.a b.len b.cap, .slice free.a free.len free.cap]) w fun (n_2 : Int) (w : World) =>
  Dr w fun (w : World) =>
  Cut ⟨a2.a, a2.len, a2.cap⟩ 0 (gens.len : Int) (a2.cap : Int) 1 fun (s : Sl) =>
  Cut ⟨b.a, b.len, b.cap⟩ 0 (free.len : Int) (b.cap : Int) 1 fun (s2 : Sl) =>
  c14 most s s2 w fun (p : Option Addr) (e : Int) (w : World) =>
  c32 most gens free w fun (r : Option Addr) (f : Int) (w : World) =>
  ∃ Inv_ : Bool → Int → Nat → World → Prop, (∃ n : Nat, Inv_ (cond (e == f) (p.isNone == r.isNone) false) 0 n w) ∧ ∀ ok : Bool, ∀ i : Int, ∀ m : Nat, ∀ w : World, Inv_ ok i m w → (if (decide (i < (a2.len : Int))) = true then (Dr w fun (w : World) =>
  if ok = true then (if (decide (i < (gens.len : Int))) = true then (Ix a2.a a2.len i 1 fun (a3 : Addr) =>
  Ld (.i .i64) w a3 fun (x : Int) =>
  Ix gens.a gens.len i 1 fun (a4 : Addr) =>
  Ld (.i .i64) w a4 fun (x2 : Int) =>
  if (x == x2) = true then (Ix a2.a a2.len i 1 fun (a5 : Addr) =>
  St a5 (.int .i64 (-7)) w fun (w : World) =>
  ∃ m2 : Nat, m2 < m ∧ Inv_ true (IntKind.i64.wrap (i + 1)) m2 w) else (if (decide (i ≥ (gens.len : Int))) = true then (Ix a2.a a2.len i 1 fun (a6 : Addr) =>
  Ld (.i .i64) w a6 fun (x3 : Int) =>
  Ix a2.a a2.len i 1 fun (a7 : Addr) =>
  St a7 (.int .i64 (-7)) w fun (w : World) =>
  ∃ m2 : Nat, m2 < m ∧ Inv_ (x3 == 0) (IntKind.i64.wrap (i + 1)) m2 w) else (Ix a2.a a2.len i 1 fun (a8 : Addr) =>
  St a8 (.int .i64 (-7)) w fun (w : World) =>
  ∃ m2 : Nat, m2 < m ∧ Inv_ false (IntKind.i64.wrap (i + 1)) m2 w))) else (if (decide (i ≥ (gens.len : Int))) = true then (Ix a2.a a2.len i 1 fun (a9 : Addr) =>
  Ld (.i .i64) w a9 fun (x4 : Int) =>
  Ix a2.a a2.len i 1 fun (a10 : Addr) =>
  St a10 (.int .i64 (-7)) w fun (w : World) =>
  ∃ m2 : Nat, m2 < m ∧ Inv_ (x4 == 0) (IntKind.i64.wrap (i + 1)) m2 w) else (Ix a2.a a2.len i 1 fun (a11 : Addr) =>
  St a11 (.int .i64 (-7)) w fun (w : World) =>
  ∃ m2 : Nat, m2 < m ∧ Inv_ false (IntKind.i64.wrap (i + 1)) m2 w))) else (Ix a2.a a2.len i 1 fun (a12 : Addr) =>
  St a12 (.int .i64 (-7)) w fun (w : World) =>
  ∃ m2 : Nat, m2 < m ∧ Inv_ false (IntKind.i64.wrap (i + 1)) m2 w)) else (∃ Inv_2 : Bool → Int → Nat → World → Prop, (∃ n : Nat, Inv_2 ok 0 n w) ∧ ∀ ok2 : Bool, ∀ i2 : Int, ∀ m3 : Nat, ∀ w : World, Inv_2 ok2 i2 m3 w → (if (decide (i2 < (b.len : Int))) = true then (Dr w fun (w : World) =>
  if ok2 = true then (if (decide (i2 < (free.len : Int))) = true then (Ix b.a b.len i2 1 fun (a13 : Addr) =>
  Ld (.i .i64) w a13 fun (x5 : Int) =>
  Ix free.a free.len i2 1 fun (a14 : Addr) =>
  Ld (.i .i64) w a14 fun (x6 : Int) =>
  if (x5 == x6) = true then (Ix b.a b.len i2 1 fun (a15 : Addr) =>
  St a15 (.int .i64 (-7)) w fun (w : World) =>
  ∃ m4 : Nat, m4 < m3 ∧ Inv_2 true (IntKind.i64.wrap (i2 + 1)) m4 w) else (if (decide (i2 ≥ (free.len : Int))) = true then (Ix b.a b.len i2 1 fun (a16 : Addr) =>
  Ld (.i .i64) w a16 fun (x7 : Int) =>
  Ix b.a b.len i2 1 fun (a17 : Addr) =>
  St a17 (.int .i64 (-7)) w fun (w : World) =>
  ∃ m4 : Nat, m4 < m3 ∧ Inv_2 (x7 == 0) (IntKind.i64.wrap (i2 + 1)) m4 w) else (Ix b.a b.len i2 1 fun (a18 : Addr) =>
  St a18 (.int .i64 (-7)) w fun (w : World) =>
  ∃ m4 : Nat, m4 < m3 ∧ Inv_2 false (IntKind.i64.wrap (i2 + 1)) m4 w))) else (if (decide (i2 ≥ (free.len : Int))) = true then (Ix b.a b.len i2 1 fun (a19 : Addr) =>
  Ld (.i .i64) w a19 fun (x8 : Int) =>
  Ix b.a b.len i2 1 fun (a20 : Addr) =>
  St a20 (.int .i64 (-7)) w fun (w : World) =>
  ∃ m4 : Nat, m4 < m3 ∧ Inv_2 (x8 == 0) (IntKind.i64.wrap (i2 + 1)) m4 w) else (Ix b.a b.len i2 1 fun (a21 : Addr) =>
  St a21 (.int .i64 (-7)) w fun (w : World) =>
  ∃ m4 : Nat, m4 < m3 ∧ Inv_2 false (IntKind.i64.wrap (i2 + 1)) m4 w))) else (Ix b.a b.len i2 1 fun (a22 : Addr) =>
  St a22 (.int .i64 (-7)) w fun (w : World) =>
  ∃ m4 : Nat, m4 < m3 ∧ Inv_2 false (IntKind.i64.wrap (i2 + 1)) m4 w)) else (St a (.pointer p) w fun (w : World) =>
  St (a.add 1) (.pointer r) w fun (w : World) =>
  Ld .p w a fun (r_p : Option Addr) => Ld .p w (a.add 1) fun (r_r : Option Addr) => 
  R r_p r_r ok2 w))))

theorem f24_eq (most : Int) (gens : Sl) (free : Sl) (w : World) (R : Option Addr → Option Addr → Bool → World → Prop) :
    f24 most gens free w R = dFunc Try.prog ⟨[(9, ⟨[(14, .b), (15, .i .i64)], [1, 2, 6, 8, 9, 10, 12]⟩), (14, ⟨[(14, .b), (16, .i .i64)], [2, 6, 9, 10, 12]⟩)], []⟩ Try.f24 [.int .i64 most, .slice gens.a gens.len gens.cap, .slice free.a free.len free.cap] (fun v w' => viewRet [.agg [.p, .p], .one .b] v R w') w := by kernel_rfl

theorem c24_of {most : Int} {gens : Sl} {free : Sl} {w : World} {R : Option Addr → Option Addr → Bool → World → Prop} (h : f24 most gens free w R) : c24 most gens free w R :=
  callK_of okP Try.func24 (by rw [← f24_eq]; exact h)

/-- (*hindcast/ids.Pool).Clone. -/
def f25 (p : Option Addr) (w : World) (R : Option Addr → World → Prop) : Prop :=
  Dr w fun (w : World) =>
  NN p fun (p_ : Addr) =>
  Ld (.i .i64) w p_ fun (most : Int) =>
  NN p fun (p_2 : Addr) =>
  Ld .sl w (p_2.add 1) fun (gens : Sl) =>
  NN p fun (p_3 : Addr) =>
  Ld .sl w (p_3.add 2) fun (alive : Sl) =>
  NN p fun (p_4 : Addr) =>
  Ld .sl w (p_4.add 3) fun (free : Sl) =>
  c19 gens w fun (r : Sl) (w : World) =>
  w.cell? (p_4.add 3) = some (.slice free.a free.len free.cap) ∧ w.cell? (p_3.add 2) = some (.slice alive.a alive.len alive.cap) ∧ w.cell? p_ = some (.int .i64 most) ∧ (c33 alive w fun (r2 : Sl) (w : World) =>
  w.cell? (p_4.add 3) = some (.slice free.a free.len free.cap) ∧ w.cell? p_ = some (.int .i64 most) ∧ (c19 free w fun (r3 : Sl) (w : World) =>
  w.cell? p_ = some (.int .i64 most) ∧ (Nw (.cells #[.int .i64 most, .slice r.a r.len r.cap, .slice r2.a r2.len r2.cap, .slice r3.a r3.len r3.cap] 60) w fun (a : Addr) (w : World) =>
  R (some a) w)))

theorem f25_eq (p : Option Addr) (w : World) (R : Option Addr → World → Prop) :
    f25 p w R = dFunc Try.prog ⟨[], []⟩ Try.f25 [.pointer p] (fun v w' => viewRet [.one .p] v R w') w := by kernel_rfl

theorem c25_of {p : Option Addr} {w : World} {R : Option Addr → World → Prop} (h : f25 p w R) : c25 p w R :=
  callK_of okP Try.func25 (by rw [← f25_eq]; exact h)

/-- (*hindcast/hindcastref04.Pool).Clone. -/
def f26 (p : Option Addr) (w : World) (R : Option Addr → World → Prop) : Prop :=
  NN p fun (p_ : Addr) =>
  Ld (.i .i64) w p_ fun (Most : Int) =>
  Nw (.cells #[.int .i64 Most, .slice none 0 0, .slice none 0 0, .slice none 0 0] 63) w fun (q : Addr) (w : World) =>
  Dr w fun (w : World) =>
  Ld .sl w (q.add 1) fun (Gens : Sl) =>
  NN p fun (p_2 : Addr) =>
  Ld .sl w (p_2.add 1) fun (Gens2 : Sl) =>
  Run .sl Try.prog (Builtin.append_ #[22, 22] 22 #[.slice Gens.a Gens.len Gens.cap, .slice Gens2.a Gens2.len Gens2.cap]) w fun (s : Sl) (w : World) =>
  St (q.add 1) (.slice s.a s.len s.cap) w fun (w : World) =>
  Dr w fun (w : World) =>
  Ld .sl w (q.add 2) fun (On : Sl) =>
  NN p fun (p_3 : Addr) =>
  Ld .sl w (p_3.add 2) fun (On2 : Sl) =>
  Run .sl Try.prog (Builtin.append_ #[58, 58] 58 #[.slice On.a On.len On.cap, .slice On2.a On2.len On2.cap]) w fun (s2 : Sl) (w : World) =>
  St (q.add 2) (.slice s2.a s2.len s2.cap) w fun (w : World) =>
  Dr w fun (w : World) =>
  Ld .sl w (q.add 3) fun (Free : Sl) =>
  NN p fun (p_4 : Addr) =>
  Ld .sl w (p_4.add 3) fun (Free2 : Sl) =>
  Run .sl Try.prog (Builtin.append_ #[22, 22] 22 #[.slice Free.a Free.len Free.cap, .slice Free2.a Free2.len Free2.cap]) w fun (s3 : Sl) (w : World) =>
  St (q.add 3) (.slice s3.a s3.len s3.cap) w fun (w : World) =>
  R (some q) w

theorem f26_eq (p : Option Addr) (w : World) (R : Option Addr → World → Prop) :
    f26 p w R = dFunc Try.prog ⟨[], []⟩ Try.f26 [.pointer p] (fun v w' => viewRet [.one .p] v R w') w := by kernel_rfl

theorem c26_of {p : Option Addr} {w : World} {R : Option Addr → World → Prop} (h : f26 p w R) : c26 p w R :=
  callK_of okP Try.func26 (by rw [← f26_eq]; exact h)

/-- (*hindcast/hindcastref04.Pool).State. -/
def f27 (p : Option Addr) (w : World) (R : Sl → Sl → World → Prop) : Prop :=
  ∃ Inv_ : Sl → Int → Nat → World → Prop, (∃ n : Nat, Inv_ ⟨none, 0, 0⟩ 0 n w) ∧ ∀ gens : Sl, ∀ i : Int, ∀ m : Nat, ∀ w : World, Inv_ gens i m w → (NN p fun (p_ : Addr) =>
  Ld .sl w (p_.add 1) fun (Gens : Sl) =>
  if (decide (i < (Gens.len : Int))) = true then (NN p fun (p_2 : Addr) =>
  Ld .sl w (p_2.add 1) fun (Gens2 : Sl) =>
  Ix Gens2.a Gens2.len i 1 fun (a : Addr) =>
  Ld (.i .i64) w a fun (g : Int) =>
  c34 p i w fun (in_ : Bool) (w : World) =>
  NN p fun (p_3 : Addr) =>
  Ld .sl w (p_3.add 2) fun (On : Sl) =>
  Ix On.a On.len i 1 fun (a2 : Addr) =>
  Ld .b w a2 fun (x : Bool) =>
  if (cond (!x) (!in_) false) = true then (Nw (.cells #[.int .i64 1000001] 3) w fun (b : Addr) (w : World) =>
  Run .sl Try.prog (Builtin.append_ #[22, 22] 22 #[.slice gens.a gens.len gens.cap, .slice (some b) 1 1]) w fun (gens2 : Sl) (w : World) =>
  ∃ m2 : Nat, m2 < m ∧ Inv_ gens2 (IntKind.i64.wrap (i + 1)) m2 w) else (Nw (.cells #[.int .i64 g] 3) w fun (b2 : Addr) (w : World) =>
  Run .sl Try.prog (Builtin.append_ #[22, 22] 22 #[.slice gens.a gens.len gens.cap, .slice (some b2) 1 1]) w fun (gens3 : Sl) (w : World) =>
  ∃ m2 : Nat, m2 < m ∧ Inv_ gens3 (IntKind.i64.wrap (i + 1)) m2 w)) else (NN p fun (p_4 : Addr) =>
  Ld .sl w (p_4.add 3) fun (Free : Sl) =>
  Run .sl Try.prog (Builtin.append_ #[22, 22] 22 #[.slice none 0 0, .slice Free.a Free.len Free.cap]) w fun (s : Sl) (w : World) =>
  R gens s w))

theorem f27_eq (p : Option Addr) (w : World) (R : Sl → Sl → World → Prop) :
    f27 p w R = dFunc Try.prog ⟨[(4, ⟨[(4, .sl), (6, .i .i64)], [0, 5]⟩)], []⟩ Try.f27 [.pointer p] (fun v w' => viewRet [.one .sl, .one .sl] v R w') w := by kernel_rfl

theorem c27_of {p : Option Addr} {w : World} {R : Sl → Sl → World → Prop} (h : f27 p w R) : c27 p w R :=
  callK_of okP Try.func27 (by rw [← f27_eq]; exact h)

/-- hindcast/hindcastlaw04.same. -/
def f28 (a : Sl) (b : Sl) (w : World) (R : Bool → World → Prop) : Prop :=
  if ((a.len : Int) != (b.len : Int)) = true then (R false w) else (∃ Inv_ : Int → Nat → World → Prop, (∃ n : Nat, Inv_ 0 n w) ∧ ∀ i : Int, ∀ m : Nat, ∀ w : World, Inv_ i m w → (if (decide (i < (a.len : Int))) = true then (Dr w fun (w : World) =>
  Ix a.a a.len i 1 fun (a2 : Addr) =>
  Ld (.i .i64) w a2 fun (x : Int) =>
  Ix b.a b.len i 1 fun (a3 : Addr) =>
  Ld (.i .i64) w a3 fun (x2 : Int) =>
  if (x != x2) = true then (R false w) else (∃ m2 : Nat, m2 < m ∧ Inv_ (IntKind.i64.wrap (i + 1)) m2 w)) else (R true w)))

theorem f28_eq (a : Sl) (b : Sl) (w : World) (R : Bool → World → Prop) :
    f28 a b w R = dFunc Try.prog ⟨[(4, ⟨[(5, .i .i64)], [0, 1]⟩)], []⟩ Try.f28 [.slice a.a a.len a.cap, .slice b.a b.len b.cap] (fun v w' => viewRet [.one .b] v R w') w := by kernel_rfl

theorem c28_of {a : Sl} {b : Sl} {w : World} {R : Bool → World → Prop} (h : f28 a b w R) : c28 a b w R :=
  callK_of okP Try.func28 (by rw [← f28_eq]; exact h)

/-- (*hindcast/hindcastlaw04.world).fill. -/
def f29 (w_ : Option Addr) (a : Sl) (e : Sl) (w : World) (R : World → Prop) : Prop :=
  NN w_ fun (w_2 : Addr) =>
  Ld .sl w (w_2.add 4) fun (l : Sl) =>
  ∃ Inv_ : Int → Nat → World → Prop, (∃ n : Nat, Inv_ 0 n w) ∧ ∀ i : Int, ∀ m : Nat, ∀ w : World, Inv_ i m w → (if (decide (i < (a.len : Int))) = true then (NN w_ fun (w_3 : Addr) =>
  Ld .sl w (w_3.add 4) fun (l2 : Sl) =>
  ∃ Inv_2 : Int → Nat → World → Prop, (∃ n : Nat, Inv_2 0 n w) ∧ ∀ k : Int, ∀ m3 : Nat, ∀ w : World, Inv_2 k m3 w → (Ix a.a a.len i 1 fun (a2 : Addr) =>
  Ld .sl w a2 fun (x : Sl) =>
  if (decide (k < (x.len : Int))) = true then (Ix a.a a.len i 1 fun (a3 : Addr) =>
  Ld .sl w a3 fun (x2 : Sl) =>
  Ix x2.a x2.len k 1 fun (a4 : Addr) =>
  St a4 (.int .i64 (IntKind.i64.wrap ((-1) - (l2.len : Int)))) w fun (w : World) =>
  ∃ m4 : Nat, m4 < m3 ∧ Inv_2 (IntKind.i64.wrap (k + 1)) m4 w) else (Dr w fun (w : World) =>
  NN w_ fun (w_4 : Addr) =>
  Ld .sl w (w_4.add 4) fun (l3 : Sl) =>
  Ix a.a a.len i 1 fun (a5 : Addr) =>
  Ld .sl w a5 fun (x3 : Sl) =>
  Nw (.cells #[.slice x3.a x3.len x3.cap, .slice none 0 0, .int .i64 (IntKind.i64.wrap ((-1) - (l2.len : Int)))] 70) w fun (b : Addr) (w : World) =>
  Run .sl Try.prog (Builtin.append_ #[48, 48] 48 #[.slice l3.a l3.len l3.cap, .slice (some b) 1 1]) w fun (s : Sl) (w : World) =>
  NN w_ fun (w_5 : Addr) =>
  St (w_5.add 4) (.slice s.a s.len s.cap) w fun (w : World) =>
  ∃ m2 : Nat, m2 < m ∧ Inv_ (IntKind.i64.wrap (i + 1)) m2 w))) else (∃ Inv_3 : Int → Nat → World → Prop, (∃ n : Nat, Inv_3 0 n w) ∧ ∀ i2 : Int, ∀ m5 : Nat, ∀ w : World, Inv_3 i2 m5 w → (if (decide (i2 < (e.len : Int))) = true then (NN w_ fun (w_6 : Addr) =>
  Ld .sl w (w_6.add 4) fun (l4 : Sl) =>
  ∃ Inv_4 : Int → Nat → World → Prop, (∃ n : Nat, Inv_4 0 n w) ∧ ∀ k2 : Int, ∀ m7 : Nat, ∀ w : World, Inv_4 k2 m7 w → (Ix e.a e.len i2 1 fun (a6 : Addr) =>
  Ld .sl w a6 fun (x4 : Sl) =>
  if (decide (k2 < (x4.len : Int))) = true then (Ix e.a e.len i2 1 fun (a7 : Addr) =>
  Ld .sl w a7 fun (x5 : Sl) =>
  Ix x5.a x5.len k2 2 fun (a8 : Addr) =>
  St a8 (.int .i64 (IntKind.i64.wrap ((-1) - (l4.len : Int)))) w fun (w : World) =>
  St (a8.add 1) (.int .i64 (IntKind.i64.wrap ((-1) - (l4.len : Int)))) w fun (w : World) =>
  ∃ m8 : Nat, m8 < m7 ∧ Inv_4 (IntKind.i64.wrap (k2 + 1)) m8 w) else (Dr w fun (w : World) =>
  NN w_ fun (w_7 : Addr) =>
  Ld .sl w (w_7.add 4) fun (l5 : Sl) =>
  Ix e.a e.len i2 1 fun (a9 : Addr) =>
  Ld .sl w a9 fun (x6 : Sl) =>
  Nw (.cells #[.slice none 0 0, .slice x6.a x6.len x6.cap, .int .i64 (IntKind.i64.wrap ((-1) - (l4.len : Int)))] 70) w fun (b2 : Addr) (w : World) =>
  Run .sl Try.prog (Builtin.append_ #[48, 48] 48 #[.slice l5.a l5.len l5.cap, .slice (some b2) 1 1]) w fun (s2 : Sl) (w : World) =>
  NN w_ fun (w_8 : Addr) =>
  St (w_8.add 4) (.slice s2.a s2.len s2.cap) w fun (w : World) =>
  ∃ m6 : Nat, m6 < m5 ∧ Inv_3 (IntKind.i64.wrap (i2 + 1)) m6 w))) else (NN w_ fun (w_9 : Addr) =>
  Ld .sl w (w_9.add 4) fun (l6 : Sl) =>
  ∃ Inv_5 : Int → Nat → World → Prop, (∃ n : Nat, Inv_5 (l.len : Int) n w) ∧ ∀ i3 : Int, ∀ m9 : Nat, ∀ w : World, Inv_5 i3 m9 w → (if (decide (i3 < (l6.len : Int))) = true then (NN w_ fun (w_10 : Addr) =>
  Ld .sl w (w_10.add 4) fun (l7 : Sl) =>
  Ix l7.a l7.len i3 3 fun (a10 : Addr) =>
  Ld .sl w a10 fun (x_a : Sl) => Ld .sl w (a10.add 1) fun (x_e : Sl) => Ld (.i .i64) w (a10.add 2) fun (x_mark : Int) => 
  Nw (.cells #[.slice none 0 0, .slice none 0 0, .int .i64 0] 70) w fun (x7 : Addr) (w : World) =>
  St x7 (.slice x_a.a x_a.len x_a.cap) w fun (w : World) =>
  St (x7.add 1) (.slice x_e.a x_e.len x_e.cap) w fun (w : World) =>
  St (x7.add 2) (.int .i64 x_mark) w fun (w : World) =>
  ∃ Inv_6 : Int → Nat → World → Prop, (∃ n : Nat, Inv_6 0 n w) ∧ ∀ k3 : Int, ∀ m11 : Nat, ∀ w : World, Inv_6 k3 m11 w → (if (decide (k3 < 64)) = true then (if (decide ((IntKind.i64.wrap (i3 - (l.len : Int))) < (a.len : Int))) = true then (Ld .sl w x7 fun (a11 : Sl) =>
  Ld (.i .i64) w (x7.add 2) fun (mark : Int) =>
  Nw (.cells #[.int .i64 mark] 3) w fun (b3 : Addr) (w : World) =>
  Run .sl Try.prog (Builtin.append_ #[22, 22] 22 #[.slice a11.a a11.len a11.cap, .slice (some b3) 1 1]) w fun (s3 : Sl) (w : World) =>
  St x7 (.slice s3.a s3.len s3.cap) w fun (w : World) =>
  ∃ m12 : Nat, m12 < m11 ∧ Inv_6 (IntKind.i64.wrap (k3 + 1)) m12 w) else (Ld .sl w (x7.add 1) fun (e2 : Sl) =>
  Ld (.i .i64) w (x7.add 2) fun (mark2 : Int) =>
  Ld (.i .i64) w (x7.add 2) fun (mark3 : Int) =>
  Nw (.cells #[.int .i64 mark2, .int .i64 mark3] 31) w fun (b4 : Addr) (w : World) =>
  Run .sl Try.prog (Builtin.append_ #[29, 29] 29 #[.slice e2.a e2.len e2.cap, .slice (some b4) 1 1]) w fun (s4 : Sl) (w : World) =>
  St (x7.add 1) (.slice s4.a s4.len s4.cap) w fun (w : World) =>
  ∃ m12 : Nat, m12 < m11 ∧ Inv_6 (IntKind.i64.wrap (k3 + 1)) m12 w)) else (Dr w fun (w : World) =>
  NN w_ fun (w_11 : Addr) =>
  Ld .sl w (w_11.add 4) fun (l8 : Sl) =>
  Ld .sl w x7 fun (x_a2 : Sl) => Ld .sl w (x7.add 1) fun (x_e2 : Sl) => Ld (.i .i64) w (x7.add 2) fun (x_mark2 : Int) => 
  Nw (.cells #[.slice x_a2.a x_a2.len x_a2.cap, .slice x_e2.a x_e2.len x_e2.cap, .int .i64 x_mark2] 70) w fun (b5 : Addr) (w : World) =>
  Run .sl Try.prog (Builtin.append_ #[48, 48] 48 #[.slice l8.a l8.len l8.cap, .slice (some b5) 1 1]) w fun (s5 : Sl) (w : World) =>
  NN w_ fun (w_12 : Addr) =>
  St (w_12.add 4) (.slice s5.a s5.len s5.cap) w fun (w : World) =>
  ∃ m10 : Nat, m10 < m9 ∧ Inv_5 (IntKind.i64.wrap (i3 + 1)) m10 w))) else (R w))))))

theorem f29_eq (w_ : Option Addr) (a : Sl) (e : Sl) (w : World) (R : World → Prop) :
    f29 w_ a e w R = dFunc Try.prog ⟨[(2, ⟨[(7, .i .i64)], [0, 1, 2, 6]⟩), (6, ⟨[(9, .i .i64)], [0, 1, 2, 6, 7, 8]⟩), (11, ⟨[(10, .i .i64)], [0, 1, 2, 6]⟩), (15, ⟨[(12, .i .i64)], [0, 1, 2, 6, 10, 11]⟩), (21, ⟨[(14, .i .i64)], [0, 1, 6, 13]⟩), (25, ⟨[(16, .i .i64)], [0, 1, 6, 13, 14, 15]⟩)], []⟩ Try.f29 [.pointer w_, .slice a.a a.len a.cap, .slice e.a e.len e.cap] (fun v w' => viewRet [] v R w') w := by kernel_rfl

theorem c29_of {w_ : Option Addr} {a : Sl} {e : Sl} {w : World} {R : World → Prop} (h : f29 w_ a e w R) : c29 w_ a e w R :=
  callK_of okP Try.func29 (by rw [← f29_eq]; exact h)

/-- (*hindcast/hindcastref04.Pool).Lives. -/
def f30 (p : Option Addr) (e_Index : Int) (e_Gen : Int) (w : World) (R : Bool → World → Prop) : Prop :=
  Nw (.cells #[.int .i64 e_Index, .int .i64 e_Gen] 31) w fun (e : Addr) (w : World) =>
  Dr w fun (w : World) =>
  Ld (.i .i64) w e fun (Index : Int) =>
  if (decide (Index ≥ 0)) = true then (Ld (.i .i64) w e fun (Index2 : Int) =>
  NN p fun (p_ : Addr) =>
  Ld .sl w (p_.add 1) fun (Gens : Sl) =>
  if (decide (Index2 < (Gens.len : Int))) = true then (NN p fun (p_2 : Addr) =>
  Ld .sl w (p_2.add 2) fun (On : Sl) =>
  Ld (.i .i64) w e fun (Index3 : Int) =>
  Ix On.a On.len Index3 1 fun (a : Addr) =>
  Ld .b w a fun (x : Bool) =>
  if x = true then (NN p fun (p_3 : Addr) =>
  Ld .sl w (p_3.add 1) fun (Gens2 : Sl) =>
  Ld (.i .i64) w e fun (Index4 : Int) =>
  Ix Gens2.a Gens2.len Index4 1 fun (a2 : Addr) =>
  Ld (.i .i64) w a2 fun (x2 : Int) =>
  Ld (.i .i64) w (e.add 1) fun (Gen : Int) =>
  R (x2 == Gen) w) else (R false w)) else (R false w)) else (R false w)

theorem f30_eq (p : Option Addr) (e_Index : Int) (e_Gen : Int) (w : World) (R : Bool → World → Prop) :
    f30 p e_Index e_Gen w R = dFunc Try.prog ⟨[], []⟩ Try.f30 [.pointer p, .agg #[.int .i64 e_Index, .int .i64 e_Gen]] (fun v w' => viewRet [.one .b] v R w') w := by kernel_rfl

theorem c30_of {p : Option Addr} {e_Index : Int} {e_Gen : Int} {w : World} {R : Bool → World → Prop} (h : f30 p e_Index e_Gen w R) : c30 p e_Index e_Gen w R :=
  callK_of okP Try.func30 (by rw [← f30_eq]; exact h)

/-- (*hindcast/hindcastref04.Pool).At. -/
def f31 (p : Option Addr) (index : Int) (w : World) (R : Int → Int → Int → World → Prop) : Prop :=
  Nw (.cells #[.int .i64 0, .int .i64 0] 31) w fun (a : Addr) (w : World) =>
  ∃ J_ : Bool → World → Prop, (if (decide (index < 0)) = true then (J_ true w) else (NN p fun (p_ : Addr) =>
  Ld .sl w (p_.add 1) fun (Gens : Sl) =>
  if (decide (index ≥ (Gens.len : Int))) = true then (J_ true w) else (NN p fun (p_2 : Addr) =>
  Ld .sl w (p_2.add 2) fun (On : Sl) =>
  Ix On.a On.len index 1 fun (a2 : Addr) =>
  Ld .b w a2 fun (x : Bool) =>
  J_ (!x) w))) ∧ ∀ t26 : Bool, ∀ w : World, J_ t26 w → (if t26 = true then (St a (.int .i64 0) w fun (w : World) =>
  St (a.add 1) (.int .i64 0) w fun (w : World) =>
  Ld (.i .i64) w a fun (r_Index : Int) => Ld (.i .i64) w (a.add 1) fun (r_Gen : Int) => 
  R r_Index r_Gen 41 w) else (NN p fun (p_3 : Addr) =>
  Ld .sl w (p_3.add 1) fun (Gens2 : Sl) =>
  Ix Gens2.a Gens2.len index 1 fun (a3 : Addr) =>
  Ld (.i .i64) w a3 fun (x2 : Int) =>
  St a (.int .i64 index) w fun (w : World) =>
  St (a.add 1) (.int .i64 x2) w fun (w : World) =>
  Ld (.i .i64) w a fun (r_Index2 : Int) => Ld (.i .i64) w (a.add 1) fun (r_Gen2 : Int) => 
  R r_Index2 r_Gen2 0 w))

theorem f31_eq (p : Option Addr) (index : Int) (w : World) (R : Int → Int → Int → World → Prop) :
    f31 p index w R = dFunc Try.prog ⟨[], [(2, ⟨[(26, .b)], [0, 1, 4]⟩)]⟩ Try.f31 [.pointer p, .int .i64 index] (fun v w' => viewRet [.agg [.i .i64, .i .i64], .one (.i .i64)] v R w') w := by kernel_rfl

theorem c31_of {p : Option Addr} {index : Int} {w : World} {R : Int → Int → Int → World → Prop} (h : f31 p index w R) : c31 p index w R :=
  callK_of okP Try.func31 (by rw [← f31_eq]; exact h)

/-- hindcast/hindcastref04.From. -/
def f32 (most : Int) (gens : Sl) (free : Sl) (w : World) (R : Option Addr → Int → World → Prop) : Prop :=
  c15 most w fun (p : Option Addr) (e : Int) (w : World) =>
  if (cond (e != 0) true (decide ((gens.len : Int) > most))) = true then (R none 1 w) else (∃ Inv_ : Int → Nat → World → Prop, (∃ n : Nat, Inv_ 0 n w) ∧ ∀ i : Int, ∀ m : Nat, ∀ w : World, Inv_ i m w → (if (decide (i < (gens.len : Int))) = true then (∃ J_ : World → Prop, (Ix gens.a gens.len i 1 fun (a : Addr) =>
  Ld (.i .i64) w a fun (x : Int) =>
  if (decide (x < 1)) = true then (R none 1 w) else (Ix gens.a gens.len i 1 fun (a2 : Addr) =>
  Ld (.i .i64) w a2 fun (x2 : Int) =>
  if (decide (x2 > 1000001)) = true then (R none 1 w) else (J_  w))) ∧ ∀ w : World, J_  w → (Ix gens.a gens.len i 1 fun (a3 : Addr) =>
  Ld (.i .i64) w a3 fun (g : Int) =>
  ∃ J_2 : Int → World → Prop, (if (decide (g > 1000000)) = true then (J_2 1000000 w) else (J_2 g w)) ∧ ∀ g2 : Int, ∀ w : World, J_2 g2 w → (NN p fun (p_ : Addr) =>
  Ld .sl w (p_.add 1) fun (Gens : Sl) =>
  Nw (.cells #[.int .i64 g2] 3) w fun (b : Addr) (w : World) =>
  Run .sl Try.prog (Builtin.append_ #[22, 22] 22 #[.slice Gens.a Gens.len Gens.cap, .slice (some b) 1 1]) w fun (s : Sl) (w : World) =>
  NN p fun (p_2 : Addr) =>
  St (p_2.add 1) (.slice s.a s.len s.cap) w fun (w : World) =>
  Dr w fun (w : World) =>
  NN p fun (p_3 : Addr) =>
  Ld .sl w (p_3.add 2) fun (On : Sl) =>
  Ix gens.a gens.len i 1 fun (a4 : Addr) =>
  Ld (.i .i64) w a4 fun (x3 : Int) =>
  Nw (.cells #[.bool (decide (x3 ≤ 1000000))] 4) w fun (b2 : Addr) (w : World) =>
  Run .sl Try.prog (Builtin.append_ #[58, 58] 58 #[.slice On.a On.len On.cap, .slice (some b2) 1 1]) w fun (s2 : Sl) (w : World) =>
  NN p fun (p_4 : Addr) =>
  St (p_4.add 2) (.slice s2.a s2.len s2.cap) w fun (w : World) =>
  ∃ m2 : Nat, m2 < m ∧ Inv_ (IntKind.i64.wrap (i + 1)) m2 w))) else (∃ Inv_2 : Int → Nat → World → Prop, (∃ n : Nat, Inv_2 0 n w) ∧ ∀ k : Int, ∀ m3 : Nat, ∀ w : World, Inv_2 k m3 w → (if (decide (k < (free.len : Int))) = true then (Ix free.a free.len k 1 fun (a5 : Addr) =>
  Ld (.i .i64) w a5 fun (i2 : Int) =>
  ∃ J_3 : World → Prop, (if (decide (i2 < 0)) = true then (R none 1 w) else (if (decide (i2 ≥ (gens.len : Int))) = true then (R none 1 w) else (Ix gens.a gens.len i2 1 fun (a6 : Addr) =>
  Ld (.i .i64) w a6 fun (x4 : Int) =>
  if (decide (x4 ≥ 1000000)) = true then (R none 1 w) else (J_3  w)))) ∧ ∀ w : World, J_3  w → (c34 p i2 w fun (in_ : Bool) (w : World) =>
  if in_ = true then (R none 1 w) else (NN p fun (p_5 : Addr) =>
  Ld .sl w (p_5.add 2) fun (On2 : Sl) =>
  Ix On2.a On2.len i2 1 fun (a7 : Addr) =>
  St a7 (.bool false) w fun (w : World) =>
  NN p fun (p_6 : Addr) =>
  Ld .sl w (p_6.add 3) fun (Free : Sl) =>
  Nw (.cells #[.int .i64 i2] 3) w fun (b3 : Addr) (w : World) =>
  Run .sl Try.prog (Builtin.append_ #[22, 22] 22 #[.slice Free.a Free.len Free.cap, .slice (some b3) 1 1]) w fun (s3 : Sl) (w : World) =>
  NN p fun (p_7 : Addr) =>
  St (p_7.add 3) (.slice s3.a s3.len s3.cap) w fun (w : World) =>
  ∃ m4 : Nat, m4 < m3 ∧ Inv_2 (IntKind.i64.wrap (k + 1)) m4 w))) else (R p 0 w)))))

theorem f32_eq (most : Int) (gens : Sl) (free : Sl) (w : World) (R : Option Addr → Int → World → Prop) :
    f32 most gens free w R = dFunc Try.prog ⟨[(5, ⟨[(10, .i .i64)], [1, 2, 8]⟩), (15, ⟨[(12, .i .i64)], [1, 2, 8]⟩)], [(9, ⟨[], [1, 2, 8, 10]⟩), (12, ⟨[(11, .i .i64)], [1, 2, 8, 10]⟩), (20, ⟨[], [1, 2, 8, 12, 13]⟩)]⟩ Try.f32 [.int .i64 most, .slice gens.a gens.len gens.cap, .slice free.a free.len free.cap] (fun v w' => viewRet [.one .p, .one (.i .i64)] v R w') w := by kernel_rfl

theorem c32_of {most : Int} {gens : Sl} {free : Sl} {w : World} {R : Option Addr → Int → World → Prop} (h : f32 most gens free w R) : c32 most gens free w R :=
  callK_of okP Try.func32 (by rw [← f32_eq]; exact h)

/-- slices.Clone[[]bool,bool]. -/
def f33 (s : Sl) (w : World) (R : Sl → World → Prop) : Prop :=
  if s.a.isNone = true then (R ⟨none, 0, 0⟩ w) else (Nw (.cells #[] 4) w fun (b : Addr) (w : World) =>
  Run .sl Try.prog (Builtin.append_ #[58, 58] 58 #[.slice (some b) 0 0, .slice s.a s.len s.cap]) w fun (s2 : Sl) (w : World) =>
  R s2 w)

theorem f33_eq (s : Sl) (w : World) (R : Sl → World → Prop) :
    f33 s w R = dFunc Try.prog ⟨[], []⟩ Try.f33 [.slice s.a s.len s.cap] (fun v w' => viewRet [.one .sl] v R w') w := by kernel_rfl

theorem c33_of {s : Sl} {w : World} {R : Sl → World → Prop} (h : f33 s w R) : c33 s w R :=
  callK_of okP Try.func33 (by rw [← f33_eq]; exact h)

/-- (*hindcast/hindcastref04.Pool).free. -/
def f34 (p : Option Addr) (i : Int) (w : World) (R : Bool → World → Prop) : Prop :=
  ∃ Inv_ : Int → Nat → World → Prop, (∃ n : Nat, Inv_ 0 n w) ∧ ∀ k : Int, ∀ m : Nat, ∀ w : World, Inv_ k m w → (NN p fun (p_ : Addr) =>
  Ld .sl w (p_.add 3) fun (Free : Sl) =>
  if (decide (k < (Free.len : Int))) = true then (NN p fun (p_2 : Addr) =>
  Ld .sl w (p_2.add 3) fun (Free2 : Sl) =>
  Ix Free2.a Free2.len k 1 fun (a : Addr) =>
  Ld (.i .i64) w a fun (x : Int) =>
  if (x == i) = true then (R true w) else (∃ m2 : Nat, m2 < m ∧ Inv_ (IntKind.i64.wrap (k + 1)) m2 w)) else (R false w))

theorem f34_eq (p : Option Addr) (i : Int) (w : World) (R : Bool → World → Prop) :
    f34 p i w R = dFunc Try.prog ⟨[(2, ⟨[(5, .i .i64)], [0, 1]⟩)], []⟩ Try.f34 [.pointer p, .int .i64 i] (fun v w' => viewRet [.one .b] v R w') w := by kernel_rfl

theorem c34_of {p : Option Addr} {i : Int} {w : World} {R : Bool → World → Prop} (h : f34 p i w R) : c34 p i w R :=
  callK_of okP Try.func34 (by rw [← f34_eq]; exact h)

end Go.Proofs.Ytmlkjbolccapkaa.F
