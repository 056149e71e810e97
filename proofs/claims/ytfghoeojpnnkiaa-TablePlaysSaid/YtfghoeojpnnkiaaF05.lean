/-
  Printed by den.py: for each Go function its formula, the kernel's equation, and the law of its call.
-/
import Derived.Test.YtfghoeojpnnkiaaProg
import Derived.Test.YtfghoeojpnnkiaaDenH
set_option linter.unusedVariables false
set_option maxRecDepth 100000
namespace Go.Proofs.Ytfghoeojpnnkiaa.F
open Go Go.Den Go.Proofs

theorem okP : OkP Try.prog := ⟨by kernel_rfl, by kernel_rfl⟩

/-- A call of gosem.cut.init. -/
def c2 (w : World) (R : World → Prop) : Prop :=
  CallK Try.prog 2 [] [] w R

/-- A call of hindcast/hindcastlaw05.TableKeeps. -/
def c3 (columns : Int) (raw : Sl) (w : World) (R : Bool → World → Prop) : Prop :=
  CallK Try.prog 3 [.int .i64 columns, .slice raw.a raw.len raw.cap] [.one .b] w R

/-- A call of hindcast/hindcastlaw05.TableApart. -/
def c4 (raw : Sl) (more : Sl) (w : World) (R : Bool → World → Prop) : Prop :=
  CallK Try.prog 4 [.slice raw.a raw.len raw.cap, .slice more.a more.len more.cap] [.one .b] w R

/-- A call of hindcast/hindcastlaw05.TablePlays. -/
def c5 (script : Sl) (w : World) (R : Bool → World → Prop) : Prop :=
  CallK Try.prog 5 [.slice script.a script.len script.cap] [.one .b] w R

/-- A call of hindcast/hindcastlaw05.shown. -/
def c6 (w : World) (R : Bool → World → Prop) : Prop :=
  CallK Try.prog 6 [] [.one .b] w R

/-- A call of hindcast/hindcastlaw05.pick. -/
def c7 (c : Int) (n_ : Int) (w : World) (R : Int → World → Prop) : Prop :=
  CallK Try.prog 7 [.int .i64 c, .int .i64 n_] [.one (.i .i64)] w R

/-- A call of hindcast/table.New. -/
def c8 (columns : Int) (w : World) (R : Option Addr → Int → World → Prop) : Prop :=
  CallK Try.prog 8 [.int .i64 columns] [.one .p, .one (.i .i64)] w R

/-- A call of (*hindcast/table.Table).Find. -/
def c9 (t : Option Addr) (e_Index : Int) (e_Gen : Int) (w : World) (R : Int → World → Prop) : Prop :=
  CallK Try.prog 9 [.pointer t, .agg #[.int .i64 e_Index, .int .i64 e_Gen]] [.one (.i .i64)] w R

/-- A call of (*hindcast/table.Table).Add. -/
def c10 (t : Option Addr) (e_Index : Int) (e_Gen : Int) (values : Sl) (w : World) (R : Int → Int → World → Prop) : Prop :=
  CallK Try.prog 10 [.pointer t, .agg #[.int .i64 e_Index, .int .i64 e_Gen], .slice values.a values.len values.cap] [.one (.i .i64), .one (.i .i64)] w R

/-- A call of (*hindcast/table.Table).Remove. -/
def c11 (t : Option Addr) (row : Int) (w : World) (R : Int → Int → Bool → Int → World → Prop) : Prop :=
  CallK Try.prog 11 [.pointer t, .int .i64 row] [.agg [.i .i64, .i .i64], .one .b, .one (.i .i64)] w R

/-- A call of (*hindcast/table.Table).Len. -/
def c12 (t : Option Addr) (w : World) (R : Int → World → Prop) : Prop :=
  CallK Try.prog 12 [.pointer t] [.one (.i .i64)] w R

/-- A call of (*hindcast/table.Table).Row. -/
def c13 (t : Option Addr) (row : Int) (w : World) (R : Int → Int → Sl → Int → World → Prop) : Prop :=
  CallK Try.prog 13 [.pointer t, .int .i64 row] [.agg [.i .i64, .i .i64], .one .sl, .one (.i .i64)] w R

/-- A call of (*hindcast/table.Table).Column. -/
def c14 (t : Option Addr) (column : Int) (w : World) (R : Sl → Int → World → Prop) : Prop :=
  CallK Try.prog 14 [.pointer t, .int .i64 column] [.one .sl, .one (.i .i64)] w R

/-- A call of (*hindcast/table.Table).Clone. -/
def c15 (t : Option Addr) (w : World) (R : Option Addr → World → Prop) : Prop :=
  CallK Try.prog 15 [.pointer t] [.one .p] w R

/-- A call of (*hindcast/table.Table).Set. -/
def c16 (t : Option Addr) (row : Int) (column : Int) (x : Int) (w : World) (R : Int → World → Prop) : Prop :=
  CallK Try.prog 16 [.pointer t, .int .i64 row, .int .i64 column, .int .i64 x] [.one (.i .i64)] w R

/-- A call of (*hindcast/hindcastlaw05.World).step. -/
def c17 (w_ : Option Addr) (o_Kind : Int) (o_On : Int) (o_Row : Int) (o_Column : Int) (o_E_Index : Int) (o_E_Gen : Int) (o_X : Int) (o_V : Sl) (w : World) (R : Bool → World → Prop) : Prop :=
  CallK Try.prog 17 [.pointer w_, .agg #[.int .i64 o_Kind, .int .i64 o_On, .int .i64 o_Row, .int .i64 o_Column, .int .i64 o_E_Index, .int .i64 o_E_Gen, .int .i64 o_X, .slice o_V.a o_V.len o_V.cap]] [.one .b] w R

/-- A call of (*hindcast/hindcastlaw05.World).looks. -/
def c18 (w_ : Option Addr) (w : World) (R : Bool → World → Prop) : Prop :=
  CallK Try.prog 18 [.pointer w_] [.one .b] w R

/-- A call of (*hindcast/table.Table).Get. -/
def c19 (t : Option Addr) (row : Int) (column : Int) (w : World) (R : Int → Int → World → Prop) : Prop :=
  CallK Try.prog 19 [.pointer t, .int .i64 row, .int .i64 column] [.one (.i .i64), .one (.i .i64)] w R

/-- A call of (*hindcast/table.Table).there. -/
def c20 (t : Option Addr) (row : Int) (w : World) (R : Bool → World → Prop) : Prop :=
  CallK Try.prog 20 [.pointer t, .int .i64 row] [.one .b] w R

/-- A call of slices.Clone[[]int64,int64]. -/
def c21 (s : Sl) (w : World) (R : Sl → World → Prop) : Prop :=
  CallK Try.prog 21 [.slice s.a s.len s.cap] [.one .sl] w R

/-- A call of slices.Clone[[]hindcast/api.Entity,hindcast/api.Entity]. -/
def c22 (s : Sl) (w : World) (R : Sl → World → Prop) : Prop :=
  CallK Try.prog 22 [.slice s.a s.len s.cap] [.one .sl] w R

/-- A call of maps.Clone[map[hindcast/api.Entity]int,hindcast/api.Entity,int]. -/
def c23 (m : Option Nat) (w : World) (R : Option Nat → World → Prop) : Prop :=
  CallK Try.prog 23 [.map m] [.one .m] w R

/-- A call of (*hindcast/table.Table).cell. -/
def c24 (t : Option Addr) (row : Int) (column : Int) (w : World) (R : Int → World → Prop) : Prop :=
  CallK Try.prog 24 [.pointer t, .int .i64 row, .int .i64 column] [.one (.i .i64)] w R

/-- A call of hindcast/hindcastref05.New. -/
def c25 (columns : Int) (w : World) (R : Option Addr → Int → World → Prop) : Prop :=
  CallK Try.prog 25 [.int .i64 columns] [.one .p, .one (.i .i64)] w R

/-- A call of (hindcast/hindcastlaw05.pair).adds. -/
def c26 (p_t : Option Addr) (p_r : Option Addr) (e_Index : Int) (e_Gen : Int) (v : Sl) (w : World) (R : Bool → World → Prop) : Prop :=
  CallK Try.prog 26 [.agg #[.pointer p_t, .pointer p_r], .agg #[.int .i64 e_Index, .int .i64 e_Gen], .slice v.a v.len v.cap] [.one .b] w R

/-- A call of (*hindcast/hindcastref05.Table).Remove. -/
def c27 (t : Option Addr) (row : Int) (w : World) (R : Int → Int → Bool → Int → World → Prop) : Prop :=
  CallK Try.prog 27 [.pointer t, .int .i64 row] [.agg [.i .i64, .i .i64], .one .b, .one (.i .i64)] w R

/-- A call of (*hindcast/hindcastref05.Table).Clone. -/
def c28 (t : Option Addr) (w : World) (R : Option Addr → World → Prop) : Prop :=
  CallK Try.prog 28 [.pointer t] [.one .p] w R

/-- A call of (*hindcast/hindcastlaw05.World).asked. -/
def c29 (w_ : Option Addr) (p_t : Option Addr) (p_r : Option Addr) (o_Kind : Int) (o_On : Int) (o_Row : Int) (o_Column : Int) (o_E_Index : Int) (o_E_Gen : Int) (o_X : Int) (o_V : Sl) (w : World) (R : Bool → World → Prop) : Prop :=
  CallK Try.prog 29 [.pointer w_, .agg #[.pointer p_t, .pointer p_r], .agg #[.int .i64 o_Kind, .int .i64 o_On, .int .i64 o_Row, .int .i64 o_Column, .int .i64 o_E_Index, .int .i64 o_E_Gen, .int .i64 o_X, .slice o_V.a o_V.len o_V.cap]] [.one .b] w R

/-- A call of (*hindcast/hindcastref05.Table).Add. -/
def c31 (t : Option Addr) (e_Index : Int) (e_Gen : Int) (values : Sl) (w : World) (R : Int → Int → World → Prop) : Prop :=
  CallK Try.prog 31 [.pointer t, .agg #[.int .i64 e_Index, .int .i64 e_Gen], .slice values.a values.len values.cap] [.one (.i .i64), .one (.i .i64)] w R

/-- A call of (*hindcast/hindcastref05.Table).Get. -/
def c32 (t : Option Addr) (row : Int) (column : Int) (w : World) (R : Int → Int → World → Prop) : Prop :=
  CallK Try.prog 32 [.pointer t, .int .i64 row, .int .i64 column] [.one (.i .i64), .one (.i .i64)] w R

/-- A call of (*hindcast/hindcastref05.Table).Set. -/
def c33 (t : Option Addr) (row : Int) (column : Int) (x : Int) (w : World) (R : Int → World → Prop) : Prop :=
  CallK Try.prog 33 [.pointer t, .int .i64 row, .int .i64 column, .int .i64 x] [.one (.i .i64)] w R

/-- A call of (*hindcast/hindcastref05.Table).Row. -/
def c34 (t : Option Addr) (row : Int) (w : World) (R : Int → Int → Sl → Int → World → Prop) : Prop :=
  CallK Try.prog 34 [.pointer t, .int .i64 row] [.agg [.i .i64, .i .i64], .one .sl, .one (.i .i64)] w R

/-- A call of (*hindcast/hindcastlaw05.World).told. -/
def c35 (w_ : Option Addr) (l : Sl) (k : Sl) (m : Sl) (w : World) (R : Bool → World → Prop) : Prop :=
  CallK Try.prog 35 [.pointer w_, .slice l.a l.len l.cap, .slice k.a k.len k.cap, .slice m.a m.len m.cap] [.one .b] w R

/-- A call of (*hindcast/hindcastref05.Table).Column. -/
def c36 (t : Option Addr) (column : Int) (w : World) (R : Sl → Int → World → Prop) : Prop :=
  CallK Try.prog 36 [.pointer t, .int .i64 column] [.one .sl, .one (.i .i64)] w R

/-- A call of (*hindcast/hindcastref05.Table).Find. -/
def c37 (t : Option Addr) (e_Index : Int) (e_Gen : Int) (w : World) (R : Int → World → Prop) : Prop :=
  CallK Try.prog 37 [.pointer t, .agg #[.int .i64 e_Index, .int .i64 e_Gen]] [.one (.i .i64)] w R

/-- A call of (*hindcast/hindcastref05.Table).Len. -/
def c38 (t : Option Addr) (w : World) (R : Int → World → Prop) : Prop :=
  CallK Try.prog 38 [.pointer t] [.one (.i .i64)] w R

/-- A call of (*hindcast/hindcastref05.Table).at. -/
def c39 (t : Option Addr) (row : Int) (column : Int) (w : World) (R : Int → World → Prop) : Prop :=
  CallK Try.prog 39 [.pointer t, .int .i64 row, .int .i64 column] [.one (.i .i64)] w R

/-- A call of hindcast/hindcastlaw05.same. -/
def c40 (a : Sl) (b : Sl) (w : World) (R : Bool → World → Prop) : Prop :=
  CallK Try.prog 40 [.slice a.a a.len a.cap, .slice b.a b.len b.cap] [.one .b] w R

/-- A call of (*hindcast/hindcastlaw05.World).takes. -/
def c41 (w_ : Option Addr) (l : Sl) (w : World) (R : World → Prop) : Prop :=
  CallK Try.prog 41 [.pointer w_, .slice l.a l.len l.cap] [] w R

/-- gosem.cut.init. -/
def f2 (w : World) (R : World → Prop) : Prop :=
  CallX Try.prog 1 [] [] w fun  (w : World) =>
  R w

theorem f2_eq (w : World) (R : World → Prop) :
    f2  w R = dFunc Try.prog ⟨[], []⟩ Try.f2 [] (fun v w' => viewRet [] v R w') w := by kernel_rfl

theorem c2_of {w : World} {R : World → Prop} (h : f2  w R) : c2  w R :=
  callK_of okP Try.func2 (by rw [← f2_eq]; exact h)

/-- hindcast/hindcastlaw05.TableKeeps. -/
def f3 (columns : Int) (raw : Sl) (w : World) (R : Bool → World → Prop) : Prop :=
  c6  w fun (head : Bool) (w : World) =>
  c7 columns 49 w fun (n_ : Int) (w : World) =>
  c8 n_ w fun (t : Option Addr) (e : Int) (w : World) =>
  if (cond (cond (!head) true (e != 0)) true t.isNone) = true then (R false w) else (Nw (.cells #[.bool false, .bool false, .bool false, .bool false, .bool false, .bool false, .bool false, .bool false, .bool false, .bool false, .bool false, .bool false, .bool false, .bool false, .bool false, .bool false, .bool false, .bool false, .bool false, .bool false, .bool false, .bool false, .bool false, .bool false, .bool false, .bool false, .bool false, .bool false, .bool false, .bool false, .bool false, .bool false, .bool false, .bool false, .bool false, .bool false, .bool false, .bool false, .bool false, .bool false] 29) w fun (there : Addr) (w : World) =>
  Nw (.cells #[.int .i64 0, .int .i64 0, .int .i64 0, .int .i64 0, .int .i64 0, .int .i64 0, .int .i64 0, .int .i64 0, .int .i64 0, .int .i64 0, .int .i64 0, .int .i64 0, .int .i64 0, .int .i64 0, .int .i64 0, .int .i64 0, .int .i64 0, .int .i64 0, .int .i64 0, .int .i64 0, .int .i64 0, .int .i64 0, .int .i64 0, .int .i64 0, .int .i64 0, .int .i64 0, .int .i64 0, .int .i64 0, .int .i64 0, .int .i64 0, .int .i64 0, .int .i64 0, .int .i64 0, .int .i64 0, .int .i64 0, .int .i64 0, .int .i64 0, .int .i64 0, .int .i64 0, .int .i64 0] 30) w fun (with_ : Addr) (w : World) =>
  ∃ Inv_ : Int → Int → Nat → World → Prop, (∃ n : Nat, Inv_ 0 0 n w) ∧ ∀ count : Int, ∀ i : Int, ∀ m : Nat, ∀ w : World, Inv_ count i m w → (if (cond (decide (i < (raw.len : Int))) (decide (i < 400)) false) = true then (Ix raw.a raw.len i 1 fun (a : Addr) =>
  Ld (.i .i64) w a fun (x : Int) =>
  c7 x 40 w fun (k : Int) (w : World) =>
  Nw (.cells #[.int .i64 0, .int .i64 0] 32) w fun (x2 : Addr) (w : World) =>
  St x2 (.int .i64 k) w fun (w : World) =>
  St (x2.add 1) (.int .i64 5) w fun (w : World) =>
  Ld (.i .i64) w x2 fun (x_Index : Int) => Ld (.i .i64) w (x2.add 1) fun (x_Gen : Int) => 
  c9 t x_Index x_Gen w fun (at_ : Int) (w : World) =>
  IxA there 40 k 1 fun (a2 : Addr) =>
  Ld .b w a2 fun (x3 : Bool) =>
  if (!((decide (at_ ≥ 0)) == x3)) = true then (R false w) else (∃ J_ : Int → World → Prop, (IxA there 40 k 1 fun (a3 : Addr) =>
  Ld .b w a3 fun (x4 : Bool) =>
  if (!x4) = true then (Mk [.int .i64 0] 2 8 n_ n_ w fun (v : Sl) (w : World) =>
  ∃ Inv_2 : Int → Nat → World → Prop, (∃ n : Nat, Inv_2 0 n w) ∧ ∀ j : Int, ∀ m3 : Nat, ∀ w : World, Inv_2 j m3 w → (if (decide (j < n_)) = true then (Ix v.a v.len j 1 fun (a4 : Addr) =>
  St a4 (.int .i64 (IntKind.i64.wrap ((IntKind.i64.wrap (i * 100)) + j))) w fun (w : World) =>
  ∃ m4 : Nat, m4 < m3 ∧ Inv_2 (IntKind.i64.wrap (j + 1)) m4 w) else (Ld (.i .i64) w x2 fun (x_Index2 : Int) => Ld (.i .i64) w (x2.add 1) fun (x_Gen2 : Int) => 
  c10 t x_Index2 x_Gen2 v w fun (row : Int) (f : Int) (w : World) =>
  if (cond (f != 0) true (row != count)) = true then (R false w) else (IxA with_ 40 k 1 fun (a5 : Addr) =>
  St a5 (.int .i64 (IntKind.i64.wrap (i * 100))) w fun (w : World) =>
  IxA there 40 k 1 fun (a6 : Addr) =>
  St a6 (.bool true) w fun (w : World) =>
  J_ (IntKind.i64.wrap (count + 1)) w)))) else (Ix raw.a raw.len i 1 fun (a7 : Addr) =>
  Ld (.i .i64) w a7 fun (x5 : Int) =>
  (40 : Int) ≠ 0 ∧ (c7 (IntKind.i64.wrap (Int.tdiv x5 40)) 3 w fun (r : Int) (w : World) =>
  if (r == 0) = true then (c11 t at_ w fun (y_Index : Int) (y_Gen : Int) (more : Bool) (f2 : Int) (w : World) =>
  Nw (.cells #[.int .i64 0, .int .i64 0] 32) w fun (y : Addr) (w : World) =>
  St y (.int .i64 y_Index) w fun (w : World) =>
  St (y.add 1) (.int .i64 y_Gen) w fun (w : World) =>
  ∃ J_2 : World → Prop, (if (f2 != 0) = true then (R false w) else (if (!(more == (at_ != (IntKind.i64.wrap (count - 1))))) = true then (R false w) else (if more = true then (Ld (.i .i64) w y fun (y_Index2 : Int) => Ld (.i .i64) w (y.add 1) fun (y_Gen2 : Int) => 
  c9 t y_Index2 y_Gen2 w fun (r2 : Int) (w : World) =>
  if (r2 != at_) = true then (R false w) else (J_2  w)) else (J_2  w)))) ∧ ∀ w : World, J_2  w → (IxA there 40 k 1 fun (a8 : Addr) =>
  St a8 (.bool false) w fun (w : World) =>
  J_ (IntKind.i64.wrap (count - 1)) w)) else (J_ count w)))) ∧ ∀ count2 : Int, ∀ w : World, J_ count2 w → (Dr w fun (w : World) =>
  c12 t w fun (r3 : Int) (w : World) =>
  if (r3 != count2) = true then (R false w) else (Ld (.i .i64) w x2 fun (x_Index3 : Int) => Ld (.i .i64) w (x2.add 1) fun (x_Gen3 : Int) => 
  IxA there 40 k 1 fun (a9 : Addr) =>
  Ld .b w a9 fun (x6 : Bool) =>
  c9 t x_Index3 x_Gen3 w fun (r4 : Int) (w : World) =>
  w.cell? a9 = some (.bool x6) ∧ (if (!((decide (r4 ≥ 0)) == x6)) = true then (R false w) else (∃ m2 : Nat, m2 < m ∧ Inv_ count2 (IntKind.i64.wrap (i + 1)) m2 w)))))) else (∃ Inv_3 : Int → Nat → World → Prop, (∃ n : Nat, Inv_3 0 n w) ∧ ∀ k2 : Int, ∀ m5 : Nat, ∀ w : World, Inv_3 k2 m5 w → (if (decide (k2 < 40)) = true then (Nw (.cells #[.int .i64 0, .int .i64 0] 32) w fun (x7 : Addr) (w : World) =>
  St x7 (.int .i64 k2) w fun (w : World) =>
  St (x7.add 1) (.int .i64 5) w fun (w : World) =>
  Ld (.i .i64) w x7 fun (x_Index4 : Int) => Ld (.i .i64) w (x7.add 1) fun (x_Gen4 : Int) => 
  c9 t x_Index4 x_Gen4 w fun (at_2 : Int) (w : World) =>
  ∃ J_3 : World → Prop, (IxA there 40 k2 1 fun (a10 : Addr) =>
  Ld .b w a10 fun (x8 : Bool) =>
  if (!((decide (at_2 ≥ 0)) == x8)) = true then (R false w) else (c9 t k2 4 w fun (r5 : Int) (w : World) =>
  if (decide (r5 ≥ 0)) = true then (R false w) else (J_3  w))) ∧ ∀ w : World, J_3  w → (if (decide (at_2 < 0)) = true then (∃ m6 : Nat, m6 < m5 ∧ Inv_3 (IntKind.i64.wrap (k2 + 1)) m6 w) else (c13 t at_2 w fun (y_Index3 : Int) (y_Gen3 : Int) (v2 : Sl) (f3 : Int) (w : World) =>
  Nw (.cells #[.int .i64 0, .int .i64 0] 32) w fun (y2 : Addr) (w : World) =>
  St y2 (.int .i64 y_Index3) w fun (w : World) =>
  St (y2.add 1) (.int .i64 y_Gen3) w fun (w : World) =>
  ∃ J_4 : World → Prop, (if (f3 != 0) = true then (R false w) else (Ld (.i .i64) w y2 fun (y_Index4 : Int) => Ld (.i .i64) w (y2.add 1) fun (y_Gen4 : Int) => 
  Ld (.i .i64) w x7 fun (x_Index5 : Int) => Ld (.i .i64) w (x7.add 1) fun (x_Gen5 : Int) => 
  RunRo .b Try.prog (binSem .neq 32 (.tmp 204) (.tmp 205) (.agg #[.int .i64 y_Index4, .int .i64 y_Gen4]) (.agg #[.int .i64 x_Index5, .int .i64 x_Gen5])) w fun (eq : Bool) =>
  if eq = true then (R false w) else (if ((v2.len : Int) != n_) = true then (R false w) else (J_4  w)))) ∧ ∀ w : World, J_4  w → (∃ Inv_4 : Int → Nat → World → Prop, (∃ n : Nat, Inv_4 0 n w) ∧ ∀ j2 : Int, ∀ m7 : Nat, ∀ w : World, Inv_4 j2 m7 w → (if (decide (j2 < n_)) = true then (c14 t j2 w fun (c : Sl) (g : Int) (w : World) =>
  Dr w fun (w : World) =>
  if (g != 0) = true then (R false w) else (if ((c.len : Int) != count) = true then (R false w) else (Ix c.a c.len at_2 1 fun (a11 : Addr) =>
  Ld (.i .i64) w a11 fun (x9 : Int) =>
  Ix v2.a v2.len j2 1 fun (a12 : Addr) =>
  Ld (.i .i64) w a12 fun (x10 : Int) =>
  if (x9 != x10) = true then (R false w) else (Ix v2.a v2.len j2 1 fun (a13 : Addr) =>
  Ld (.i .i64) w a13 fun (x11 : Int) =>
  IxA with_ 40 k2 1 fun (a14 : Addr) =>
  Ld (.i .i64) w a14 fun (x12 : Int) =>
  if (x11 != (IntKind.i64.wrap (x12 + j2))) = true then (R false w) else (∃ m8 : Nat, m8 < m7 ∧ Inv_4 (IntKind.i64.wrap (j2 + 1)) m8 w))))) else (∃ m6 : Nat, m6 < m5 ∧ Inv_3 (IntKind.i64.wrap (k2 + 1)) m6 w)))))) else (R true w)))))

theorem f3_eq (columns : Int) (raw : Sl) (w : World) (R : Bool → World → Prop) :
    f3 columns raw w R = dFunc Try.prog ⟨[(10, ⟨[(11, .i .i64), (12, .i .i64)], [1, 6, 7, 9, 10]⟩), (20, ⟨[(17, .i .i64)], [1, 6, 7, 9, 10, 11, 12, 13, 14, 16]⟩), (38, ⟨[(23, .i .i64)], [6, 7, 9, 10, 11]⟩), (49, ⟨[(29, .i .i64)], [6, 7, 9, 10, 11, 23, 25, 27]⟩)], [(33, ⟨[], [1, 6, 7, 9, 10, 11, 12, 13, 14]⟩), (35, ⟨[(11, .i .i64)], [1, 6, 7, 9, 10, 12, 13, 14]⟩), (44, ⟨[], [6, 7, 9, 10, 11, 23, 24, 25]⟩), (48, ⟨[], [6, 7, 9, 10, 11, 23, 25, 27]⟩)]⟩ Try.f3 [.int .i64 columns, .slice raw.a raw.len raw.cap] (fun v w' => viewRet [.one .b] v R w') w := by kernel_rfl

theorem c3_of {columns : Int} {raw : Sl} {w : World} {R : Bool → World → Prop} (h : f3 columns raw w R) : c3 columns raw w R :=
  callK_of okP Try.func3 (by rw [← f3_eq]; exact h)

/-- hindcast/hindcastlaw05.TableApart. -/
def f4 (raw : Sl) (more : Sl) (w : World) (R : Bool → World → Prop) : Prop :=
  c6  w fun (head : Bool) (w : World) =>
  c8 1 w fun (t : Option Addr) (e : Int) (w : World) =>
  if (cond (cond (!head) true (e != 0)) true t.isNone) = true then (R false w) else (∃ Inv_ : Int → Nat → World → Prop, (∃ n : Nat, Inv_ 0 n w) ∧ ∀ i : Int, ∀ m : Nat, ∀ w : World, Inv_ i m w → (if (cond (decide (i < (raw.len : Int))) (decide (i < 100)) false) = true then (Ix raw.a raw.len i 1 fun (a : Addr) =>
  Ld (.i .i64) w a fun (x : Int) =>
  c7 x 50 w fun (r : Int) (w : World) =>
  Nw (.cells #[.int .i64 i] 2) w fun (b : Addr) (w : World) =>
  c10 t r 1 ⟨some b, 1, 1⟩ w fun (r2 : Int) (r3 : Int) (w : World) =>
  ∃ m2 : Nat, m2 < m ∧ Inv_ (IntKind.i64.wrap (i + 1)) m2 w) else (c14 t 0 w fun (was : Sl) (x_ : Int) (w : World) =>
  c15 t w fun (c : Option Addr) (w : World) =>
  if c.isNone = true then (R false w) else (c14 c 0 w fun (same : Sl) (x_2 : Int) (w : World) =>
  ∃ Inv_2 : Int → Nat → World → Prop, (∃ n : Nat, Inv_2 0 n w) ∧ ∀ i2 : Int, ∀ m3 : Nat, ∀ w : World, Inv_2 i2 m3 w → (if (cond (decide (i2 < (more.len : Int))) (decide (i2 < 60)) false) = true then (∃ J_ : Option Addr → World → Prop, ((2 : Int) ≠ 0 ∧ (if ((Int.tmod i2 2) == 1) = true then (J_ t w) else (J_ c w))) ∧ ∀ x2 : Option Addr, ∀ w : World, J_ x2 w → (∃ J_2 : Option Addr → World → Prop, ((2 : Int) ≠ 0 ∧ (if ((Int.tmod i2 2) == 1) = true then (J_2 c w) else (J_2 t w))) ∧ ∀ other : Option Addr, ∀ w : World, J_2 other w → (c14 other 0 w fun (ahead : Sl) (x_3 : Int) (w : World) =>
  c12 other w fun (n_ : Int) (w : World) =>
  ∃ J_3 : World → Prop, (∃ J_4 : Bool → World → Prop, (Ix more.a more.len i2 1 fun (a2 : Addr) =>
  Ld (.i .i64) w a2 fun (x3 : Int) =>
  c7 x3 2 w fun (r4 : Int) (w : World) =>
  if (r4 == 0) = true then (c12 x2 w fun (r5 : Int) (w : World) =>
  J_4 (decide (r5 > 0)) w) else (J_4 false w)) ∧ ∀ t110 : Bool, ∀ w : World, J_4 t110 w → (if t110 = true then (Dr w fun (w : World) =>
  Ix more.a more.len i2 1 fun (a3 : Addr) =>
  Ld (.i .i64) w a3 fun (x4 : Int) =>
  (2 : Int) ≠ 0 ∧ (c12 x2 w fun (r6 : Int) (w : World) =>
  w.cell? a3 = some (.int .i64 x4) ∧ (c7 (IntKind.i64.wrap (Int.tdiv x4 2)) r6 w fun (r7 : Int) (w : World) =>
  c11 x2 r7 w fun (r_Index : Int) (r_Gen : Int) (r8 : Bool) (r9 : Int) (w : World) =>
  J_3  w))) else (Ix more.a more.len i2 1 fun (a4 : Addr) =>
  Ld (.i .i64) w a4 fun (x5 : Int) =>
  c7 x5 90 w fun (r10 : Int) (w : World) =>
  Nw (.cells #[.int .i64 (IntKind.i64.wrap (0 - i2))] 2) w fun (b2 : Addr) (w : World) =>
  c10 x2 r10 2 ⟨some b2, 1, 1⟩ w fun (r11 : Int) (r12 : Int) (w : World) =>
  c16 x2 0 0 12345 w fun (r13 : Int) (w : World) =>
  J_3  w))) ∧ ∀ w : World, J_3  w → (c14 other 0 w fun (behind : Sl) (x_4 : Int) (w : World) =>
  c12 other w fun (r14 : Int) (w : World) =>
  if (cond (r14 != n_) true ((ahead.len : Int) != (behind.len : Int))) = true then (R false w) else (∃ Inv_3 : Int → Nat → World → Prop, (∃ n : Nat, Inv_3 0 n w) ∧ ∀ k : Int, ∀ m5 : Nat, ∀ w : World, Inv_3 k m5 w → (if (decide (k < n_)) = true then (Dr w fun (w : World) =>
  Ix ahead.a ahead.len k 1 fun (a5 : Addr) =>
  Ld (.i .i64) w a5 fun (x6 : Int) =>
  Ix behind.a behind.len k 1 fun (a6 : Addr) =>
  Ld (.i .i64) w a6 fun (x7 : Int) =>
  if (x6 != x7) = true then (R false w) else (∃ m6 : Nat, m6 < m5 ∧ Inv_3 (IntKind.i64.wrap (k + 1)) m6 w)) else (∃ m4 : Nat, m4 < m3 ∧ Inv_2 (IntKind.i64.wrap (i2 + 1)) m4 w))))))) else (if ((was.len : Int) != (same.len : Int)) = true then (R false w) else (∃ Inv_4 : Int → Nat → World → Prop, (∃ n : Nat, Inv_4 0 n w) ∧ ∀ i3 : Int, ∀ m7 : Nat, ∀ w : World, Inv_4 i3 m7 w → (if (decide (i3 < (was.len : Int))) = true then (Dr w fun (w : World) =>
  Ix was.a was.len i3 1 fun (a7 : Addr) =>
  Ld (.i .i64) w a7 fun (x8 : Int) =>
  Ix same.a same.len i3 1 fun (a8 : Addr) =>
  Ld (.i .i64) w a8 fun (x9 : Int) =>
  if (x8 != x9) = true then (R false w) else (∃ m8 : Nat, m8 < m7 ∧ Inv_4 (IntKind.i64.wrap (i3 + 1)) m8 w)) else (R true w)))))))))

theorem f4_eq (raw : Sl) (more : Sl) (w : World) (R : Bool → World → Prop) :
    f4 raw more w R = dFunc Try.prog ⟨[(6, ⟨[(8, .i .i64)], [0, 1, 6]⟩), (15, ⟨[(14, .i .i64)], [1, 6, 9, 11, 12]⟩), (33, ⟨[(22, .i .i64)], [1, 6, 9, 11, 12, 14, 17, 19, 20]⟩), (40, ⟨[(23, .i .i64)], [9, 12]⟩)], [(20, ⟨[(15, .p)], [1, 6, 9, 11, 12, 14]⟩), (23, ⟨[(16, .p)], [1, 6, 9, 11, 12, 14, 15]⟩), (26, ⟨[(110, .b)], [1, 6, 9, 11, 12, 14, 15, 16, 17, 19]⟩), (29, ⟨[], [1, 6, 9, 11, 12, 14, 16, 17, 19]⟩)]⟩ Try.f4 [.slice raw.a raw.len raw.cap, .slice more.a more.len more.cap] (fun v w' => viewRet [.one .b] v R w') w := by kernel_rfl

theorem c4_of {raw : Sl} {more : Sl} {w : World} {R : Bool → World → Prop} (h : f4 raw more w R) : c4 raw more w R :=
  callK_of okP Try.func4 (by rw [← f4_eq]; exact h)

/-- hindcast/hindcastlaw05.TablePlays. -/
def f5 (script : Sl) (w : World) (R : Bool → World → Prop) : Prop :=
  c6  w fun (head : Bool) (w : World) =>
  Nw (.cells #[.slice none 0 0, .slice none 0 0, .slice none 0 0] 53) w fun (w_ : Addr) (w : World) =>
  c17 (some w_) 1 0 2 0 0 0 0 ⟨none, 0, 0⟩ w fun (first : Bool) (w : World) =>
  ∃ J_ : World → Prop, (if (!head) = true then (R false w) else (if (!first) = true then (R false w) else (Ld .sl w w_ fun (l : Sl) =>
  if ((l.len : Int) != 1) = true then (R false w) else (J_  w)))) ∧ ∀ w : World, J_  w → (∃ Inv_ : Int → Nat → World → Prop, (∃ n : Nat, Inv_ 0 n w) ∧ ∀ i : Int, ∀ m : Nat, ∀ w : World, Inv_ i m w → (if (cond (decide (i < (script.len : Int))) (decide (i < 300)) false) = true then (Ix script.a script.len i 8 fun (a : Addr) =>
  Ld (.i .i64) w a fun (x_Kind : Int) => Ld (.i .i64) w (a.add 1) fun (x_On : Int) => Ld (.i .i64) w (a.add 2) fun (x_Row : Int) => Ld (.i .i64) w (a.add 3) fun (x_Column : Int) => Ld (.i .i64) w (a.add 4) fun (x_E_Index : Int) => Ld (.i .i64) w (a.add 5) fun (x_E_Gen : Int) => Ld (.i .i64) w (a.add 6) fun (x_X : Int) => Ld .sl w (a.add 7) fun (x_V : Sl) => 
  c17 (some w_) x_Kind x_On x_Row x_Column x_E_Index x_E_Gen x_X x_V w fun (ok : Bool) (w : World) =>
  c18 (some w_) w fun (also : Bool) (w : World) =>
  if (cond (!ok) true (!also)) = true then (R false w) else (∃ m2 : Nat, m2 < m ∧ Inv_ (IntKind.i64.wrap (i + 1)) m2 w)) else (R true w)))

theorem f5_eq (script : Sl) (w : World) (R : Bool → World → Prop) :
    f5 script w R = dFunc Try.prog ⟨[(7, ⟨[(6, .i .i64)], [0, 4]⟩)], [(6, ⟨[], [0, 4]⟩)]⟩ Try.f5 [.slice script.a script.len script.cap] (fun v w' => viewRet [.one .b] v R w') w := by kernel_rfl

theorem c5_of {script : Sl} {w : World} {R : Bool → World → Prop} (h : f5 script w R) : c5 script w R :=
  callK_of okP Try.func5 (by rw [← f5_eq]; exact h)

/-- hindcast/hindcastlaw05.shown. -/
def f6 (w : World) (R : Bool → World → Prop) : Prop :=
  c8 2 w fun (t : Option Addr) (e : Int) (w : World) =>
  if (cond (e != 0) true t.isNone) = true then (R false w) else (Nw (.cells #[.int .i64 10, .int .i64 11] 2) w fun (b : Addr) (w : World) =>
  c10 t 7 1 ⟨some b, 2, 2⟩ w fun (a : Int) (f : Int) (w : World) =>
  Nw (.cells #[.int .i64 30, .int .i64 31] 2) w fun (b2 : Addr) (w : World) =>
  c10 t 9 3 ⟨some b2, 2, 2⟩ w fun (b3 : Int) (g : Int) (w : World) =>
  c11 t 0 w fun (x_Index : Int) (x_Gen : Int) (more : Bool) (h : Int) (w : World) =>
  Nw (.cells #[.int .i64 0, .int .i64 0] 32) w fun (x : Addr) (w : World) =>
  St x (.int .i64 x_Index) w fun (w : World) =>
  St (x.add 1) (.int .i64 x_Gen) w fun (w : World) =>
  c19 t 0 1 w fun (n_ : Int) (i : Int) (w : World) =>
  if (a == 0) = true then (if (b3 == 1) = true then (if (f == 0) = true then (if (g == 0) = true then (Ld (.i .i64) w x fun (x_Index2 : Int) => Ld (.i .i64) w (x.add 1) fun (x_Gen2 : Int) => 
  RunRo .b Try.prog (binSem .eql 32 (.tmp 62) (.tmp 63) (.agg #[.int .i64 x_Index2, .int .i64 x_Gen2]) (.agg #[.int .i64 9, .int .i64 3])) w fun (eq : Bool) =>
  if eq = true then (if more = true then (if (h == 0) = true then (if (n_ == 31) = true then (R (i == 0) w) else (R false w)) else (R false w)) else (R false w)) else (R false w)) else (R false w)) else (R false w)) else (R false w)) else (R false w))

theorem f6_eq (w : World) (R : Bool → World → Prop) :
    f6  w R = dFunc Try.prog ⟨[], []⟩ Try.f6 [] (fun v w' => viewRet [.one .b] v R w') w := by kernel_rfl

theorem c6_of {w : World} {R : Bool → World → Prop} (h : f6  w R) : c6  w R :=
  callK_of okP Try.func6 (by rw [← f6_eq]; exact h)

/-- hindcast/hindcastlaw05.pick. -/
def f7 (c : Int) (n_ : Int) (w : World) (R : Int → World → Prop) : Prop :=
  if (decide (c < 0)) = true then ((n_ : Int) ≠ 0 ∧ (R (Int.tmod (IntKind.i64.wrap (0 - (IntKind.i64.wrap (c + 1)))) n_) w)) else ((n_ : Int) ≠ 0 ∧ (R (Int.tmod c n_) w))

theorem f7_eq (c : Int) (n_ : Int) (w : World) (R : Int → World → Prop) :
    f7 c n_ w R = dFunc Try.prog ⟨[], []⟩ Try.f7 [.int .i64 c, .int .i64 n_] (fun v w' => viewRet [.one (.i .i64)] v R w') w := by kernel_rfl

theorem c7_of {c : Int} {n_ : Int} {w : World} {R : Int → World → Prop} (h : f7 c n_ w R) : c7 c n_ w R :=
  callK_of okP Try.func7 (by rw [← f7_eq]; exact h)

/-- hindcast/table.New. -/
def f8 (columns : Int) (w : World) (R : Option Addr → Int → World → Prop) : Prop :=
  if (cond (decide (columns < 0)) true (decide (columns > 48))) = true then (R none 1 w) else (Mk [.slice none 0 0] 34 24 columns columns w fun (s : Sl) (w : World) =>
  Nw (.map #[] 0) w fun (m : Addr) (w : World) =>
  Nw (.cells #[.slice none 0 0, .slice s.a s.len s.cap, .map (some m.block)] 63) w fun (a : Addr) (w : World) =>
  R (some a) 0 w)

theorem f8_eq (columns : Int) (w : World) (R : Option Addr → Int → World → Prop) :
    f8 columns w R = dFunc Try.prog ⟨[], []⟩ Try.f8 [.int .i64 columns] (fun v w' => viewRet [.one .p, .one (.i .i64)] v R w') w := by kernel_rfl

theorem c8_of {columns : Int} {w : World} {R : Option Addr → Int → World → Prop} (h : f8 columns w R) : c8 columns w R :=
  callK_of okP Try.func8 (by rw [← f8_eq]; exact h)

/-- (*hindcast/table.Table).Find. -/
def f9 (t : Option Addr) (e_Index : Int) (e_Gen : Int) (w : World) (R : Int → World → Prop) : Prop :=
  Nw (.cells #[.int .i64 e_Index, .int .i64 e_Gen] 32) w fun (e : Addr) (w : World) =>
  Dr w fun (w : World) =>
  NN t fun (t_ : Addr) =>
  Ld .m w (t_.add 2) fun (rows : Option Nat) =>
  Ld (.i .i64) w e fun (e_Index2 : Int) => Ld (.i .i64) w (e.add 1) fun (e_Gen2 : Int) => 
  RunRoL [.one (.i .i64), .one .b] Try.prog (Instr.lookup 60 (.map rows) (.agg #[.int .i64 e_Index2, .int .i64 e_Gen2]) true) w fun (e2 : Int) (ok : Bool) (_ : World) =>
  if ok = true then (R e2 w) else (R (-1) w)

theorem f9_eq (t : Option Addr) (e_Index : Int) (e_Gen : Int) (w : World) (R : Int → World → Prop) :
    f9 t e_Index e_Gen w R = dFunc Try.prog ⟨[], []⟩ Try.f9 [.pointer t, .agg #[.int .i64 e_Index, .int .i64 e_Gen]] (fun v w' => viewRet [.one (.i .i64)] v R w') w := by kernel_rfl

theorem c9_of {t : Option Addr} {e_Index : Int} {e_Gen : Int} {w : World} {R : Int → World → Prop} (h : f9 t e_Index e_Gen w R) : c9 t e_Index e_Gen w R :=
  callK_of okP Try.func9 (by rw [← f9_eq]; exact h)

/-- (*hindcast/table.Table).Add. -/
def f10 (t : Option Addr) (e_Index : Int) (e_Gen : Int) (values : Sl) (w : World) (R : Int → Int → World → Prop) : Prop :=
  Nw (.cells #[.int .i64 e_Index, .int .i64 e_Gen] 32) w fun (e : Addr) (w : World) =>
  Dr w fun (w : World) =>
  NN t fun (t_ : Addr) =>
  Ld .m w (t_.add 2) fun (rows : Option Nat) =>
  Ld (.i .i64) w e fun (e_Index2 : Int) => Ld (.i .i64) w (e.add 1) fun (e_Gen2 : Int) => 
  RunRoL [.one (.i .i64), .one .b] Try.prog (Instr.lookup 60 (.map rows) (.agg #[.int .i64 e_Index2, .int .i64 e_Gen2]) true) w fun (e2 : Int) (ok : Bool) (_ : World) =>
  NN t fun (t_2 : Addr) =>
  Ld .sl w t_2 fun (owners : Sl) =>
  NN t fun (t_3 : Addr) =>
  Ld .sl w (t_3.add 1) fun (columns : Sl) =>
  if ((values.len : Int) != (columns.len : Int)) = true then (R 0 63 w) else (if ok = true then (R 0 61 w) else (if (decide ((owners.len : Int) ≥ 200)) = true then (R 0 40 w) else (∃ Inv_ : Int → Nat → World → Prop, (∃ n : Nat, Inv_ 0 n w) ∧ ∀ t43 : Int, ∀ m : Nat, ∀ w : World, Inv_ t43 m w → (if (decide (t43 < (values.len : Int))) = true then (Ix values.a values.len t43 1 fun (a : Addr) =>
  Ld (.i .i64) w a fun (x : Int) =>
  Dr w fun (w : World) =>
  NN t fun (t_4 : Addr) =>
  Ld .sl w (t_4.add 1) fun (columns2 : Sl) =>
  NN t fun (t_5 : Addr) =>
  Ld .sl w (t_5.add 1) fun (columns3 : Sl) =>
  Ix columns3.a columns3.len t43 1 fun (a2 : Addr) =>
  Ld .sl w a2 fun (x2 : Sl) =>
  Nw (.cells #[.int .i64 x] 2) w fun (b : Addr) (w : World) =>
  Run .sl Try.prog (Builtin.append_ #[34, 34] 34 #[.slice x2.a x2.len x2.cap, .slice (some b) 1 1]) w fun (s : Sl) (w : World) =>
  w.cell? (t_4.add 1) = some (.slice columns2.a columns2.len columns2.cap) ∧ (Ix columns2.a columns2.len t43 1 fun (a3 : Addr) =>
  St a3 (.slice s.a s.len s.cap) w fun (w : World) =>
  ∃ m2 : Nat, m2 < m ∧ Inv_ (IntKind.i64.wrap (t43 + 1)) m2 w)) else (Dr w fun (w : World) =>
  NN t fun (t_6 : Addr) =>
  Ld .sl w t_6 fun (owners2 : Sl) =>
  Ld (.i .i64) w e fun (e_Index3 : Int) => Ld (.i .i64) w (e.add 1) fun (e_Gen3 : Int) => 
  Nw (.cells #[.int .i64 e_Index3, .int .i64 e_Gen3] 32) w fun (b2 : Addr) (w : World) =>
  Run .sl Try.prog (Builtin.append_ #[61, 61] 61 #[.slice owners2.a owners2.len owners2.cap, .slice (some b2) 1 1]) w fun (s2 : Sl) (w : World) =>
  NN t fun (t_7 : Addr) =>
  St t_7 (.slice s2.a s2.len s2.cap) w fun (w : World) =>
  Dr w fun (w : World) =>
  NN t fun (t_8 : Addr) =>
  Ld .m w (t_8.add 2) fun (rows2 : Option Nat) =>
  Ld (.i .i64) w e fun (e_Index4 : Int) => Ld (.i .i64) w (e.add 1) fun (e_Gen4 : Int) => 
  RunU Try.prog (Instr.mapUpdate 60 (.map rows2) (.agg #[.int .i64 e_Index4, .int .i64 e_Gen4]) (.int .i64 (owners.len : Int))) w fun (w : World) =>
  R (owners.len : Int) 0 w)))))

theorem f10_eq (t : Option Addr) (e_Index : Int) (e_Gen : Int) (values : Sl) (w : World) (R : Int → Int → World → Prop) :
    f10 t e_Index e_Gen values w R = dFunc Try.prog ⟨[(10, ⟨[(43, .i .i64)], [0, 4, 10, 41, 42]⟩)], []⟩ Try.f10 [.pointer t, .agg #[.int .i64 e_Index, .int .i64 e_Gen], .slice values.a values.len values.cap] (fun v w' => viewRet [.one (.i .i64), .one (.i .i64)] v R w') w := by kernel_rfl

theorem c10_of {t : Option Addr} {e_Index : Int} {e_Gen : Int} {values : Sl} {w : World} {R : Int → Int → World → Prop} (h : f10 t e_Index e_Gen values w R) : c10 t e_Index e_Gen values w R :=
  callK_of okP Try.func10 (by rw [← f10_eq]; exact h)

/-- (*hindcast/table.Table).Remove. -/
def f11 (t : Option Addr) (row : Int) (w : World) (R : Int → Int → Bool → Int → World → Prop) : Prop :=
  Nw (.cells #[.int .i64 0, .int .i64 0] 32) w fun (a : Addr) (w : World) =>
  c20 t row w fun (r : Bool) (w : World) =>
  if (!r) = true then (St a (.int .i64 0) w fun (w : World) =>
  St (a.add 1) (.int .i64 0) w fun (w : World) =>
  Ld (.i .i64) w a fun (r_Index : Int) => Ld (.i .i64) w (a.add 1) fun (r_Gen : Int) => 
  R r_Index r_Gen false 50 w) else (NN t fun (t_ : Addr) =>
  Ld .sl w t_ fun (owners : Sl) =>
  Dr w fun (w : World) =>
  NN t fun (t_2 : Addr) =>
  Ld .m w (t_2.add 2) fun (rows : Option Nat) =>
  NN t fun (t_3 : Addr) =>
  Ld .sl w t_3 fun (owners2 : Sl) =>
  Ix owners2.a owners2.len row 2 fun (a2 : Addr) =>
  Ld (.i .i64) w a2 fun (x_Index : Int) => Ld (.i .i64) w (a2.add 1) fun (x_Gen : Int) => 
  Run .v Try.prog (Builtin.delete_ #[60, 32] 0 #[.map rows, .agg #[.int .i64 x_Index, .int .i64 x_Gen]]) w fun (n_ : Value) (w : World) =>
  NN t fun (t_4 : Addr) =>
  Ld .sl w t_4 fun (owners3 : Sl) =>
  Ix owners3.a owners3.len (IntKind.i64.wrap ((owners.len : Int) - 1)) 2 fun (a3 : Addr) =>
  Ld (.i .i64) w a3 fun (moved_Index : Int) => Ld (.i .i64) w (a3.add 1) fun (moved_Gen : Int) => 
  Nw (.cells #[.int .i64 0, .int .i64 0] 32) w fun (moved : Addr) (w : World) =>
  St moved (.int .i64 moved_Index) w fun (w : World) =>
  St (moved.add 1) (.int .i64 moved_Gen) w fun (w : World) =>
  NN t fun (t_5 : Addr) =>
  Ld .sl w (t_5.add 1) fun (columns : Sl) =>
  ∃ Inv_ : Int → Nat → World → Prop, (∃ n : Nat, Inv_ 0 n w) ∧ ∀ t45 : Int, ∀ m : Nat, ∀ w : World, Inv_ t45 m w → (if (decide (t45 < (columns.len : Int))) = true then (Ix columns.a columns.len t45 1 fun (a4 : Addr) =>
  Ld .sl w a4 fun (l : Sl) =>
  Ix l.a l.len (IntKind.i64.wrap ((owners.len : Int) - 1)) 1 fun (a5 : Addr) =>
  Ld (.i .i64) w a5 fun (x : Int) =>
  Ix l.a l.len row 1 fun (a6 : Addr) =>
  St a6 (.int .i64 x) w fun (w : World) =>
  Dr w fun (w : World) =>
  NN t fun (t_6 : Addr) =>
  Ld .sl w (t_6.add 1) fun (columns2 : Sl) =>
  Cut ⟨l.a, l.len, l.cap⟩ 0 (IntKind.i64.wrap ((owners.len : Int) - 1)) (l.cap : Int) 1 fun (s : Sl) =>
  Ix columns2.a columns2.len t45 1 fun (a7 : Addr) =>
  St a7 (.slice s.a s.len s.cap) w fun (w : World) =>
  ∃ m2 : Nat, m2 < m ∧ Inv_ (IntKind.i64.wrap (t45 + 1)) m2 w) else (Dr w fun (w : World) =>
  NN t fun (t_7 : Addr) =>
  Ld .sl w t_7 fun (owners4 : Sl) =>
  Ld (.i .i64) w moved fun (moved_Index2 : Int) => Ld (.i .i64) w (moved.add 1) fun (moved_Gen2 : Int) => 
  Ix owners4.a owners4.len row 2 fun (a8 : Addr) =>
  St a8 (.int .i64 moved_Index2) w fun (w : World) =>
  St (a8.add 1) (.int .i64 moved_Gen2) w fun (w : World) =>
  NN t fun (t_8 : Addr) =>
  Ld .sl w t_8 fun (owners5 : Sl) =>
  Cut ⟨owners5.a, owners5.len, owners5.cap⟩ 0 (IntKind.i64.wrap ((owners.len : Int) - 1)) (owners5.cap : Int) 2 fun (s2 : Sl) =>
  NN t fun (t_9 : Addr) =>
  St t_9 (.slice s2.a s2.len s2.cap) w fun (w : World) =>
  if (row == (IntKind.i64.wrap ((owners.len : Int) - 1))) = true then (St a (.int .i64 0) w fun (w : World) =>
  St (a.add 1) (.int .i64 0) w fun (w : World) =>
  Ld (.i .i64) w a fun (r_Index2 : Int) => Ld (.i .i64) w (a.add 1) fun (r_Gen2 : Int) => 
  R r_Index2 r_Gen2 false 0 w) else (Dr w fun (w : World) =>
  NN t fun (t_10 : Addr) =>
  Ld .m w (t_10.add 2) fun (rows2 : Option Nat) =>
  Ld (.i .i64) w moved fun (moved_Index3 : Int) => Ld (.i .i64) w (moved.add 1) fun (moved_Gen3 : Int) => 
  RunU Try.prog (Instr.mapUpdate 60 (.map rows2) (.agg #[.int .i64 moved_Index3, .int .i64 moved_Gen3]) (.int .i64 row)) w fun (w : World) =>
  Ld (.i .i64) w moved fun (moved_Index4 : Int) => Ld (.i .i64) w (moved.add 1) fun (moved_Gen4 : Int) => 
  St a (.int .i64 moved_Index4) w fun (w : World) =>
  St (a.add 1) (.int .i64 moved_Gen4) w fun (w : World) =>
  Ld (.i .i64) w a fun (r_Index3 : Int) => Ld (.i .i64) w (a.add 1) fun (r_Gen3 : Int) => 
  R r_Index3 r_Gen3 true 0 w))))

theorem f11_eq (t : Option Addr) (row : Int) (w : World) (R : Int → Int → Bool → Int → World → Prop) :
    f11 t row w R = dFunc Try.prog ⟨[(7, ⟨[(45, .i .i64)], [0, 1, 4, 7, 8, 43, 44]⟩)], []⟩ Try.f11 [.pointer t, .int .i64 row] (fun v w' => viewRet [.agg [.i .i64, .i .i64], .one .b, .one (.i .i64)] v R w') w := by kernel_rfl

theorem c11_of {t : Option Addr} {row : Int} {w : World} {R : Int → Int → Bool → Int → World → Prop} (h : f11 t row w R) : c11 t row w R :=
  callK_of okP Try.func11 (by rw [← f11_eq]; exact h)

/-- (*hindcast/table.Table).Len. -/
def f12 (t : Option Addr) (w : World) (R : Int → World → Prop) : Prop :=
  NN t fun (t_ : Addr) =>
  Ld .sl w t_ fun (owners : Sl) =>
  R (owners.len : Int) w

theorem f12_eq (t : Option Addr) (w : World) (R : Int → World → Prop) :
    f12 t w R = dFunc Try.prog ⟨[], []⟩ Try.f12 [.pointer t] (fun v w' => viewRet [.one (.i .i64)] v R w') w := by kernel_rfl

theorem c12_of {t : Option Addr} {w : World} {R : Int → World → Prop} (h : f12 t w R) : c12 t w R :=
  callK_of okP Try.func12 (by rw [← f12_eq]; exact h)

/-- (*hindcast/table.Table).Row. -/
def f13 (t : Option Addr) (row : Int) (w : World) (R : Int → Int → Sl → Int → World → Prop) : Prop :=
  Nw (.cells #[.int .i64 0, .int .i64 0] 32) w fun (a : Addr) (w : World) =>
  c20 t row w fun (r : Bool) (w : World) =>
  if (!r) = true then (St a (.int .i64 0) w fun (w : World) =>
  St (a.add 1) (.int .i64 0) w fun (w : World) =>
  Ld (.i .i64) w a fun (r_Index : Int) => Ld (.i .i64) w (a.add 1) fun (r_Gen : Int) => 
  R r_Index r_Gen ⟨none, 0, 0⟩ 50 w) else (NN t fun (t_ : Addr) =>
  Ld .sl w (t_.add 1) fun (columns : Sl) =>
  ∃ Inv_ : Sl → Int → Nat → World → Prop, (∃ n : Nat, Inv_ ⟨none, 0, 0⟩ 0 n w) ∧ ∀ out : Sl, ∀ t20 : Int, ∀ m : Nat, ∀ w : World, Inv_ out t20 m w → (if (decide (t20 < (columns.len : Int))) = true then (Ix columns.a columns.len t20 1 fun (a2 : Addr) =>
  Ld .sl w a2 fun (l : Sl) =>
  Ix l.a l.len row 1 fun (a3 : Addr) =>
  Ld (.i .i64) w a3 fun (x : Int) =>
  Nw (.cells #[.int .i64 x] 2) w fun (b : Addr) (w : World) =>
  Run .sl Try.prog (Builtin.append_ #[34, 34] 34 #[.slice out.a out.len out.cap, .slice (some b) 1 1]) w fun (out2 : Sl) (w : World) =>
  ∃ m2 : Nat, m2 < m ∧ Inv_ out2 (IntKind.i64.wrap (t20 + 1)) m2 w) else (NN t fun (t_2 : Addr) =>
  Ld .sl w t_2 fun (owners : Sl) =>
  Ix owners.a owners.len row 2 fun (a4 : Addr) =>
  Ld (.i .i64) w a4 fun (x_Index : Int) => Ld (.i .i64) w (a4.add 1) fun (x_Gen : Int) => 
  St a (.int .i64 x_Index) w fun (w : World) =>
  St (a.add 1) (.int .i64 x_Gen) w fun (w : World) =>
  Ld (.i .i64) w a fun (r_Index2 : Int) => Ld (.i .i64) w (a.add 1) fun (r_Gen2 : Int) => 
  R r_Index2 r_Gen2 out 0 w)))

theorem f13_eq (t : Option Addr) (row : Int) (w : World) (R : Int → Int → Sl → Int → World → Prop) :
    f13 t row w R = dFunc Try.prog ⟨[(5, ⟨[(7, .sl), (20, .i .i64)], [0, 1, 4, 18, 19]⟩)], []⟩ Try.f13 [.pointer t, .int .i64 row] (fun v w' => viewRet [.agg [.i .i64, .i .i64], .one .sl, .one (.i .i64)] v R w') w := by kernel_rfl

theorem c13_of {t : Option Addr} {row : Int} {w : World} {R : Int → Int → Sl → Int → World → Prop} (h : f13 t row w R) : c13 t row w R :=
  callK_of okP Try.func13 (by rw [← f13_eq]; exact h)

/-- (*hindcast/table.Table).Column. -/
def f14 (t : Option Addr) (column : Int) (w : World) (R : Sl → Int → World → Prop) : Prop :=
  ∃ J_ : World → Prop, (if (decide (column < 0)) = true then (R ⟨none, 0, 0⟩ 63 w) else (NN t fun (t_ : Addr) =>
  Ld .sl w (t_.add 1) fun (columns : Sl) =>
  if (decide (column ≥ (columns.len : Int))) = true then (R ⟨none, 0, 0⟩ 63 w) else (J_  w))) ∧ ∀ w : World, J_  w → (NN t fun (t_2 : Addr) =>
  Ld .sl w (t_2.add 1) fun (columns2 : Sl) =>
  Ix columns2.a columns2.len column 1 fun (a : Addr) =>
  Ld .sl w a fun (x : Sl) =>
  c21 x w fun (r : Sl) (w : World) =>
  R r 0 w)

theorem f14_eq (t : Option Addr) (column : Int) (w : World) (R : Sl → Int → World → Prop) :
    f14 t column w R = dFunc Try.prog ⟨[], [(3, ⟨[], [0, 1]⟩)]⟩ Try.f14 [.pointer t, .int .i64 column] (fun v w' => viewRet [.one .sl, .one (.i .i64)] v R w') w := by kernel_rfl

theorem c14_of {t : Option Addr} {column : Int} {w : World} {R : Sl → Int → World → Prop} (h : f14 t column w R) : c14 t column w R :=
  callK_of okP Try.func14 (by rw [← f14_eq]; exact h)

/-- (*hindcast/table.Table).Clone. -/
def f15 (t : Option Addr) (w : World) (R : Option Addr → World → Prop) : Prop :=
  Dr w fun (w : World) =>
  NN t fun (t_ : Addr) =>
  Ld .sl w t_ fun (owners : Sl) =>
  NN t fun (t_2 : Addr) =>
  Ld .m w (t_2.add 2) fun (rows : Option Nat) =>
  c22 owners w fun (r : Sl) (w : World) =>
  w.cell? (t_2.add 2) = some (.map rows) ∧ (c23 rows w fun (r2 : Option Nat) (w : World) =>
  Nw (.cells #[.slice r.a r.len r.cap, .slice none 0 0, .map r2] 63) w fun (c : Addr) (w : World) =>
  NN t fun (t_3 : Addr) =>
  Ld .sl w (t_3.add 1) fun (columns : Sl) =>
  ∃ Inv_ : Int → Nat → World → Prop, (∃ n : Nat, Inv_ 0 n w) ∧ ∀ t23 : Int, ∀ m : Nat, ∀ w : World, Inv_ t23 m w → (if (decide (t23 < (columns.len : Int))) = true then (Ix columns.a columns.len t23 1 fun (a : Addr) =>
  Ld .sl w a fun (l : Sl) =>
  Dr w fun (w : World) =>
  Ld .sl w (c.add 1) fun (columns2 : Sl) =>
  c21 l w fun (r3 : Sl) (w : World) =>
  w.cell? (c.add 1) = some (.slice columns2.a columns2.len columns2.cap) ∧ (Nw (.cells #[.slice r3.a r3.len r3.cap] 34) w fun (b : Addr) (w : World) =>
  Run .sl Try.prog (Builtin.append_ #[51, 51] 51 #[.slice columns2.a columns2.len columns2.cap, .slice (some b) 1 1]) w fun (s : Sl) (w : World) =>
  St (c.add 1) (.slice s.a s.len s.cap) w fun (w : World) =>
  ∃ m2 : Nat, m2 < m ∧ Inv_ (IntKind.i64.wrap (t23 + 1)) m2 w)) else (R (some c) w)))

theorem f15_eq (t : Option Addr) (w : World) (R : Option Addr → World → Prop) :
    f15 t w R = dFunc Try.prog ⟨[(3, ⟨[(23, .i .i64)], [3, 21, 22]⟩)], []⟩ Try.f15 [.pointer t] (fun v w' => viewRet [.one .p] v R w') w := by kernel_rfl

theorem c15_of {t : Option Addr} {w : World} {R : Option Addr → World → Prop} (h : f15 t w R) : c15 t w R :=
  callK_of okP Try.func15 (by rw [← f15_eq]; exact h)

/-- (*hindcast/table.Table).Set. -/
def f16 (t : Option Addr) (row : Int) (column : Int) (x : Int) (w : World) (R : Int → World → Prop) : Prop :=
  c24 t row column w fun (e : Int) (w : World) =>
  if (e == 0) = true then (NN t fun (t_ : Addr) =>
  Ld .sl w (t_.add 1) fun (columns : Sl) =>
  Ix columns.a columns.len column 1 fun (a : Addr) =>
  Ld .sl w a fun (x2 : Sl) =>
  Ix x2.a x2.len row 1 fun (a2 : Addr) =>
  St a2 (.int .i64 x) w fun (w : World) =>
  R e w) else (R e w)

theorem f16_eq (t : Option Addr) (row : Int) (column : Int) (x : Int) (w : World) (R : Int → World → Prop) :
    f16 t row column x w R = dFunc Try.prog ⟨[], []⟩ Try.f16 [.pointer t, .int .i64 row, .int .i64 column, .int .i64 x] (fun v w' => viewRet [.one (.i .i64)] v R w') w := by kernel_rfl

theorem c16_of {t : Option Addr} {row : Int} {column : Int} {x : Int} {w : World} {R : Int → World → Prop} (h : f16 t row column x w R) : c16 t row column x w R :=
  callK_of okP Try.func16 (by rw [← f16_eq]; exact h)

/-- (*hindcast/hindcastlaw05.World).step. -/
def f17 (w_ : Option Addr) (o_Kind : Int) (o_On : Int) (o_Row : Int) (o_Column : Int) (o_E_Index : Int) (o_E_Gen : Int) (o_X : Int) (o_V : Sl) (w : World) (R : Bool → World → Prop) : Prop :=
  Nw (.cells #[.int .i64 o_Kind, .int .i64 o_On, .int .i64 o_Row, .int .i64 o_Column, .int .i64 o_E_Index, .int .i64 o_E_Gen, .int .i64 o_X, .slice o_V.a o_V.len o_V.cap] 56) w fun (o : Addr) (w : World) =>
  Ld (.i .i64) w o fun (Kind : Int) =>
  if (Kind == 1) = true then (Ld (.i .i64) w (o.add 2) fun (Row : Int) =>
  c8 Row w fun (t : Option Addr) (e : Int) (w : World) =>
  Ld (.i .i64) w (o.add 2) fun (Row2 : Int) =>
  c25 Row2 w fun (r : Option Addr) (f : Int) (w : World) =>
  ∃ J_ : World → Prop, (if (cond (!t.isNone) (!r.isNone) false) = true then (NN w_ fun (w_2 : Addr) =>
  Ld .sl w w_2 fun (l : Sl) =>
  Nw (.cells #[.pointer t, .pointer r] 74) w fun (b : Addr) (w : World) =>
  Run .sl Try.prog (Builtin.append_ #[50, 50] 50 #[.slice l.a l.len l.cap, .slice (some b) 1 1]) w fun (s : Sl) (w : World) =>
  NN w_ fun (w_3 : Addr) =>
  St w_3 (.slice s.a s.len s.cap) w fun (w : World) =>
  J_  w) else (J_  w)) ∧ ∀ w : World, J_  w → (R (cond (e == f) (t.isNone == r.isNone) false) w)) else (Dr w fun (w : World) =>
  NN w_ fun (w_4 : Addr) =>
  Ld .sl w w_4 fun (l2 : Sl) =>
  Ld (.i .i64) w (o.add 1) fun (On : Int) =>
  NN w_ fun (w_5 : Addr) =>
  Ld .sl w w_5 fun (l3 : Sl) =>
  FlS [(.cells #[.pointer none, .pointer none] 74, none)] w fun (y : Option Addr) (w : World) =>
  c7 On (l3.len : Int) w fun (r2 : Int) (w : World) =>
  w.cell? w_4 = some (.slice l2.a l2.len l2.cap) ∧ (Ix l2.a l2.len r2 2 fun (a : Addr) =>
  Ld .p w a fun (p_t : Option Addr) => Ld .p w (a.add 1) fun (p_r : Option Addr) => 
  FlS [(.cells #[.pointer none, .pointer none] 74, y)] w fun (y2 : Option Addr) (w : World) =>
  Need y2 fun (p : Addr) =>
  St p (.pointer p_t) w fun (w : World) =>
  St (p.add 1) (.pointer p_r) w fun (w : World) =>
  Ld (.i .i64) w o fun (Kind2 : Int) =>
  if (Kind2 == 2) = true then (Ld .p w p fun (p_t2 : Option Addr) => Ld .p w (p.add 1) fun (p_r2 : Option Addr) => 
  Ld (.i .i64) w (o.add 4) fun (E_Index : Int) => Ld (.i .i64) w ((o.add 4).add 1) fun (E_Gen : Int) => 
  Ld .sl w (o.add 7) fun (V : Sl) =>
  c26 p_t2 p_r2 E_Index E_Gen V w fun (r3 : Bool) (w : World) =>
  R r3 w) else (if (Kind2 == 3) = true then (Ld .p w p fun (t2 : Option Addr) =>
  Ld (.i .i64) w (o.add 2) fun (Row3 : Int) =>
  c11 t2 Row3 w fun (a_Index : Int) (a_Gen : Int) (b2 : Bool) (e2 : Int) (w : World) =>
  Nw (.cells #[.int .i64 0, .int .i64 0] 32) w fun (a2 : Addr) (w : World) =>
  St a2 (.int .i64 a_Index) w fun (w : World) =>
  St (a2.add 1) (.int .i64 a_Gen) w fun (w : World) =>
  Ld .p w (p.add 1) fun (r4 : Option Addr) =>
  Ld (.i .i64) w (o.add 2) fun (Row4 : Int) =>
  c27 r4 Row4 w fun (c_Index : Int) (c_Gen : Int) (d : Bool) (f2 : Int) (w : World) =>
  Nw (.cells #[.int .i64 0, .int .i64 0] 32) w fun (c : Addr) (w : World) =>
  St c (.int .i64 c_Index) w fun (w : World) =>
  St (c.add 1) (.int .i64 c_Gen) w fun (w : World) =>
  Ld (.i .i64) w a2 fun (a_Index2 : Int) => Ld (.i .i64) w (a2.add 1) fun (a_Gen2 : Int) => 
  Ld (.i .i64) w c fun (c_Index2 : Int) => Ld (.i .i64) w (c.add 1) fun (c_Gen2 : Int) => 
  RunRo .b Try.prog (binSem .eql 32 (.tmp 106) (.tmp 107) (.agg #[.int .i64 a_Index2, .int .i64 a_Gen2]) (.agg #[.int .i64 c_Index2, .int .i64 c_Gen2])) w fun (eq : Bool) =>
  R (cond (cond eq (b2 == d) false) (e2 == f2) false) w) else (if (Kind2 == 9) = true then (Ld .p w p fun (t3 : Option Addr) =>
  c15 t3 w fun (c2 : Option Addr) (w : World) =>
  Dr w fun (w : World) =>
  NN w_ fun (w_6 : Addr) =>
  Ld .sl w w_6 fun (l4 : Sl) =>
  Ld .p w (p.add 1) fun (r5 : Option Addr) =>
  c28 r5 w fun (r6 : Option Addr) (w : World) =>
  w.cell? w_6 = some (.slice l4.a l4.len l4.cap) ∧ (Nw (.cells #[.pointer c2, .pointer r6] 74) w fun (b3 : Addr) (w : World) =>
  Run .sl Try.prog (Builtin.append_ #[50, 50] 50 #[.slice l4.a l4.len l4.cap, .slice (some b3) 1 1]) w fun (s2 : Sl) (w : World) =>
  NN w_ fun (w_7 : Addr) =>
  St w_7 (.slice s2.a s2.len s2.cap) w fun (w : World) =>
  R (!c2.isNone) w)) else (if (Kind2 == 10) = true then (∃ Inv_ : Int → Nat → World → Prop, (∃ n : Nat, Inv_ 0 n w) ∧ ∀ i : Int, ∀ m : Nat, ∀ w : World, Inv_ i m w → (if (decide (i < 205)) = true then (Dr w fun (w : World) =>
  Ld .p w p fun (p_t3 : Option Addr) => Ld .p w (p.add 1) fun (p_r3 : Option Addr) => 
  Ld (.i .i64) w (o.add 2) fun (Row5 : Int) =>
  Ld .p w (p.add 1) fun (r7 : Option Addr) =>
  NN r7 fun (a3 : Addr) =>
  Ld (.i .i64) w a3 fun (N : Int) =>
  Mk [.int .i64 0] 2 8 N N w fun (s3 : Sl) (w : World) =>
  c26 p_t3 p_r3 i Row5 s3 w fun (ok : Bool) (w : World) =>
  if (!ok) = true then (R false w) else (∃ m2 : Nat, m2 < m ∧ Inv_ (IntKind.i64.wrap (i + 1)) m2 w)) else (R true w))) else (Ld .p w p fun (p_t4 : Option Addr) => Ld .p w (p.add 1) fun (p_r4 : Option Addr) => 
  Ld (.i .i64) w o fun (o_Kind2 : Int) => Ld (.i .i64) w (o.add 1) fun (o_On2 : Int) => Ld (.i .i64) w (o.add 2) fun (o_Row2 : Int) => Ld (.i .i64) w (o.add 3) fun (o_Column2 : Int) => Ld (.i .i64) w (o.add 4) fun (o_E_Index2 : Int) => Ld (.i .i64) w (o.add 5) fun (o_E_Gen2 : Int) => Ld (.i .i64) w (o.add 6) fun (o_X2 : Int) => Ld .sl w (o.add 7) fun (o_V2 : Sl) => 
  c29 w_ p_t4 p_r4 o_Kind2 o_On2 o_Row2 o_Column2 o_E_Index2 o_E_Gen2 o_X2 o_V2 w fun (r8 : Bool) (w : World) =>
  R r8 w))))))

theorem f17_eq (w_ : Option Addr) (o_Kind : Int) (o_On : Int) (o_Row : Int) (o_Column : Int) (o_E_Index : Int) (o_E_Gen : Int) (o_X : Int) (o_V : Sl) (w : World) (R : Bool → World → Prop) :
    f17 w_ o_Kind o_On o_Row o_Column o_E_Index o_E_Gen o_X o_V w R = dFunc Try.prog ⟨[(21, ⟨[(17, .i .i64)], [3, 9]⟩)], [(6, ⟨[], [5, 6, 7, 8]⟩)]⟩ Try.f17 [.pointer w_, .agg #[.int .i64 o_Kind, .int .i64 o_On, .int .i64 o_Row, .int .i64 o_Column, .int .i64 o_E_Index, .int .i64 o_E_Gen, .int .i64 o_X, .slice o_V.a o_V.len o_V.cap]] (fun v w' => viewRet [.one .b] v R w') w := by kernel_rfl

theorem c17_of {w_ : Option Addr} {o_Kind : Int} {o_On : Int} {o_Row : Int} {o_Column : Int} {o_E_Index : Int} {o_E_Gen : Int} {o_X : Int} {o_V : Sl} {w : World} {R : Bool → World → Prop} (h : f17 w_ o_Kind o_On o_Row o_Column o_E_Index o_E_Gen o_X o_V w R) : c17 w_ o_Kind o_On o_Row o_Column o_E_Index o_E_Gen o_X o_V w R :=
  callK_of okP Try.func17 (by rw [← f17_eq]; exact h)

/-- (*hindcast/hindcastlaw05.World).looks. -/
def f18 (w_ : Option Addr) (w : World) (R : Bool → World → Prop) : Prop :=
  ∃ Inv_ : Int → Nat → World → Prop, (∃ n : Nat, Inv_ 0 n w) ∧ ∀ i : Int, ∀ m : Nat, ∀ w : World, Inv_ i m w → (NN w_ fun (w_2 : Addr) =>
  Ld .sl w (w_2.add 1) fun (lists : Sl) =>
  if (decide (i < (lists.len : Int))) = true then (∃ Inv_2 : Int → Nat → World → Prop, (∃ n : Nat, Inv_2 0 n w) ∧ ∀ k : Int, ∀ m3 : Nat, ∀ w : World, Inv_2 k m3 w → (NN w_ fun (w_3 : Addr) =>
  Ld .sl w (w_3.add 1) fun (lists2 : Sl) =>
  Ix lists2.a lists2.len i 1 fun (a : Addr) =>
  Ld .sl w a fun (x : Sl) =>
  if (decide (k < (x.len : Int))) = true then (Dr w fun (w : World) =>
  NN w_ fun (w_4 : Addr) =>
  Ld .sl w (w_4.add 1) fun (lists3 : Sl) =>
  Ix lists3.a lists3.len i 1 fun (a2 : Addr) =>
  Ld .sl w a2 fun (x2 : Sl) =>
  Ix x2.a x2.len k 1 fun (a3 : Addr) =>
  Ld (.i .i64) w a3 fun (x3 : Int) =>
  NN w_ fun (w_5 : Addr) =>
  Ld .sl w (w_5.add 2) fun (marks : Sl) =>
  Ix marks.a marks.len i 1 fun (a4 : Addr) =>
  Ld (.i .i64) w a4 fun (x4 : Int) =>
  if (x3 != x4) = true then (R false w) else (∃ m4 : Nat, m4 < m3 ∧ Inv_2 (IntKind.i64.wrap (k + 1)) m4 w)) else (∃ m2 : Nat, m2 < m ∧ Inv_ (IntKind.i64.wrap (i + 1)) m2 w))) else (R true w))

theorem f18_eq (w_ : Option Addr) (w : World) (R : Bool → World → Prop) :
    f18 w_ w R = dFunc Try.prog ⟨[(2, ⟨[(3, .i .i64)], [0]⟩), (5, ⟨[(4, .i .i64)], [0, 3]⟩)], []⟩ Try.f18 [.pointer w_] (fun v w' => viewRet [.one .b] v R w') w := by kernel_rfl

theorem c18_of {w_ : Option Addr} {w : World} {R : Bool → World → Prop} (h : f18 w_ w R) : c18 w_ w R :=
  callK_of okP Try.func18 (by rw [← f18_eq]; exact h)

/-- (*hindcast/table.Table).Get. -/
def f19 (t : Option Addr) (row : Int) (column : Int) (w : World) (R : Int → Int → World → Prop) : Prop :=
  c24 t row column w fun (e : Int) (w : World) =>
  if (e != 0) = true then (R 0 e w) else (NN t fun (t_ : Addr) =>
  Ld .sl w (t_.add 1) fun (columns : Sl) =>
  Ix columns.a columns.len column 1 fun (a : Addr) =>
  Ld .sl w a fun (x : Sl) =>
  Ix x.a x.len row 1 fun (a2 : Addr) =>
  Ld (.i .i64) w a2 fun (x2 : Int) =>
  R x2 0 w)

theorem f19_eq (t : Option Addr) (row : Int) (column : Int) (w : World) (R : Int → Int → World → Prop) :
    f19 t row column w R = dFunc Try.prog ⟨[], []⟩ Try.f19 [.pointer t, .int .i64 row, .int .i64 column] (fun v w' => viewRet [.one (.i .i64), .one (.i .i64)] v R w') w := by kernel_rfl

theorem c19_of {t : Option Addr} {row : Int} {column : Int} {w : World} {R : Int → Int → World → Prop} (h : f19 t row column w R) : c19 t row column w R :=
  callK_of okP Try.func19 (by rw [← f19_eq]; exact h)

/-- (*hindcast/table.Table).there. -/
def f20 (t : Option Addr) (row : Int) (w : World) (R : Bool → World → Prop) : Prop :=
  if (decide (row ≥ 0)) = true then (NN t fun (t_ : Addr) =>
  Ld .sl w t_ fun (owners : Sl) =>
  R (decide (row < (owners.len : Int))) w) else (R false w)

theorem f20_eq (t : Option Addr) (row : Int) (w : World) (R : Bool → World → Prop) :
    f20 t row w R = dFunc Try.prog ⟨[], []⟩ Try.f20 [.pointer t, .int .i64 row] (fun v w' => viewRet [.one .b] v R w') w := by kernel_rfl

theorem c20_of {t : Option Addr} {row : Int} {w : World} {R : Bool → World → Prop} (h : f20 t row w R) : c20 t row w R :=
  callK_of okP Try.func20 (by rw [← f20_eq]; exact h)

/-- slices.Clone[[]int64,int64]. -/
def f21 (s : Sl) (w : World) (R : Sl → World → Prop) : Prop :=
  if s.a.isNone = true then (R ⟨none, 0, 0⟩ w) else (Nw (.cells #[] 2) w fun (b : Addr) (w : World) =>
  Run .sl Try.prog (Builtin.append_ #[34, 34] 34 #[.slice (some b) 0 0, .slice s.a s.len s.cap]) w fun (s2 : Sl) (w : World) =>
  R s2 w)

theorem f21_eq (s : Sl) (w : World) (R : Sl → World → Prop) :
    f21 s w R = dFunc Try.prog ⟨[], []⟩ Try.f21 [.slice s.a s.len s.cap] (fun v w' => viewRet [.one .sl] v R w') w := by kernel_rfl

theorem c21_of {s : Sl} {w : World} {R : Sl → World → Prop} (h : f21 s w R) : c21 s w R :=
  callK_of okP Try.func21 (by rw [← f21_eq]; exact h)

/-- slices.Clone[[]hindcast/api.Entity,hindcast/api.Entity]. -/
def f22 (s : Sl) (w : World) (R : Sl → World → Prop) : Prop :=
  if s.a.isNone = true then (R ⟨none, 0, 0⟩ w) else (Nw (.cells #[] 32) w fun (b : Addr) (w : World) =>
  Run .sl Try.prog (Builtin.append_ #[61, 61] 61 #[.slice (some b) 0 0, .slice s.a s.len s.cap]) w fun (s2 : Sl) (w : World) =>
  R s2 w)

theorem f22_eq (s : Sl) (w : World) (R : Sl → World → Prop) :
    f22 s w R = dFunc Try.prog ⟨[], []⟩ Try.f22 [.slice s.a s.len s.cap] (fun v w' => viewRet [.one .sl] v R w') w := by kernel_rfl

theorem c22_of {s : Sl} {w : World} {R : Sl → World → Prop} (h : f22 s w R) : c22 s w R :=
  callK_of okP Try.func22 (by rw [← f22_eq]; exact h)

/-- maps.Clone[map[hindcast/api.Entity]int,hindcast/api.Entity,int]. -/
def f23 (m : Option Nat) (w : World) (R : Option Nat → World → Prop) : Prop :=
  if m.isNone = true then (R none w) else (CallX Try.prog 30 [.iface 60 (.map m)] [.one .v] w fun (r : Value) (w : World) =>
  RunRoL [.one .m] Try.prog (Instr.typeAssert (r) 20 60 false) w fun (x : Option Nat) (_ : World) =>
  R x w)

theorem f23_eq (m : Option Nat) (w : World) (R : Option Nat → World → Prop) :
    f23 m w R = dFunc Try.prog ⟨[], []⟩ Try.f23 [.map m] (fun v w' => viewRet [.one .m] v R w') w := by kernel_rfl

theorem c23_of {m : Option Nat} {w : World} {R : Option Nat → World → Prop} (h : f23 m w R) : c23 m w R :=
  callK_of okP Try.func23 (by rw [← f23_eq]; exact h)

/-- (*hindcast/table.Table).cell. -/
def f24 (t : Option Addr) (row : Int) (column : Int) (w : World) (R : Int → World → Prop) : Prop :=
  c20 t row w fun (r : Bool) (w : World) =>
  if (!r) = true then (R 50 w) else (if (decide (column < 0)) = true then (R 63 w) else (NN t fun (t_ : Addr) =>
  Ld .sl w (t_.add 1) fun (columns : Sl) =>
  if (decide (column ≥ (columns.len : Int))) = true then (R 63 w) else (R 0 w)))

theorem f24_eq (t : Option Addr) (row : Int) (column : Int) (w : World) (R : Int → World → Prop) :
    f24 t row column w R = dFunc Try.prog ⟨[], []⟩ Try.f24 [.pointer t, .int .i64 row, .int .i64 column] (fun v w' => viewRet [.one (.i .i64)] v R w') w := by kernel_rfl

theorem c24_of {t : Option Addr} {row : Int} {column : Int} {w : World} {R : Int → World → Prop} (h : f24 t row column w R) : c24 t row column w R :=
  callK_of okP Try.func24 (by rw [← f24_eq]; exact h)

/-- hindcast/hindcastref05.New. -/
def f25 (columns : Int) (w : World) (R : Option Addr → Int → World → Prop) : Prop :=
  if (cond (decide (columns < 0)) true (decide (columns > 48))) = true then (R none 1 w) else (Nw (.cells #[.int .i64 columns, .slice none 0 0] 79) w fun (a : Addr) (w : World) =>
  R (some a) 0 w)

theorem f25_eq (columns : Int) (w : World) (R : Option Addr → Int → World → Prop) :
    f25 columns w R = dFunc Try.prog ⟨[], []⟩ Try.f25 [.int .i64 columns] (fun v w' => viewRet [.one .p, .one (.i .i64)] v R w') w := by kernel_rfl

theorem c25_of {columns : Int} {w : World} {R : Option Addr → Int → World → Prop} (h : f25 columns w R) : c25 columns w R :=
  callK_of okP Try.func25 (by rw [← f25_eq]; exact h)

/-- (hindcast/hindcastlaw05.pair).adds. -/
def f26 (p_t : Option Addr) (p_r : Option Addr) (e_Index : Int) (e_Gen : Int) (v : Sl) (w : World) (R : Bool → World → Prop) : Prop :=
  Nw (.cells #[.pointer p_t, .pointer p_r] 74) w fun (p : Addr) (w : World) =>
  Nw (.cells #[.int .i64 e_Index, .int .i64 e_Gen] 32) w fun (e : Addr) (w : World) =>
  Mk [.int .i64 0] 2 8 (IntKind.i64.wrap ((v.len : Int) + 8)) (IntKind.i64.wrap ((v.len : Int) + 8)) w fun (o : Sl) (w : World) =>
  Run (.i .i64) Try.prog (Builtin.copy_ #[34, 34] 3 #[.slice o.a o.len o.cap, .slice v.a v.len v.cap]) w fun (n_ : Int) (w : World) =>
  ∃ Inv_ : Int → Nat → World → Prop, (∃ n : Nat, Inv_ (v.len : Int) n w) ∧ ∀ i : Int, ∀ m : Nat, ∀ w : World, Inv_ i m w → (if (decide (i < (o.len : Int))) = true then (Ix o.a o.len i 1 fun (a : Addr) =>
  St a (.int .i64 (-77)) w fun (w : World) =>
  ∃ m2 : Nat, m2 < m ∧ Inv_ (IntKind.i64.wrap (i + 1)) m2 w) else (Dr w fun (w : World) =>
  Ld .p w p fun (t : Option Addr) =>
  Ld (.i .i64) w e fun (e_Index2 : Int) => Ld (.i .i64) w (e.add 1) fun (e_Gen2 : Int) => 
  Cut ⟨o.a, o.len, o.cap⟩ 0 (v.len : Int) (o.cap : Int) 1 fun (s : Sl) =>
  c10 t e_Index2 e_Gen2 s w fun (a2 : Int) (f : Int) (w : World) =>
  Dr w fun (w : World) =>
  Ld .p w p fun (t2 : Option Addr) =>
  Ld (.i .i64) w e fun (e_Index3 : Int) => Ld (.i .i64) w (e.add 1) fun (e_Gen3 : Int) => 
  Cut ⟨o.a, o.len, o.cap⟩ 0 (v.len : Int) (o.cap : Int) 1 fun (s2 : Sl) =>
  c10 t2 e_Index3 e_Gen3 s2 w fun (c : Int) (h : Int) (w : World) =>
  ∃ Inv_2 : Bool → Int → Nat → World → Prop, (∃ n : Nat, Inv_2 true 0 n w) ∧ ∀ kept : Bool, ∀ i2 : Int, ∀ m3 : Nat, ∀ w : World, Inv_2 kept i2 m3 w → (if (decide (i2 < (o.len : Int))) = true then (Dr w fun (w : World) =>
  if kept = true then (if (decide (i2 < (v.len : Int))) = true then (Ix o.a o.len i2 1 fun (a3 : Addr) =>
  Ld (.i .i64) w a3 fun (x : Int) =>
  Ix v.a v.len i2 1 fun (a4 : Addr) =>
  Ld (.i .i64) w a4 fun (x2 : Int) =>
  if (x == x2) = true then (Ix o.a o.len i2 1 fun (a5 : Addr) =>
  St a5 (.int .i64 88) w fun (w : World) =>
  ∃ m4 : Nat, m4 < m3 ∧ Inv_2 true (IntKind.i64.wrap (i2 + 1)) m4 w) else (if (decide (i2 ≥ (v.len : Int))) = true then (Ix o.a o.len i2 1 fun (a6 : Addr) =>
  Ld (.i .i64) w a6 fun (x3 : Int) =>
  Ix o.a o.len i2 1 fun (a7 : Addr) =>
  St a7 (.int .i64 88) w fun (w : World) =>
  ∃ m4 : Nat, m4 < m3 ∧ Inv_2 (x3 == (-77)) (IntKind.i64.wrap (i2 + 1)) m4 w) else (Ix o.a o.len i2 1 fun (a8 : Addr) =>
  St a8 (.int .i64 88) w fun (w : World) =>
  ∃ m4 : Nat, m4 < m3 ∧ Inv_2 false (IntKind.i64.wrap (i2 + 1)) m4 w))) else (if (decide (i2 ≥ (v.len : Int))) = true then (Ix o.a o.len i2 1 fun (a9 : Addr) =>
  Ld (.i .i64) w a9 fun (x4 : Int) =>
  Ix o.a o.len i2 1 fun (a10 : Addr) =>
  St a10 (.int .i64 88) w fun (w : World) =>
  ∃ m4 : Nat, m4 < m3 ∧ Inv_2 (x4 == (-77)) (IntKind.i64.wrap (i2 + 1)) m4 w) else (Ix o.a o.len i2 1 fun (a11 : Addr) =>
  St a11 (.int .i64 88) w fun (w : World) =>
  ∃ m4 : Nat, m4 < m3 ∧ Inv_2 false (IntKind.i64.wrap (i2 + 1)) m4 w))) else (Ix o.a o.len i2 1 fun (a12 : Addr) =>
  St a12 (.int .i64 88) w fun (w : World) =>
  ∃ m4 : Nat, m4 < m3 ∧ Inv_2 false (IntKind.i64.wrap (i2 + 1)) m4 w)) else (Ld .p w (p.add 1) fun (r : Option Addr) =>
  Ld (.i .i64) w e fun (e_Index4 : Int) => Ld (.i .i64) w (e.add 1) fun (e_Gen4 : Int) => 
  c31 r e_Index4 e_Gen4 v w fun (b : Int) (g : Int) (w : World) =>
  Ld .p w (p.add 1) fun (r2 : Option Addr) =>
  Ld (.i .i64) w e fun (e_Index5 : Int) => Ld (.i .i64) w (e.add 1) fun (e_Gen5 : Int) => 
  c31 r2 e_Index5 e_Gen5 v w fun (d : Int) (i3 : Int) (w : World) =>
  if (cond (cond (cond (cond (!kept) true (a2 != b)) true (f != g)) true (c != d)) true (h != i3)) = true then (R false w) else (Ld (.i .i64) w (e.add 1) fun (Gen : Int) =>
  if (Gen != 2) = true then (R true w) else (Ld (.i .i64) w e fun (Index : Int) =>
  Nw (.cells #[.int .i64 0, .int .i64 0] 32) w fun (other : Addr) (w : World) =>
  St other (.int .i64 Index) w fun (w : World) =>
  St (other.add 1) (.int .i64 3) w fun (w : World) =>
  Mk [.int .i64 0] 2 8 (v.len : Int) (v.len : Int) w fun (eights : Sl) (w : World) =>
  ∃ Inv_3 : Int → Nat → World → Prop, (∃ n : Nat, Inv_3 0 n w) ∧ ∀ k : Int, ∀ m5 : Nat, ∀ w : World, Inv_3 k m5 w → (if (decide (k < (eights.len : Int))) = true then (Ix eights.a eights.len k 1 fun (a13 : Addr) =>
  St a13 (.int .i64 88) w fun (w : World) =>
  ∃ m6 : Nat, m6 < m5 ∧ Inv_3 (IntKind.i64.wrap (k + 1)) m6 w) else (Dr w fun (w : World) =>
  Ld .p w p fun (t3 : Option Addr) =>
  Ld (.i .i64) w other fun (other_Index : Int) => Ld (.i .i64) w (other.add 1) fun (other_Gen : Int) => 
  Cut ⟨o.a, o.len, o.cap⟩ 0 (v.len : Int) (o.cap : Int) 1 fun (s3 : Sl) =>
  c10 t3 other_Index other_Gen s3 w fun (j : Int) (k2 : Int) (w : World) =>
  Ld .p w (p.add 1) fun (r3 : Option Addr) =>
  Ld (.i .i64) w other fun (other_Index2 : Int) => Ld (.i .i64) w (other.add 1) fun (other_Gen2 : Int) => 
  c31 r3 other_Index2 other_Gen2 eights w fun (m7 : Int) (n_2 : Int) (w : World) =>
  R (cond (j == m7) (k2 == n_2) false) w))))))))

theorem f26_eq (p_t : Option Addr) (p_r : Option Addr) (e_Index : Int) (e_Gen : Int) (v : Sl) (w : World) (R : Bool → World → Prop) :
    f26 p_t p_r e_Index e_Gen v w R = dFunc Try.prog ⟨[(4, ⟨[(8, .i .i64)], [2, 3, 4, 7]⟩), (11, ⟨[(13, .b), (14, .i .i64)], [2, 3, 4, 7, 9, 10, 11, 12]⟩), (24, ⟨[(21, .i .i64)], [2, 3, 7, 19, 20]⟩)], []⟩ Try.f26 [.agg #[.pointer p_t, .pointer p_r], .agg #[.int .i64 e_Index, .int .i64 e_Gen], .slice v.a v.len v.cap] (fun v w' => viewRet [.one .b] v R w') w := by kernel_rfl

theorem c26_of {p_t : Option Addr} {p_r : Option Addr} {e_Index : Int} {e_Gen : Int} {v : Sl} {w : World} {R : Bool → World → Prop} (h : f26 p_t p_r e_Index e_Gen v w R) : c26 p_t p_r e_Index e_Gen v w R :=
  callK_of okP Try.func26 (by rw [← f26_eq]; exact h)

/-- (*hindcast/hindcastref05.Table).Remove. -/
def f27 (t : Option Addr) (row : Int) (w : World) (R : Int → Int → Bool → Int → World → Prop) : Prop :=
  Nw (.cells #[.int .i64 0, .int .i64 0] 32) w fun (a : Addr) (w : World) =>
  ∃ J_ : Bool → World → Prop, (if (decide (row < 0)) = true then (J_ true w) else (NN t fun (t_ : Addr) =>
  Ld .sl w (t_.add 1) fun (L : Sl) =>
  J_ (decide (row ≥ (L.len : Int))) w)) ∧ ∀ t19 : Bool, ∀ w : World, J_ t19 w → (if t19 = true then (St a (.int .i64 0) w fun (w : World) =>
  St (a.add 1) (.int .i64 0) w fun (w : World) =>
  Ld (.i .i64) w a fun (r_Index : Int) => Ld (.i .i64) w (a.add 1) fun (r_Gen : Int) => 
  R r_Index r_Gen false 50 w) else (NN t fun (t_2 : Addr) =>
  Ld .sl w (t_2.add 1) fun (L2 : Sl) =>
  NN t fun (t_3 : Addr) =>
  Ld .sl w (t_3.add 1) fun (L3 : Sl) =>
  Ix L3.a L3.len (IntKind.i64.wrap ((L2.len : Int) - 1)) 3 fun (a2 : Addr) =>
  Ld (.i .i64) w a2 fun (x_E_Index : Int) => Ld (.i .i64) w (a2.add 1) fun (x_E_Gen : Int) => Ld .sl w (a2.add 2) fun (x_V : Sl) => 
  Nw (.cells #[.int .i64 0, .int .i64 0, .slice none 0 0] 83) w fun (x : Addr) (w : World) =>
  St x (.int .i64 x_E_Index) w fun (w : World) =>
  St (x.add 1) (.int .i64 x_E_Gen) w fun (w : World) =>
  St (x.add 2) (.slice x_V.a x_V.len x_V.cap) w fun (w : World) =>
  Nw (.cells #[] 83) w fun (b : Addr) (w : World) =>
  NN t fun (t_4 : Addr) =>
  Ld .sl w (t_4.add 1) fun (L4 : Sl) =>
  Cut ⟨L4.a, L4.len, L4.cap⟩ 0 (IntKind.i64.wrap ((L2.len : Int) - 1)) (L4.cap : Int) 3 fun (s : Sl) =>
  Run .sl Try.prog (Builtin.append_ #[77, 77] 77 #[.slice (some b) 0 0, .slice s.a s.len s.cap]) w fun (s2 : Sl) (w : World) =>
  NN t fun (t_5 : Addr) =>
  St (t_5.add 1) (.slice s2.a s2.len s2.cap) w fun (w : World) =>
  if (row == (IntKind.i64.wrap ((L2.len : Int) - 1))) = true then (St a (.int .i64 0) w fun (w : World) =>
  St (a.add 1) (.int .i64 0) w fun (w : World) =>
  Ld (.i .i64) w a fun (r_Index2 : Int) => Ld (.i .i64) w (a.add 1) fun (r_Gen2 : Int) => 
  R r_Index2 r_Gen2 false 0 w) else (Dr w fun (w : World) =>
  NN t fun (t_6 : Addr) =>
  Ld .sl w (t_6.add 1) fun (L5 : Sl) =>
  Ld (.i .i64) w x fun (x_E_Index2 : Int) => Ld (.i .i64) w (x.add 1) fun (x_E_Gen2 : Int) => Ld .sl w (x.add 2) fun (x_V2 : Sl) => 
  Ix L5.a L5.len row 3 fun (a3 : Addr) =>
  St a3 (.int .i64 x_E_Index2) w fun (w : World) =>
  St (a3.add 1) (.int .i64 x_E_Gen2) w fun (w : World) =>
  St (a3.add 2) (.slice x_V2.a x_V2.len x_V2.cap) w fun (w : World) =>
  Ld (.i .i64) w x fun (E_Index : Int) => Ld (.i .i64) w (x.add 1) fun (E_Gen : Int) => 
  St a (.int .i64 E_Index) w fun (w : World) =>
  St (a.add 1) (.int .i64 E_Gen) w fun (w : World) =>
  Ld (.i .i64) w a fun (r_Index3 : Int) => Ld (.i .i64) w (a.add 1) fun (r_Gen3 : Int) => 
  R r_Index3 r_Gen3 true 0 w)))

theorem f27_eq (t : Option Addr) (row : Int) (w : World) (R : Int → Int → Bool → Int → World → Prop) :
    f27 t row w R = dFunc Try.prog ⟨[], [(2, ⟨[(19, .b)], [0, 1, 4]⟩)]⟩ Try.f27 [.pointer t, .int .i64 row] (fun v w' => viewRet [.agg [.i .i64, .i .i64], .one .b, .one (.i .i64)] v R w') w := by kernel_rfl

theorem c27_of {t : Option Addr} {row : Int} {w : World} {R : Int → Int → Bool → Int → World → Prop} (h : f27 t row w R) : c27 t row w R :=
  callK_of okP Try.func27 (by rw [← f27_eq]; exact h)

/-- (*hindcast/hindcastref05.Table).Clone. -/
def f28 (t : Option Addr) (w : World) (R : Option Addr → World → Prop) : Prop :=
  NN t fun (t_ : Addr) =>
  Ld (.i .i64) w t_ fun (N : Int) =>
  Nw (.cells #[.int .i64 N, .slice none 0 0] 79) w fun (c : Addr) (w : World) =>
  ∃ Inv_ : Int → Nat → World → Prop, (∃ n : Nat, Inv_ 0 n w) ∧ ∀ i : Int, ∀ m : Nat, ∀ w : World, Inv_ i m w → (NN t fun (t_2 : Addr) =>
  Ld .sl w (t_2.add 1) fun (L : Sl) =>
  if (decide (i < (L.len : Int))) = true then (Dr w fun (w : World) =>
  Ld .sl w (c.add 1) fun (L2 : Sl) =>
  NN t fun (t_3 : Addr) =>
  Ld .sl w (t_3.add 1) fun (L3 : Sl) =>
  Ix L3.a L3.len i 3 fun (a : Addr) =>
  Ld (.i .i64) w a fun (E_Index : Int) => Ld (.i .i64) w (a.add 1) fun (E_Gen : Int) => 
  NN t fun (t_4 : Addr) =>
  Ld .sl w (t_4.add 1) fun (L4 : Sl) =>
  Ix L4.a L4.len i 3 fun (a2 : Addr) =>
  Ld .sl w (a2.add 2) fun (V : Sl) =>
  Nw (.cells #[] 2) w fun (b : Addr) (w : World) =>
  Run .sl Try.prog (Builtin.append_ #[34, 34] 34 #[.slice (some b) 0 0, .slice V.a V.len V.cap]) w fun (s : Sl) (w : World) =>
  w.cell? a = some (.int .i64 E_Index) ∧ w.cell? (a.add 1) = some (.int .i64 E_Gen) ∧ w.cell? (t_3.add 1) = some (.slice L3.a L3.len L3.cap) ∧ w.cell? (c.add 1) = some (.slice L2.a L2.len L2.cap) ∧ (Nw (.cells #[.int .i64 E_Index, .int .i64 E_Gen, .slice s.a s.len s.cap] 83) w fun (b2 : Addr) (w : World) =>
  Run .sl Try.prog (Builtin.append_ #[77, 77] 77 #[.slice L2.a L2.len L2.cap, .slice (some b2) 1 1]) w fun (s2 : Sl) (w : World) =>
  St (c.add 1) (.slice s2.a s2.len s2.cap) w fun (w : World) =>
  ∃ m2 : Nat, m2 < m ∧ Inv_ (IntKind.i64.wrap (i + 1)) m2 w)) else (R (some c) w))

theorem f28_eq (t : Option Addr) (w : World) (R : Option Addr → World → Prop) :
    f28 t w R = dFunc Try.prog ⟨[(3, ⟨[(4, .i .i64)], [0, 3]⟩)], []⟩ Try.f28 [.pointer t] (fun v w' => viewRet [.one .p] v R w') w := by kernel_rfl

theorem c28_of {t : Option Addr} {w : World} {R : Option Addr → World → Prop} (h : f28 t w R) : c28 t w R :=
  callK_of okP Try.func28 (by rw [← f28_eq]; exact h)

/-- (*hindcast/hindcastlaw05.World).asked. -/
def f29 (w_ : Option Addr) (p_t : Option Addr) (p_r : Option Addr) (o_Kind : Int) (o_On : Int) (o_Row : Int) (o_Column : Int) (o_E_Index : Int) (o_E_Gen : Int) (o_X : Int) (o_V : Sl) (w : World) (R : Bool → World → Prop) : Prop :=
  Nw (.cells #[.pointer p_t, .pointer p_r] 74) w fun (p : Addr) (w : World) =>
  Nw (.cells #[.int .i64 o_Kind, .int .i64 o_On, .int .i64 o_Row, .int .i64 o_Column, .int .i64 o_E_Index, .int .i64 o_E_Gen, .int .i64 o_X, .slice o_V.a o_V.len o_V.cap] 56) w fun (o : Addr) (w : World) =>
  Ld (.i .i64) w o fun (Kind : Int) =>
  if (Kind == 4) = true then (Ld .p w p fun (t : Option Addr) =>
  Ld (.i .i64) w (o.add 2) fun (Row : Int) =>
  Ld (.i .i64) w (o.add 3) fun (Column : Int) =>
  c19 t Row Column w fun (a : Int) (e : Int) (w : World) =>
  Ld .p w (p.add 1) fun (r : Option Addr) =>
  Ld (.i .i64) w (o.add 2) fun (Row2 : Int) =>
  Ld (.i .i64) w (o.add 3) fun (Column2 : Int) =>
  c32 r Row2 Column2 w fun (b : Int) (f : Int) (w : World) =>
  R (cond (a == b) (e == f) false) w) else (if (Kind == 5) = true then (Dr w fun (w : World) =>
  Ld .p w p fun (t2 : Option Addr) =>
  Ld (.i .i64) w (o.add 2) fun (Row3 : Int) =>
  Ld (.i .i64) w (o.add 3) fun (Column3 : Int) =>
  Ld (.i .i64) w (o.add 6) fun (X : Int) =>
  Ld .p w (p.add 1) fun (r2 : Option Addr) =>
  Ld (.i .i64) w (o.add 2) fun (Row4 : Int) =>
  Ld (.i .i64) w (o.add 3) fun (Column4 : Int) =>
  Ld (.i .i64) w (o.add 6) fun (X2 : Int) =>
  c16 t2 Row3 Column3 X w fun (r3 : Int) (w : World) =>
  w.cell? (o.add 6) = some (.int .i64 X2) ∧ w.cell? (o.add 3) = some (.int .i64 Column4) ∧ w.cell? (o.add 2) = some (.int .i64 Row4) ∧ w.cell? (p.add 1) = some (.pointer r2) ∧ (c33 r2 Row4 Column4 X2 w fun (r4 : Int) (w : World) =>
  R (r3 == r4) w)) else (if (Kind == 6) = true then (Ld .p w p fun (t3 : Option Addr) =>
  Ld (.i .i64) w (o.add 2) fun (Row5 : Int) =>
  c13 t3 Row5 w fun (a_Index : Int) (a_Gen : Int) (l : Sl) (e2 : Int) (w : World) =>
  Nw (.cells #[.int .i64 0, .int .i64 0] 32) w fun (a2 : Addr) (w : World) =>
  St a2 (.int .i64 a_Index) w fun (w : World) =>
  St (a2.add 1) (.int .i64 a_Gen) w fun (w : World) =>
  Ld .p w p fun (t4 : Option Addr) =>
  Ld (.i .i64) w (o.add 2) fun (Row6 : Int) =>
  c13 t4 (IntKind.i64.wrap (Row6 + 1)) w fun (r_Index : Int) (r_Gen : Int) (r5 : Sl) (r6 : Int) (w : World) =>
  Ld .p w p fun (t5 : Option Addr) =>
  Ld (.i .i64) w (o.add 2) fun (Row7 : Int) =>
  c13 t5 Row7 w fun (c_Index : Int) (c_Gen : Int) (k : Sl) (g : Int) (w : World) =>
  Nw (.cells #[.int .i64 0, .int .i64 0] 32) w fun (c : Addr) (w : World) =>
  St c (.int .i64 c_Index) w fun (w : World) =>
  St (c.add 1) (.int .i64 c_Gen) w fun (w : World) =>
  Ld .p w (p.add 1) fun (r7 : Option Addr) =>
  Ld (.i .i64) w (o.add 2) fun (Row8 : Int) =>
  c34 r7 Row8 w fun (b_Index : Int) (b_Gen : Int) (m : Sl) (f2 : Int) (w : World) =>
  Nw (.cells #[.int .i64 0, .int .i64 0] 32) w fun (b2 : Addr) (w : World) =>
  St b2 (.int .i64 b_Index) w fun (w : World) =>
  St (b2.add 1) (.int .i64 b_Gen) w fun (w : World) =>
  c35 w_ l k m w fun (ok : Bool) (w : World) =>
  if ok = true then (Ld (.i .i64) w a2 fun (a_Index2 : Int) => Ld (.i .i64) w (a2.add 1) fun (a_Gen2 : Int) => 
  Ld (.i .i64) w b2 fun (b_Index2 : Int) => Ld (.i .i64) w (b2.add 1) fun (b_Gen2 : Int) => 
  RunRo .b Try.prog (binSem .eql 32 (.tmp 123) (.tmp 124) (.agg #[.int .i64 a_Index2, .int .i64 a_Gen2]) (.agg #[.int .i64 b_Index2, .int .i64 b_Gen2])) w fun (eq : Bool) =>
  if eq = true then (Ld (.i .i64) w c fun (c_Index2 : Int) => Ld (.i .i64) w (c.add 1) fun (c_Gen2 : Int) => 
  Ld (.i .i64) w b2 fun (b_Index3 : Int) => Ld (.i .i64) w (b2.add 1) fun (b_Gen3 : Int) => 
  RunRo .b Try.prog (binSem .eql 32 (.tmp 128) (.tmp 129) (.agg #[.int .i64 c_Index2, .int .i64 c_Gen2]) (.agg #[.int .i64 b_Index3, .int .i64 b_Gen3])) w fun (eq2 : Bool) =>
  if eq2 = true then (if (e2 == f2) = true then (R (g == f2) w) else (R false w)) else (R false w)) else (R false w)) else (R false w)) else (if (Kind == 7) = true then (Ld .p w p fun (t6 : Option Addr) =>
  Ld (.i .i64) w (o.add 3) fun (Column5 : Int) =>
  c14 t6 Column5 w fun (l2 : Sl) (e3 : Int) (w : World) =>
  Ld .p w p fun (t7 : Option Addr) =>
  c14 t7 0 w fun (r8 : Sl) (r9 : Int) (w : World) =>
  Ld .p w p fun (t8 : Option Addr) =>
  Ld (.i .i64) w (o.add 3) fun (Column6 : Int) =>
  c14 t8 Column6 w fun (k2 : Sl) (g2 : Int) (w : World) =>
  Ld .p w (p.add 1) fun (r10 : Option Addr) =>
  Ld (.i .i64) w (o.add 3) fun (Column7 : Int) =>
  c36 r10 Column7 w fun (m2 : Sl) (f3 : Int) (w : World) =>
  c35 w_ l2 k2 m2 w fun (ok2 : Bool) (w : World) =>
  R (cond (cond ok2 (e3 == f3) false) (g2 == f3) false) w) else (if (Kind == 8) = true then (Dr w fun (w : World) =>
  Ld .p w p fun (t9 : Option Addr) =>
  Ld (.i .i64) w (o.add 4) fun (E_Index : Int) => Ld (.i .i64) w ((o.add 4).add 1) fun (E_Gen : Int) => 
  Ld .p w (p.add 1) fun (r11 : Option Addr) =>
  Ld (.i .i64) w (o.add 4) fun (E_Index2 : Int) => Ld (.i .i64) w ((o.add 4).add 1) fun (E_Gen2 : Int) => 
  c9 t9 E_Index E_Gen w fun (r12 : Int) (w : World) =>
  w.cell? (o.add 4) = some (.int .i64 E_Index2) ∧ w.cell? ((o.add 4).add 1) = some (.int .i64 E_Gen2) ∧ w.cell? (p.add 1) = some (.pointer r11) ∧ (c37 r11 E_Index2 E_Gen2 w fun (r13 : Int) (w : World) =>
  if (r12 == r13) = true then (Ld .p w p fun (t10 : Option Addr) =>
  Ld .p w (p.add 1) fun (r14 : Option Addr) =>
  c12 t10 w fun (r15 : Int) (w : World) =>
  w.cell? (p.add 1) = some (.pointer r14) ∧ (c38 r14 w fun (r16 : Int) (w : World) =>
  R (r15 == r16) w)) else (R false w))) else (R true w)))))

theorem f29_eq (w_ : Option Addr) (p_t : Option Addr) (p_r : Option Addr) (o_Kind : Int) (o_On : Int) (o_Row : Int) (o_Column : Int) (o_E_Index : Int) (o_E_Gen : Int) (o_X : Int) (o_V : Sl) (w : World) (R : Bool → World → Prop) :
    f29 w_ p_t p_r o_Kind o_On o_Row o_Column o_E_Index o_E_Gen o_X o_V w R = dFunc Try.prog ⟨[], []⟩ Try.f29 [.pointer w_, .agg #[.pointer p_t, .pointer p_r], .agg #[.int .i64 o_Kind, .int .i64 o_On, .int .i64 o_Row, .int .i64 o_Column, .int .i64 o_E_Index, .int .i64 o_E_Gen, .int .i64 o_X, .slice o_V.a o_V.len o_V.cap]] (fun v w' => viewRet [.one .b] v R w') w := by kernel_rfl

theorem c29_of {w_ : Option Addr} {p_t : Option Addr} {p_r : Option Addr} {o_Kind : Int} {o_On : Int} {o_Row : Int} {o_Column : Int} {o_E_Index : Int} {o_E_Gen : Int} {o_X : Int} {o_V : Sl} {w : World} {R : Bool → World → Prop} (h : f29 w_ p_t p_r o_Kind o_On o_Row o_Column o_E_Index o_E_Gen o_X o_V w R) : c29 w_ p_t p_r o_Kind o_On o_Row o_Column o_E_Index o_E_Gen o_X o_V w R :=
  callK_of okP Try.func29 (by rw [← f29_eq]; exact h)

/-- (*hindcast/hindcastref05.Table).Add. -/
def f31 (t : Option Addr) (e_Index : Int) (e_Gen : Int) (values : Sl) (w : World) (R : Int → Int → World → Prop) : Prop :=
  Nw (.cells #[.int .i64 e_Index, .int .i64 e_Gen] 32) w fun (e : Addr) (w : World) =>
  NN t fun (t_ : Addr) =>
  Ld (.i .i64) w t_ fun (N : Int) =>
  if ((values.len : Int) != N) = true then (R 0 63 w) else (Ld (.i .i64) w e fun (e_Index2 : Int) => Ld (.i .i64) w (e.add 1) fun (e_Gen2 : Int) => 
  c37 t e_Index2 e_Gen2 w fun (r : Int) (w : World) =>
  if (decide (r ≥ 0)) = true then (R 0 61 w) else (NN t fun (t_2 : Addr) =>
  Ld .sl w (t_2.add 1) fun (L : Sl) =>
  if (decide ((L.len : Int) ≥ 200)) = true then (R 0 40 w) else (Dr w fun (w : World) =>
  NN t fun (t_3 : Addr) =>
  Ld .sl w (t_3.add 1) fun (L2 : Sl) =>
  Ld (.i .i64) w e fun (e_Index3 : Int) => Ld (.i .i64) w (e.add 1) fun (e_Gen3 : Int) => 
  Nw (.cells #[] 2) w fun (b : Addr) (w : World) =>
  Run .sl Try.prog (Builtin.append_ #[34, 34] 34 #[.slice (some b) 0 0, .slice values.a values.len values.cap]) w fun (s : Sl) (w : World) =>
  w.cell? e = some (.int .i64 e_Index3) ∧ w.cell? (e.add 1) = some (.int .i64 e_Gen3) ∧ w.cell? (t_3.add 1) = some (.slice L2.a L2.len L2.cap) ∧ (Nw (.cells #[.int .i64 e_Index3, .int .i64 e_Gen3, .slice s.a s.len s.cap] 83) w fun (b2 : Addr) (w : World) =>
  Run .sl Try.prog (Builtin.append_ #[77, 77] 77 #[.slice L2.a L2.len L2.cap, .slice (some b2) 1 1]) w fun (s2 : Sl) (w : World) =>
  NN t fun (t_4 : Addr) =>
  St (t_4.add 1) (.slice s2.a s2.len s2.cap) w fun (w : World) =>
  NN t fun (t_5 : Addr) =>
  Ld .sl w (t_5.add 1) fun (L3 : Sl) =>
  R (IntKind.i64.wrap ((L3.len : Int) - 1)) 0 w))))

theorem f31_eq (t : Option Addr) (e_Index : Int) (e_Gen : Int) (values : Sl) (w : World) (R : Int → Int → World → Prop) :
    f31 t e_Index e_Gen values w R = dFunc Try.prog ⟨[], []⟩ Try.f31 [.pointer t, .agg #[.int .i64 e_Index, .int .i64 e_Gen], .slice values.a values.len values.cap] (fun v w' => viewRet [.one (.i .i64), .one (.i .i64)] v R w') w := by kernel_rfl

theorem c31_of {t : Option Addr} {e_Index : Int} {e_Gen : Int} {values : Sl} {w : World} {R : Int → Int → World → Prop} (h : f31 t e_Index e_Gen values w R) : c31 t e_Index e_Gen values w R :=
  callK_of okP Try.func31 (by rw [← f31_eq]; exact h)

/-- (*hindcast/hindcastref05.Table).Get. -/
def f32 (t : Option Addr) (row : Int) (column : Int) (w : World) (R : Int → Int → World → Prop) : Prop :=
  c39 t row column w fun (e : Int) (w : World) =>
  if (e != 0) = true then (R 0 e w) else (NN t fun (t_ : Addr) =>
  Ld .sl w (t_.add 1) fun (L : Sl) =>
  Ix L.a L.len row 3 fun (a : Addr) =>
  Ld .sl w (a.add 2) fun (V : Sl) =>
  Ix V.a V.len column 1 fun (a2 : Addr) =>
  Ld (.i .i64) w a2 fun (x : Int) =>
  R x 0 w)

theorem f32_eq (t : Option Addr) (row : Int) (column : Int) (w : World) (R : Int → Int → World → Prop) :
    f32 t row column w R = dFunc Try.prog ⟨[], []⟩ Try.f32 [.pointer t, .int .i64 row, .int .i64 column] (fun v w' => viewRet [.one (.i .i64), .one (.i .i64)] v R w') w := by kernel_rfl

theorem c32_of {t : Option Addr} {row : Int} {column : Int} {w : World} {R : Int → Int → World → Prop} (h : f32 t row column w R) : c32 t row column w R :=
  callK_of okP Try.func32 (by rw [← f32_eq]; exact h)

/-- (*hindcast/hindcastref05.Table).Set. -/
def f33 (t : Option Addr) (row : Int) (column : Int) (x : Int) (w : World) (R : Int → World → Prop) : Prop :=
  c39 t row column w fun (e : Int) (w : World) =>
  if (e == 0) = true then (NN t fun (t_ : Addr) =>
  Ld .sl w (t_.add 1) fun (L : Sl) =>
  Ix L.a L.len row 3 fun (a : Addr) =>
  Ld .sl w (a.add 2) fun (V : Sl) =>
  Ix V.a V.len column 1 fun (a2 : Addr) =>
  St a2 (.int .i64 x) w fun (w : World) =>
  R e w) else (R e w)

theorem f33_eq (t : Option Addr) (row : Int) (column : Int) (x : Int) (w : World) (R : Int → World → Prop) :
    f33 t row column x w R = dFunc Try.prog ⟨[], []⟩ Try.f33 [.pointer t, .int .i64 row, .int .i64 column, .int .i64 x] (fun v w' => viewRet [.one (.i .i64)] v R w') w := by kernel_rfl

theorem c33_of {t : Option Addr} {row : Int} {column : Int} {x : Int} {w : World} {R : Int → World → Prop} (h : f33 t row column x w R) : c33 t row column x w R :=
  callK_of okP Try.func33 (by rw [← f33_eq]; exact h)

/-- (*hindcast/hindcastref05.Table).Row. -/
def f34 (t : Option Addr) (row : Int) (w : World) (R : Int → Int → Sl → Int → World → Prop) : Prop :=
  Nw (.cells #[.int .i64 0, .int .i64 0] 32) w fun (a : Addr) (w : World) =>
  ∃ J_ : Bool → World → Prop, (if (decide (row < 0)) = true then (J_ true w) else (NN t fun (t_ : Addr) =>
  Ld .sl w (t_.add 1) fun (L : Sl) =>
  J_ (decide (row ≥ (L.len : Int))) w)) ∧ ∀ t17 : Bool, ∀ w : World, J_ t17 w → (if t17 = true then (St a (.int .i64 0) w fun (w : World) =>
  St (a.add 1) (.int .i64 0) w fun (w : World) =>
  Ld (.i .i64) w a fun (r_Index : Int) => Ld (.i .i64) w (a.add 1) fun (r_Gen : Int) => 
  R r_Index r_Gen ⟨none, 0, 0⟩ 50 w) else (Dr w fun (w : World) =>
  NN t fun (t_2 : Addr) =>
  Ld .sl w (t_2.add 1) fun (L2 : Sl) =>
  Ix L2.a L2.len row 3 fun (a2 : Addr) =>
  Ld (.i .i64) w a2 fun (E_Index : Int) => Ld (.i .i64) w (a2.add 1) fun (E_Gen : Int) => 
  NN t fun (t_3 : Addr) =>
  Ld .sl w (t_3.add 1) fun (L3 : Sl) =>
  Ix L3.a L3.len row 3 fun (a3 : Addr) =>
  Ld .sl w (a3.add 2) fun (V : Sl) =>
  Nw (.cells #[] 2) w fun (b : Addr) (w : World) =>
  Run .sl Try.prog (Builtin.append_ #[34, 34] 34 #[.slice (some b) 0 0, .slice V.a V.len V.cap]) w fun (s : Sl) (w : World) =>
  w.cell? a2 = some (.int .i64 E_Index) ∧ w.cell? (a2.add 1) = some (.int .i64 E_Gen) ∧ w.cell? (t_2.add 1) = some (.slice L2.a L2.len L2.cap) ∧ (St a (.int .i64 E_Index) w fun (w : World) =>
  St (a.add 1) (.int .i64 E_Gen) w fun (w : World) =>
  Ld (.i .i64) w a fun (r_Index2 : Int) => Ld (.i .i64) w (a.add 1) fun (r_Gen2 : Int) => 
  R r_Index2 r_Gen2 s 0 w)))

theorem f34_eq (t : Option Addr) (row : Int) (w : World) (R : Int → Int → Sl → Int → World → Prop) :
    f34 t row w R = dFunc Try.prog ⟨[], [(2, ⟨[(17, .b)], [0, 1, 4]⟩)]⟩ Try.f34 [.pointer t, .int .i64 row] (fun v w' => viewRet [.agg [.i .i64, .i .i64], .one .sl, .one (.i .i64)] v R w') w := by kernel_rfl

theorem c34_of {t : Option Addr} {row : Int} {w : World} {R : Int → Int → Sl → Int → World → Prop} (h : f34 t row w R) : c34 t row w R :=
  callK_of okP Try.func34 (by rw [← f34_eq]; exact h)

/-- (*hindcast/hindcastlaw05.World).told. -/
def f35 (w_ : Option Addr) (l : Sl) (k : Sl) (m : Sl) (w : World) (R : Bool → World → Prop) : Prop :=
  c18 w_ w fun (left : Bool) (w : World) =>
  c40 l m w fun (one : Bool) (w : World) =>
  c40 k m w fun (two : Bool) (w : World) =>
  if (cond (cond (!left) true (!one)) true (!two)) = true then (R false w) else (c41 w_ l w fun  (w : World) =>
  c40 k m w fun (two2 : Bool) (w : World) =>
  c41 w_ k w fun  (w : World) =>
  R two2 w)

theorem f35_eq (w_ : Option Addr) (l : Sl) (k : Sl) (m : Sl) (w : World) (R : Bool → World → Prop) :
    f35 w_ l k m w R = dFunc Try.prog ⟨[], []⟩ Try.f35 [.pointer w_, .slice l.a l.len l.cap, .slice k.a k.len k.cap, .slice m.a m.len m.cap] (fun v w' => viewRet [.one .b] v R w') w := by kernel_rfl

theorem c35_of {w_ : Option Addr} {l : Sl} {k : Sl} {m : Sl} {w : World} {R : Bool → World → Prop} (h : f35 w_ l k m w R) : c35 w_ l k m w R :=
  callK_of okP Try.func35 (by rw [← f35_eq]; exact h)

/-- (*hindcast/hindcastref05.Table).Column. -/
def f36 (t : Option Addr) (column : Int) (w : World) (R : Sl → Int → World → Prop) : Prop :=
  ∃ J_ : World → Prop, (if (decide (column < 0)) = true then (R ⟨none, 0, 0⟩ 63 w) else (NN t fun (t_ : Addr) =>
  Ld (.i .i64) w t_ fun (N : Int) =>
  if (decide (column ≥ N)) = true then (R ⟨none, 0, 0⟩ 63 w) else (J_  w))) ∧ ∀ w : World, J_  w → (∃ Inv_ : Sl → Int → Nat → World → Prop, (∃ n : Nat, Inv_ ⟨none, 0, 0⟩ 0 n w) ∧ ∀ out : Sl, ∀ i : Int, ∀ m : Nat, ∀ w : World, Inv_ out i m w → (NN t fun (t_2 : Addr) =>
  Ld .sl w (t_2.add 1) fun (L : Sl) =>
  if (decide (i < (L.len : Int))) = true then (NN t fun (t_3 : Addr) =>
  Ld .sl w (t_3.add 1) fun (L2 : Sl) =>
  Ix L2.a L2.len i 3 fun (a : Addr) =>
  Ld .sl w (a.add 2) fun (V : Sl) =>
  Ix V.a V.len column 1 fun (a2 : Addr) =>
  Ld (.i .i64) w a2 fun (x : Int) =>
  Nw (.cells #[.int .i64 x] 2) w fun (b : Addr) (w : World) =>
  Run .sl Try.prog (Builtin.append_ #[34, 34] 34 #[.slice out.a out.len out.cap, .slice (some b) 1 1]) w fun (out2 : Sl) (w : World) =>
  ∃ m2 : Nat, m2 < m ∧ Inv_ out2 (IntKind.i64.wrap (i + 1)) m2 w) else (R out 0 w)))

theorem f36_eq (t : Option Addr) (column : Int) (w : World) (R : Sl → Int → World → Prop) :
    f36 t column w R = dFunc Try.prog ⟨[(5, ⟨[(6, .sl), (7, .i .i64)], [0, 1]⟩)], [(3, ⟨[], [0, 1]⟩)]⟩ Try.f36 [.pointer t, .int .i64 column] (fun v w' => viewRet [.one .sl, .one (.i .i64)] v R w') w := by kernel_rfl

theorem c36_of {t : Option Addr} {column : Int} {w : World} {R : Sl → Int → World → Prop} (h : f36 t column w R) : c36 t column w R :=
  callK_of okP Try.func36 (by rw [← f36_eq]; exact h)

/-- (*hindcast/hindcastref05.Table).Find. -/
def f37 (t : Option Addr) (e_Index : Int) (e_Gen : Int) (w : World) (R : Int → World → Prop) : Prop :=
  Nw (.cells #[.int .i64 e_Index, .int .i64 e_Gen] 32) w fun (e : Addr) (w : World) =>
  ∃ Inv_ : Int → Nat → World → Prop, (∃ n : Nat, Inv_ 0 n w) ∧ ∀ i : Int, ∀ m : Nat, ∀ w : World, Inv_ i m w → (NN t fun (t_ : Addr) =>
  Ld .sl w (t_.add 1) fun (L : Sl) =>
  if (decide (i < (L.len : Int))) = true then (Dr w fun (w : World) =>
  NN t fun (t_2 : Addr) =>
  Ld .sl w (t_2.add 1) fun (L2 : Sl) =>
  Ix L2.a L2.len i 3 fun (a : Addr) =>
  Ld (.i .i64) w a fun (E_Index : Int) => Ld (.i .i64) w (a.add 1) fun (E_Gen : Int) => 
  Ld (.i .i64) w e fun (e_Index2 : Int) => Ld (.i .i64) w (e.add 1) fun (e_Gen2 : Int) => 
  RunRo .b Try.prog (binSem .eql 32 (.tmp 22) (.tmp 23) (.agg #[.int .i64 E_Index, .int .i64 E_Gen]) (.agg #[.int .i64 e_Index2, .int .i64 e_Gen2])) w fun (eq : Bool) =>
  if eq = true then (R i w) else (∃ m2 : Nat, m2 < m ∧ Inv_ (IntKind.i64.wrap (i + 1)) m2 w)) else (R (-1) w))

theorem f37_eq (t : Option Addr) (e_Index : Int) (e_Gen : Int) (w : World) (R : Int → World → Prop) :
    f37 t e_Index e_Gen w R = dFunc Try.prog ⟨[(2, ⟨[(5, .i .i64)], [0, 3]⟩)], []⟩ Try.f37 [.pointer t, .agg #[.int .i64 e_Index, .int .i64 e_Gen]] (fun v w' => viewRet [.one (.i .i64)] v R w') w := by kernel_rfl

theorem c37_of {t : Option Addr} {e_Index : Int} {e_Gen : Int} {w : World} {R : Int → World → Prop} (h : f37 t e_Index e_Gen w R) : c37 t e_Index e_Gen w R :=
  callK_of okP Try.func37 (by rw [← f37_eq]; exact h)

/-- (*hindcast/hindcastref05.Table).Len. -/
def f38 (t : Option Addr) (w : World) (R : Int → World → Prop) : Prop :=
  NN t fun (t_ : Addr) =>
  Ld .sl w (t_.add 1) fun (L : Sl) =>
  R (L.len : Int) w

theorem f38_eq (t : Option Addr) (w : World) (R : Int → World → Prop) :
    f38 t w R = dFunc Try.prog ⟨[], []⟩ Try.f38 [.pointer t] (fun v w' => viewRet [.one (.i .i64)] v R w') w := by kernel_rfl

theorem c38_of {t : Option Addr} {w : World} {R : Int → World → Prop} (h : f38 t w R) : c38 t w R :=
  callK_of okP Try.func38 (by rw [← f38_eq]; exact h)

/-- (*hindcast/hindcastref05.Table).at. -/
def f39 (t : Option Addr) (row : Int) (column : Int) (w : World) (R : Int → World → Prop) : Prop :=
  ∃ J_ : World → Prop, (if (decide (row < 0)) = true then (R 50 w) else (NN t fun (t_ : Addr) =>
  Ld .sl w (t_.add 1) fun (L : Sl) =>
  if (decide (row ≥ (L.len : Int))) = true then (R 50 w) else (J_  w))) ∧ ∀ w : World, J_  w → (if (decide (column < 0)) = true then (R 63 w) else (NN t fun (t_2 : Addr) =>
  Ld (.i .i64) w t_2 fun (N : Int) =>
  if (decide (column ≥ N)) = true then (R 63 w) else (R 0 w)))

theorem f39_eq (t : Option Addr) (row : Int) (column : Int) (w : World) (R : Int → World → Prop) :
    f39 t row column w R = dFunc Try.prog ⟨[], [(3, ⟨[], [0, 2]⟩)]⟩ Try.f39 [.pointer t, .int .i64 row, .int .i64 column] (fun v w' => viewRet [.one (.i .i64)] v R w') w := by kernel_rfl

theorem c39_of {t : Option Addr} {row : Int} {column : Int} {w : World} {R : Int → World → Prop} (h : f39 t row column w R) : c39 t row column w R :=
  callK_of okP Try.func39 (by rw [← f39_eq]; exact h)

/-- hindcast/hindcastlaw05.same. -/
def f40 (a : Sl) (b : Sl) (w : World) (R : Bool → World → Prop) : Prop :=
  if ((a.len : Int) != (b.len : Int)) = true then (R false w) else (∃ Inv_ : Int → Nat → World → Prop, (∃ n : Nat, Inv_ 0 n w) ∧ ∀ i : Int, ∀ m : Nat, ∀ w : World, Inv_ i m w → (if (decide (i < (a.len : Int))) = true then (Dr w fun (w : World) =>
  Ix a.a a.len i 1 fun (a2 : Addr) =>
  Ld (.i .i64) w a2 fun (x : Int) =>
  Ix b.a b.len i 1 fun (a3 : Addr) =>
  Ld (.i .i64) w a3 fun (x2 : Int) =>
  if (x != x2) = true then (R false w) else (∃ m2 : Nat, m2 < m ∧ Inv_ (IntKind.i64.wrap (i + 1)) m2 w)) else (R true w)))

theorem f40_eq (a : Sl) (b : Sl) (w : World) (R : Bool → World → Prop) :
    f40 a b w R = dFunc Try.prog ⟨[(4, ⟨[(5, .i .i64)], [0, 1]⟩)], []⟩ Try.f40 [.slice a.a a.len a.cap, .slice b.a b.len b.cap] (fun v w' => viewRet [.one .b] v R w') w := by kernel_rfl

theorem c40_of {a : Sl} {b : Sl} {w : World} {R : Bool → World → Prop} (h : f40 a b w R) : c40 a b w R :=
  callK_of okP Try.func40 (by rw [← f40_eq]; exact h)

/-- (*hindcast/hindcastlaw05.World).takes. -/
def f41 (w_ : Option Addr) (l : Sl) (w : World) (R : World → Prop) : Prop :=
  NN w_ fun (w_2 : Addr) =>
  Ld .sl w (w_2.add 2) fun (marks : Sl) =>
  ∃ Inv_ : Int → Nat → World → Prop, (∃ n : Nat, Inv_ 0 n w) ∧ ∀ i : Int, ∀ m : Nat, ∀ w : World, Inv_ i m w → (if (decide (i < (l.len : Int))) = true then (Ix l.a l.len i 1 fun (a : Addr) =>
  St a (.int .i64 (IntKind.i64.wrap (1000000 + (marks.len : Int)))) w fun (w : World) =>
  ∃ m2 : Nat, m2 < m ∧ Inv_ (IntKind.i64.wrap (i + 1)) m2 w) else (NN w_ fun (w_3 : Addr) =>
  Ld .sl w (w_3.add 1) fun (lists : Sl) =>
  Nw (.cells #[.slice l.a l.len l.cap] 34) w fun (b : Addr) (w : World) =>
  Run .sl Try.prog (Builtin.append_ #[51, 51] 51 #[.slice lists.a lists.len lists.cap, .slice (some b) 1 1]) w fun (s : Sl) (w : World) =>
  NN w_ fun (w_4 : Addr) =>
  St (w_4.add 1) (.slice s.a s.len s.cap) w fun (w : World) =>
  NN w_ fun (w_5 : Addr) =>
  Ld .sl w (w_5.add 2) fun (marks2 : Sl) =>
  Nw (.cells #[.int .i64 (IntKind.i64.wrap (1000000 + (marks.len : Int)))] 2) w fun (b2 : Addr) (w : World) =>
  Run .sl Try.prog (Builtin.append_ #[34, 34] 34 #[.slice marks2.a marks2.len marks2.cap, .slice (some b2) 1 1]) w fun (s2 : Sl) (w : World) =>
  NN w_ fun (w_6 : Addr) =>
  St (w_6.add 2) (.slice s2.a s2.len s2.cap) w fun (w : World) =>
  ∃ Inv_2 : Sl → Int → Nat → World → Prop, (∃ n : Nat, Inv_2 l 0 n w) ∧ ∀ c : Sl, ∀ n_ : Int, ∀ m3 : Nat, ∀ w : World, Inv_2 c n_ m3 w → (if (decide (n_ < 64)) = true then (Nw (.cells #[.int .i64 (IntKind.i64.wrap (1000000 + (marks.len : Int)))] 2) w fun (b3 : Addr) (w : World) =>
  Run .sl Try.prog (Builtin.append_ #[34, 34] 34 #[.slice c.a c.len c.cap, .slice (some b3) 1 1]) w fun (c2 : Sl) (w : World) =>
  ∃ m4 : Nat, m4 < m3 ∧ Inv_2 c2 (IntKind.i64.wrap (n_ + 1)) m4 w) else (NN w_ fun (w_7 : Addr) =>
  Ld .sl w (w_7.add 1) fun (lists2 : Sl) =>
  Nw (.cells #[.slice c.a c.len c.cap] 34) w fun (b4 : Addr) (w : World) =>
  Run .sl Try.prog (Builtin.append_ #[51, 51] 51 #[.slice lists2.a lists2.len lists2.cap, .slice (some b4) 1 1]) w fun (s3 : Sl) (w : World) =>
  NN w_ fun (w_8 : Addr) =>
  St (w_8.add 1) (.slice s3.a s3.len s3.cap) w fun (w : World) =>
  NN w_ fun (w_9 : Addr) =>
  Ld .sl w (w_9.add 2) fun (marks3 : Sl) =>
  Nw (.cells #[.int .i64 (IntKind.i64.wrap (1000000 + (marks.len : Int)))] 2) w fun (b5 : Addr) (w : World) =>
  Run .sl Try.prog (Builtin.append_ #[34, 34] 34 #[.slice marks3.a marks3.len marks3.cap, .slice (some b5) 1 1]) w fun (s4 : Sl) (w : World) =>
  NN w_ fun (w_10 : Addr) =>
  St (w_10.add 2) (.slice s4.a s4.len s4.cap) w fun (w : World) =>
  R w))))

theorem f41_eq (w_ : Option Addr) (l : Sl) (w : World) (R : World → Prop) :
    f41 w_ l w R = dFunc Try.prog ⟨[(2, ⟨[(5, .i .i64)], [0, 1, 4]⟩), (9, ⟨[(6, .sl), (7, .i .i64)], [0, 4]⟩)], []⟩ Try.f41 [.pointer w_, .slice l.a l.len l.cap] (fun v w' => viewRet [] v R w') w := by kernel_rfl

theorem c41_of {w_ : Option Addr} {l : Sl} {w : World} {R : World → Prop} (h : f41 w_ l w R) : c41 w_ l w R :=
  callK_of okP Try.func41 (by rw [← f41_eq]; exact h)

end Go.Proofs.Ytfghoeojpnnkiaa.F
