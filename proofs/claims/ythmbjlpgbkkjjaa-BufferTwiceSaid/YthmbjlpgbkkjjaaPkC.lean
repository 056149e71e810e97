/-
  Part 3 of the proof: BufferTwice of layer 17 is true of the given program for every input that its guards let in.
-/
import Derived.Test.YthmbjlpgbkkjjaaPkB
import Derived.Test.YthmbjlpgbkkjjaaProg
import Derived.RangeFuncNested
import Derived.RangeFuncLeaves
import Derived.OrdersIn
import Derived.TacticsIn
import Derived.Sort.LoopGhostIn
import Derived.Lib.AppendZeros
set_option linter.unusedSimpArgs false
set_option linter.unusedVariables false
set_option maxRecDepth 100000
section
namespace Go.Proofs.Ythmbjlpgbkkjjaa.F
open Go Go.Den Go.Proofs
theorem okP : OkP Try.prog := ⟨by kernel_rfl, by kernel_rfl⟩
def c2 (w : World) (R : World → Prop) : Prop :=
 CallK Try.prog 2 [] [] w R
def c3 (wants swaps : Sl) (w : World) (R : Bool → World → Prop) : Prop :=
 CallK Try.prog 3 [.slice wants.a wants.len wants.cap, .slice swaps.a swaps.len swaps.cap] [.one .b] w R
def c4 (systems indexes : Sl) (more : Int) (w : World) (R : Bool → World → Prop) : Prop :=
 CallK Try.prog 4 [.slice systems.a systems.len systems.cap, .slice indexes.a indexes.len indexes.cap, .int .i64 more] [.one .b] w R
def c5 (first then_ : Sl) (w : World) (R : Bool → World → Prop) : Prop :=
 CallK Try.prog 5 [.slice first.a first.len first.cap, .slice then_.a then_.len then_.cap] [.one .b] w R
def c6 (w : World) (R : Bool → World → Prop) : Prop :=
 CallK Try.prog 6 [] [.one .b] w R
def c7 (w : World) (R : Option Addr → World → Prop) : Prop :=
 CallK Try.prog 7 [] [.one .p] w R
def c8 (b : Option Addr) (system e_Index : Int) (e_Gen c_Op : Int) (c_E_Index c_E_Gen c_Kind : Int) (c_Values c_Parts : Sl) (w : World) (R : Int → World → Prop) : Prop :=
 CallK Try.prog 8 [.pointer b, .int .i64 system, .agg #[.int .i64 e_Index, .int .i64 e_Gen], .agg #[.int .i64 c_Op, .int .i64 c_E_Index, .int .i64 c_E_Gen, .int .i64 c_Kind, .slice c_Values.a c_Values.len c_Values.cap, .slice c_Parts.a c_Parts.len c_Parts.cap]] [.one (.i .i64)] w R
def c9 (c n_ : Int) (w : World) (R : Int → World → Prop) : Prop :=
 CallK Try.prog 9 [.int .i64 c, .int .i64 n_] [.one (.i .i64)] w R
def c10 (b : Option Addr) (w : World) (R : Sl → World → Prop) : Prop :=
 CallK Try.prog 10 [.pointer b] [.one .sl] w R
def c11 (kinds : Sl) (w : World) (R : Option Addr → Int → World → Prop) : Prop :=
 CallK Try.prog 11 [.slice kinds.a kinds.len kinds.cap] [.one .p, .one (.i .i64)] w R
def c12 (w : World) (R : Sl → World → Prop) : Prop :=
 CallK Try.prog 12 [] [.one .sl] w R
def c13 (systems indexes : Sl) (n_ : Int) (w : World) (R : Int → Int → World → Prop) : Prop :=
 CallK Try.prog 13 [.slice systems.a systems.len systems.cap, .slice indexes.a indexes.len indexes.cap, .int .i64 n_] [.one (.i .i64), .one (.i .i64)] w R
def c14 (b w_ : Option Addr) (w : World) (R : Sl → Int → World → Prop) : Prop :=
 CallK Try.prog 14 [.pointer b, .pointer w_] [.one .sl, .one (.i .i64)] w R
def c15 (w_ : Option Addr) (w : World) (R : Sl → World → Prop) : Prop :=
 CallK Try.prog 15 [.pointer w_] [.one .sl] w R
def c16 (w_ : Option Addr) (w : World) (R : Option Addr → World → Prop) : Prop :=
 CallK Try.prog 16 [.pointer w_] [.one .p] w R
def c17 (w_ : Option Addr) (w : World) (R : Sl → World → Prop) : Prop :=
 CallK Try.prog 17 [.pointer w_] [.one .sl] w R
def c18 (w_ : Option Addr) (e_Index e_Gen : Int) (w : World) (R : Bool → World → Prop) : Prop :=
 CallK Try.prog 18 [.pointer w_, .agg #[.int .i64 e_Index, .int .i64 e_Gen]] [.one .b] w R
def c19 (c_Op c_E_Index : Int) (c_E_Gen c_Kind : Int) (c_Values c_Parts : Sl) (w : World) (R : Int → Int → Int → Int → Sl → Sl → World → Prop) : Prop :=
 CallK Try.prog 19 [.agg #[.int .i64 c_Op, .int .i64 c_E_Index, .int .i64 c_E_Gen, .int .i64 c_Kind, .slice c_Values.a c_Values.len c_Values.cap, .slice c_Parts.a c_Parts.len c_Parts.cap]] [.agg [.i .i64, .i .i64, .i .i64, .i .i64, .sl, .sl]] w R
def c20 (s : Sl) (w : World) (R : Sl → World → Prop) : Prop :=
 CallK Try.prog 20 [.slice s.a s.len s.cap] [.one .sl] w R
def c21 (x : Sl) (cmp : Value) (w : World) (R : World → Prop) : Prop :=
 CallK Try.prog 21 [.slice x.a x.len x.cap, cmp] [] w R
def c22 (x_system x_index : Int) (x_c_Op x_c_E_Index : Int) (x_c_E_Gen x_c_Kind : Int) (x_c_Values x_c_Parts : Sl) (y_system y_index : Int) (y_c_Op y_c_E_Index : Int) (y_c_E_Gen y_c_Kind : Int) (y_c_Values y_c_Parts : Sl) (w : World) (R : Int → World → Prop) : Prop :=
 CallK Try.prog 22 [.agg #[.int .i64 x_system, .int .i64 x_index, .int .i64 x_c_Op, .int .i64 x_c_E_Index, .int .i64 x_c_E_Gen, .int .i64 x_c_Kind, .slice x_c_Values.a x_c_Values.len x_c_Values.cap, .slice x_c_Parts.a x_c_Parts.len x_c_Parts.cap], .agg #[.int .i64 y_system, .int .i64 y_index, .int .i64 y_c_Op, .int .i64 y_c_E_Index, .int .i64 y_c_E_Gen, .int .i64 y_c_Kind, .slice y_c_Values.a y_c_Values.len y_c_Values.cap, .slice y_c_Parts.a y_c_Parts.len y_c_Parts.cap]] [.one (.i .i64)] w R
def c23 (vals : Sl) (w : World) (R : Int → World → Prop) : Prop :=
 CallK Try.prog 23 [.slice vals.a vals.len vals.cap] [.one (.i .i64)] w R
def c24 (x y : Int) (w : World) (R : Int → World → Prop) : Prop :=
 CallK Try.prog 24 [.int .i64 x, .int .i64 y] [.one (.i .i64)] w R
def c25 (l : Sl) (of : Value) (w : World) (R : Sl → World → Prop) : Prop :=
 CallK Try.prog 25 [.slice l.a l.len l.cap, of] [.one .sl] w R
def c26 (x_system x_index : Int) (x_c_Op x_c_E_Index : Int) (x_c_E_Gen x_c_Kind : Int) (x_c_Values x_c_Parts : Sl) (w : World) (R : Int → Int → Int → Int → Sl → Sl → World → Prop) : Prop :=
 CallK Try.prog 26 [.agg #[.int .i64 x_system, .int .i64 x_index, .int .i64 x_c_Op, .int .i64 x_c_E_Index, .int .i64 x_c_E_Gen, .int .i64 x_c_Kind, .slice x_c_Values.a x_c_Values.len x_c_Values.cap, .slice x_c_Parts.a x_c_Parts.len x_c_Parts.cap]] [.agg [.i .i64, .i .i64, .i .i64, .i .i64, .sl, .sl]] w R
def c27 (kinds : Sl) (w : World) (R : Bool → World → Prop) : Prop :=
 CallK Try.prog 27 [.slice kinds.a kinds.len kinds.cap] [.one .b] w R
def c28 (most : Int) (w : World) (R : Option Addr → Int → World → Prop) : Prop :=
 CallK Try.prog 28 [.int .i64 most] [.one .p, .one (.i .i64)] w R
def c29 (kinds : Sl) (w : World) (R : Sl → World → Prop) : Prop :=
 CallK Try.prog 29 [.slice kinds.a kinds.len kinds.cap] [.one .sl] w R
def c30 (w_ : Option Addr) (c_Op c_E_Index : Int) (c_E_Gen c_Kind : Int) (c_Values c_Parts : Sl) (w : World) (R : Sl → Int → World → Prop) : Prop :=
 CallK Try.prog 30 [.pointer w_, .agg #[.int .i64 c_Op, .int .i64 c_E_Index, .int .i64 c_E_Gen, .int .i64 c_Kind, .slice c_Values.a c_Values.len c_Values.cap, .slice c_Parts.a c_Parts.len c_Parts.cap]] [.one .sl, .one (.i .i64)] w R
def c31 (p : Option Addr) (w : World) (R : Sl → World → Prop) : Prop :=
 CallK Try.prog 31 [.pointer p] [.one .sl] w R
def c32 (w_ : Option Addr) (e_Index e_Gen : Int) (w : World) (R : Int → Int → Sl → World → Prop) : Prop :=
 CallK Try.prog 32 [.pointer w_, .agg #[.int .i64 e_Index, .int .i64 e_Gen]] [.agg [.i .i64, .i .i64, .sl]] w R
def c33 (p : Option Addr) (w : World) (R : Option Addr → World → Prop) : Prop :=
 CallK Try.prog 33 [.pointer p] [.one .p] w R
def c34 (t : Option Addr) (w : World) (R : Option Addr → World → Prop) : Prop :=
 CallK Try.prog 34 [.pointer t] [.one .p] w R
def c35 (p : Option Addr) (w : World) (R : Sl → Sl → World → Prop) : Prop :=
 CallK Try.prog 35 [.pointer p] [.one .sl, .one .sl] w R
def c36 (b l : Sl) (w : World) (R : Sl → World → Prop) : Prop :=
 CallK Try.prog 36 [.slice b.a b.len b.cap, .slice l.a l.len l.cap] [.one .sl] w R
def c37 (l : Sl) (w : World) (R : Sl → World → Prop) : Prop :=
 CallK Try.prog 37 [.slice l.a l.len l.cap] [.one .sl] w R
def c38 (b : Sl) (n_ : Int) (w : World) (R : Sl → World → Prop) : Prop :=
 CallK Try.prog 38 [.slice b.a b.len b.cap, .int .u64 n_] [.one .sl] w R
def c39 (b : Sl) (n_ : Int) (w : World) (R : Sl → World → Prop) : Prop :=
 CallK Try.prog 39 [.slice b.a b.len b.cap, .int .i64 n_] [.one .sl] w R
def c40 (p : Option Addr) (e_Index e_Gen : Int) (w : World) (R : Bool → World → Prop) : Prop :=
 CallK Try.prog 40 [.pointer p, .agg #[.int .i64 e_Index, .int .i64 e_Gen]] [.one .b] w R
def c41 (s : Sl) (w : World) (R : Sl → World → Prop) : Prop :=
 CallK Try.prog 41 [.slice s.a s.len s.cap] [.one .sl] w R
def c42 (l : Sl) (of : Value) (w : World) (R : Sl → World → Prop) : Prop :=
 CallK Try.prog 42 [.slice l.a l.len l.cap, of] [.one .sl] w R
def c43 (p_Kind : Int) (p_Values : Sl) (w : World) (R : Int → Sl → World → Prop) : Prop :=
 CallK Try.prog 43 [.agg #[.int .i64 p_Kind, .slice p_Values.a p_Values.len p_Values.cap]] [.agg [.i .i64, .sl]] w R
def c44 (data : Sl) (n_ : Int) (cmp : Value) (w : World) (R : World → Prop) : Prop :=
 CallK Try.prog 44 [.slice data.a data.len data.cap, .int .i64 n_, cmp] [] w R
def c45 (x : Int) (w : World) (R : Bool → World → Prop) : Prop :=
 CallK Try.prog 45 [.int .i64 x] [.one .b] w R
def c46 (l : Sl) (w : World) (R : Bool → World → Prop) : Prop :=
 CallK Try.prog 46 [.slice l.a l.len l.cap] [.one .b] w R
def c47 (s : Sl) (w : World) (R : Sl → World → Prop) : Prop :=
 CallK Try.prog 47 [.slice s.a s.len s.cap] [.one .sl] w R
def c48 (s : Sl) (w : World) (R : Sl → World → Prop) : Prop :=
 CallK Try.prog 48 [.slice s.a s.len s.cap] [.one .sl] w R
def c49 (w_ : Option Addr) (parts : Sl) (w : World) (R : Int → Int → Int → World → Prop) : Prop :=
 CallK Try.prog 49 [.pointer w_, .slice parts.a parts.len parts.cap] [.agg [.i .i64, .i .i64], .one (.i .i64)] w R
def c50 (w_ : Option Addr) (e_Index e_Gen : Int) (w : World) (R : Int → World → Prop) : Prop :=
 CallK Try.prog 50 [.pointer w_, .agg #[.int .i64 e_Index, .int .i64 e_Gen]] [.one (.i .i64)] w R
def c51 (w_ : Option Addr) (e_Index e_Gen p_Kind : Int) (p_Values : Sl) (w : World) (R : Int → World → Prop) : Prop :=
 CallK Try.prog 51 [.pointer w_, .agg #[.int .i64 e_Index, .int .i64 e_Gen], .agg #[.int .i64 p_Kind, .slice p_Values.a p_Values.len p_Values.cap]] [.one (.i .i64)] w R
def c52 (w_ : Option Addr) (e_Index e_Gen kind : Int) (w : World) (R : Int → World → Prop) : Prop :=
 CallK Try.prog 52 [.pointer w_, .agg #[.int .i64 e_Index, .int .i64 e_Gen], .int .i64 kind] [.one (.i .i64)] w R
def c53 (p : Option Addr) (index : Int) (w : World) (R : Int → Int → Int → World → Prop) : Prop :=
 CallK Try.prog 53 [.pointer p, .int .i64 index] [.agg [.i .i64, .i .i64], .one (.i .i64)] w R
def c54 (w_ : Option Addr) (e_Index e_Gen : Int) (set kind : Int) (w : World) (R : Int → Sl → World → Prop) : Prop :=
 CallK Try.prog 54 [.pointer w_, .agg #[.int .i64 e_Index, .int .i64 e_Gen], .int .i64 set, .int .i64 kind] [.agg [.i .i64, .sl]] w R
def c55 (s : Sl) (w : World) (R : Sl → World → Prop) : Prop :=
 CallK Try.prog 55 [.slice s.a s.len s.cap] [.one .sl] w R
def c56 (s : Sl) (w : World) (R : Sl → World → Prop) : Prop :=
 CallK Try.prog 56 [.slice s.a s.len s.cap] [.one .sl] w R
def c57 (s : Sl) (w : World) (R : Sl → World → Prop) : Prop :=
 CallK Try.prog 57 [.slice s.a s.len s.cap] [.one .sl] w R
def c58 (m : Option Nat) (w : World) (R : Option Nat → World → Prop) : Prop :=
 CallK Try.prog 58 [.map m] [.one .m] w R
def c59 (b : Sl) (w : World) (R : Sl → World → Prop) : Prop :=
 CallK Try.prog 59 [.slice b.a b.len b.cap] [.one .sl] w R
def c60 (l : Sl) (w : World) (R : Sl → World → Prop) : Prop :=
 CallK Try.prog 60 [.slice l.a l.len l.cap] [.one .sl] w R
def c61 (b : Sl) (n_ : Int) (w : World) (R : Sl → World → Prop) : Prop :=
 CallK Try.prog 61 [.slice b.a b.len b.cap, .int .u64 n_] [.one .sl] w R
def c62 (n_ : Int) (w : World) (R : Int → World → Prop) : Prop :=
 CallK Try.prog 62 [.int .i64 n_] [.one (.i .u64)] w R
def c63 (data : Sl) (a b : Int) (cmp : Value) (w : World) (R : World → Prop) : Prop :=
 CallK Try.prog 63 [.slice data.a data.len data.cap, .int .i64 a, .int .i64 b, cmp] [] w R
def c64 (data : Sl) (a m b : Int) (cmp : Value) (w : World) (R : World → Prop) : Prop :=
 CallK Try.prog 64 [.slice data.a data.len data.cap, .int .i64 a, .int .i64 m, .int .i64 b, cmp] [] w R
def c65 (s : ByteArray) (w : World) (R : Bool → World → Prop) : Prop :=
 CallK Try.prog 65 [.string s] [.one .b] w R
def c66 (s : Sl) (v : ByteArray) (w : World) (R : Bool → World → Prop) : Prop :=
 CallK Try.prog 66 [.slice s.a s.len s.cap, .string v] [.one .b] w R
def c67 (w_ : Option Addr) (kind : Int) (w : World) (R : Int → Bool → World → Prop) : Prop :=
 CallK Try.prog 67 [.pointer w_, .int .i64 kind] [.one (.i .i64), .one .b] w R
def c68 (s : Sl) (i : Int) (v : Sl) (w : World) (R : Sl → World → Prop) : Prop :=
 CallK Try.prog 68 [.slice s.a s.len s.cap, .int .i64 i, .slice v.a v.len v.cap] [.one .sl] w R
def c69 (w_ : Option Addr) (set kind : Int) (w : World) (R : Int → World → Prop) : Prop :=
 CallK Try.prog 69 [.pointer w_, .int .i64 set, .int .i64 kind] [.one (.i .i64)] w R
def c70 (p : Option Addr) (w : World) (R : Int → Int → Int → World → Prop) : Prop :=
 CallK Try.prog 70 [.pointer p] [.agg [.i .i64, .i .i64], .one (.i .i64)] w R
def c71 (w_ : Option Addr) (e_Index e_Gen set : Int) (values : Sl) (w : World) (R : World → Prop) : Prop :=
 CallK Try.prog 71 [.pointer w_, .agg #[.int .i64 e_Index, .int .i64 e_Gen], .int .i64 set, .slice values.a values.len values.cap] [] w R
def c72 (p : Option Addr) (e_Index e_Gen : Int) (w : World) (R : Int → World → Prop) : Prop :=
 CallK Try.prog 72 [.pointer p, .agg #[.int .i64 e_Index, .int .i64 e_Gen]] [.one (.i .i64)] w R
def c73 (w_ : Option Addr) (e_Index e_Gen : Int) (w : World) (R : Sl → World → Prop) : Prop :=
 CallK Try.prog 73 [.pointer w_, .agg #[.int .i64 e_Index, .int .i64 e_Gen]] [.one .sl] w R
def c74 (w_ : Option Addr) (e_Index e_Gen kind : Int) (w : World) (R : Int → Bool → Int → Int → World → Prop) : Prop :=
 CallK Try.prog 74 [.pointer w_, .agg #[.int .i64 e_Index, .int .i64 e_Gen], .int .i64 kind] [.one (.i .i64), .one .b, .one (.i .i64), .one (.i .i64)] w R
def c75 (s : Sl) (i j : Int) (w : World) (R : Sl → World → Prop) : Prop :=
 CallK Try.prog 75 [.slice s.a s.len s.cap, .int .i64 i, .int .i64 j] [.one .sl] w R
def c76 (t : Option Addr) (row : Int) (w : World) (R : Int → Int → Sl → Int → World → Prop) : Prop :=
 CallK Try.prog 76 [.pointer t, .int .i64 row] [.agg [.i .i64, .i .i64], .one .sl, .one (.i .i64)] w R
def c77 (t : Option Addr) (e_Index e_Gen : Int) (w : World) (R : Int → World → Prop) : Prop :=
 CallK Try.prog 77 [.pointer t, .agg #[.int .i64 e_Index, .int .i64 e_Gen]] [.one (.i .i64)] w R
def c79 (form : Int) (t1 t2 : Option Addr) (w : World) (R : Sl → World → Prop) : Prop :=
 CallK Try.prog 79 [.int .u8 form, .pointer t1, .pointer t2] [.one .sl] w R
def c80 (form : Int) (b l : Sl) (w : World) (R : Sl → World → Prop) : Prop :=
 CallK Try.prog 80 [.int .u8 form, .slice b.a b.len b.cap, .slice l.a l.len l.cap] [.one .sl] w R
def c81 (data : Sl) (a m b : Int) (cmp : Value) (w : World) (R : World → Prop) : Prop :=
 CallK Try.prog 81 [.slice data.a data.len data.cap, .int .i64 a, .int .i64 m, .int .i64 b, cmp] [] w R
def c82 (s : Sl) (v : ByteArray) (w : World) (R : Int → World → Prop) : Prop :=
 CallK Try.prog 82 [.slice s.a s.len s.cap, .string v] [.one (.i .i64)] w R
def c84 (s : Sl) (r : Int) (w : World) (R : World → Prop) : Prop :=
 CallK Try.prog 84 [.slice s.a s.len s.cap, .int .i64 r] [] w R
def c85 (w_ : Option Addr) (set : Int) (w : World) (R : Option Addr → World → Prop) : Prop :=
 CallK Try.prog 85 [.pointer w_, .int .i64 set] [.one .p] w R
def c86 (t : Option Addr) (e_Index e_Gen : Int) (values : Sl) (w : World) (R : Int → Int → World → Prop) : Prop :=
 CallK Try.prog 86 [.pointer t, .agg #[.int .i64 e_Index, .int .i64 e_Gen], .slice values.a values.len values.cap] [.one (.i .i64), .one (.i .i64)] w R
def c87 (t : Option Addr) (row : Int) (w : World) (R : Int → Int → Bool → Int → World → Prop) : Prop :=
 CallK Try.prog 87 [.pointer t, .int .i64 row] [.agg [.i .i64, .i .i64], .one .b, .one (.i .i64)] w R
def c88 (t : Option Addr) (w : World) (R : Int → World → Prop) : Prop :=
 CallK Try.prog 88 [.pointer t] [.one (.i .i64)] w R
def c89 (t : Option Addr) (row : Int) (w : World) (R : Bool → World → Prop) : Prop :=
 CallK Try.prog 89 [.pointer t, .int .i64 row] [.one .b] w R
def c90 (l : Sl) (w : World) (R : Sl → World → Prop) : Prop :=
 CallK Try.prog 90 [.slice l.a l.len l.cap] [.one .sl] w R
def c91 (data : Sl) (a b n_ : Int) (cmp : Value) (w : World) (R : World → Prop) : Prop :=
 CallK Try.prog 91 [.slice data.a data.len data.cap, .int .i64 a, .int .i64 b, .int .i64 n_, cmp] [] w R
def c93 (columns : Int) (w : World) (R : Option Addr → Int → World → Prop) : Prop :=
 CallK Try.prog 93 [.int .i64 columns] [.one .p, .one (.i .i64)] w R
def f2 (w : World) (R : World → Prop) : Prop :=
 CallX Try.prog 1 [] [] w fun  (w : World) =>
 R w
def f3 (wants swaps : Sl) (w : World) (R : Bool → World → Prop) : Prop :=
 c6  w fun (head : Bool) (w : World) =>
 c7  w fun (a : Option Addr) (w : World) =>
 c7  w fun (b : Option Addr) (w : World) =>
 if (cond (cond (!head) true a.isNone) true b.isNone) = true then (R false w) else (Mk [.int .i64 0] 3 8 (if 200 < (wants.len : Int) then 200 else (wants.len : Int)) (if 200 < (wants.len : Int) then 200 else (wants.len : Int)) w fun (row : Sl) (w : World) =>
 ∃ Inv_ : Int → Nat → World → Prop, (∃ n : Nat, Inv_ 0 n w) ∧ ∀ i : Int, ∀ m : Nat, ∀ w : World, Inv_ i m w → (if (decide (i < (if 200 < (wants.len : Int) then 200 else (wants.len : Int)))) = true then (Ix row.a row.len i 1 fun (a2 : Addr) =>
 St a2 (.int .i64 i) w fun (w : World) =>
 Dr w fun (w : World) =>
 Ix wants.a wants.len i 2 fun (a3 : Addr) =>
 Ld (.i .i64) w a3 fun (System : Int) =>
 Ix wants.a wants.len i 2 fun (a4 : Addr) =>
 Ld (.i .i64) w (a4.add 1) fun (Index : Int) =>
 c9 System 16 w fun (r : Int) (w : World) =>
 w.cell? (a4.add 1) = some (.int .i64 Index) ∧ (c9 Index 200 w fun (r2 : Int) (w : World) =>
 c8 a r r2 1 4 0 0 i ⟨none, 0, 0⟩ ⟨none, 0, 0⟩ w fun (e : Int) (w : World) =>
 if (e != 0) = true then (R false w) else (∃ m2 : Nat, m2 < m ∧ Inv_ (IntKind.i64.wrap (i + 1)) m2 w))) else (∃ Inv_2 : Int → Nat → World → Prop, (∃ n : Nat, Inv_2 0 n w) ∧ ∀ i2 : Int, ∀ m3 : Nat, ∀ w : World, Inv_2 i2 m3 w → (if (cond (cond (decide (i2 < (swaps.len : Int))) (decide (i2 < 1000)) false) (decide ((if 200 < (wants.len : Int) then 200 else (wants.len : Int)) > 1)) false) = true then (Ix swaps.a swaps.len i2 1 fun (a5 : Addr) =>
 Ld (.i .i64) w a5 fun (x : Int) =>
 c9 x (IntKind.i64.wrap ((if 200 < (wants.len : Int) then 200 else (wants.len : Int)) - 1)) w fun (k : Int) (w : World) =>
 Ix row.a row.len k 1 fun (a6 : Addr) =>
 Ld (.i .i64) w a6 fun (x2 : Int) =>
 Ix wants.a wants.len x2 2 fun (a7 : Addr) =>
 Ld (.i .i64) w a7 fun (x_System : Int) => Ld (.i .i64) w (a7.add 1) fun (x_Index : Int) =>
 Nw (.cells #[.int .i64 0, .int .i64 0] 31) w fun (x3 : Addr) (w : World) =>
 St x3 (.int .i64 x_System) w fun (w : World) =>
 St (x3.add 1) (.int .i64 x_Index) w fun (w : World) =>
 Ix row.a row.len (IntKind.i64.wrap (k + 1)) 1 fun (a8 : Addr) =>
 Ld (.i .i64) w a8 fun (x4 : Int) =>
 Ix wants.a wants.len x4 2 fun (a9 : Addr) =>
 Ld (.i .i64) w a9 fun (y_System : Int) => Ld (.i .i64) w (a9.add 1) fun (y_Index : Int) =>
 Nw (.cells #[.int .i64 0, .int .i64 0] 31) w fun (y : Addr) (w : World) =>
 St y (.int .i64 y_System) w fun (w : World) =>
 St (y.add 1) (.int .i64 y_Index) w fun (w : World) =>
 ∃ J_ : Bool → World → Prop, (Dr w fun (w : World) =>
 Ld (.i .i64) w x3 fun (System2 : Int) =>
 Ld (.i .i64) w y fun (System3 : Int) =>
 c9 System2 16 w fun (r3 : Int) (w : World) =>
 w.cell? y = some (.int .i64 System3) ∧ (c9 System3 16 w fun (r4 : Int) (w : World) =>
 if (r3 != r4) = true then (J_ true w) else (Ld (.i .i64) w (x3.add 1) fun (Index2 : Int) =>
 Ld (.i .i64) w (y.add 1) fun (Index3 : Int) =>
 c9 Index2 200 w fun (r5 : Int) (w : World) =>
 w.cell? (y.add 1) = some (.int .i64 Index3) ∧ (c9 Index3 200 w fun (r6 : Int) (w : World) =>
 J_ (r5 != r6) w)))) ∧ ∀ t123 : Bool, ∀ w : World, J_ t123 w → (if t123 = true then (Ix row.a row.len k 1 fun (a10 : Addr) =>
 Ld (.i .i64) w a10 fun (z : Int) =>
 Ix row.a row.len (IntKind.i64.wrap (k + 1)) 1 fun (a11 : Addr) =>
 Ld (.i .i64) w a11 fun (x5 : Int) =>
 Ix row.a row.len k 1 fun (a12 : Addr) =>
 St a12 (.int .i64 x5) w fun (w : World) =>
 Ix row.a row.len (IntKind.i64.wrap (k + 1)) 1 fun (a13 : Addr) =>
 St a13 (.int .i64 z) w fun (w : World) =>
 ∃ m4 : Nat, m4 < m3 ∧ Inv_2 (IntKind.i64.wrap (i2 + 1)) m4 w) else (∃ m4 : Nat, m4 < m3 ∧ Inv_2 (IntKind.i64.wrap (i2 + 1)) m4 w))) else (∃ Inv_3 : Int → Nat → World → Prop, (∃ n : Nat, Inv_3 0 n w) ∧ ∀ i3 : Int, ∀ m5 : Nat, ∀ w : World, Inv_3 i3 m5 w → (if (decide (i3 < (if 200 < (wants.len : Int) then 200 else (wants.len : Int)))) = true then (Ix row.a row.len i3 1 fun (a14 : Addr) =>
 Ld (.i .i64) w a14 fun (x6 : Int) =>
 Ix wants.a wants.len x6 2 fun (a15 : Addr) =>
 Ld (.i .i64) w a15 fun (x_System2 : Int) => Ld (.i .i64) w (a15.add 1) fun (x_Index2 : Int) =>
 Nw (.cells #[.int .i64 0, .int .i64 0] 31) w fun (x7 : Addr) (w : World) =>
 St x7 (.int .i64 x_System2) w fun (w : World) =>
 St (x7.add 1) (.int .i64 x_Index2) w fun (w : World) =>
 Dr w fun (w : World) =>
 Ld (.i .i64) w x7 fun (System4 : Int) =>
 Ld (.i .i64) w (x7.add 1) fun (Index4 : Int) =>
 Ix row.a row.len i3 1 fun (a16 : Addr) =>
 Ld (.i .i64) w a16 fun (x8 : Int) =>
 c9 System4 16 w fun (r7 : Int) (w : World) =>
 w.cell? a16 = some (.int .i64 x8) ∧ w.cell? (x7.add 1) = some (.int .i64 Index4) ∧ (c9 Index4 200 w fun (r8 : Int) (w : World) =>
 w.cell? a16 = some (.int .i64 x8) ∧ (c8 b r7 r8 2 4 0 0 x8 ⟨none, 0, 0⟩ ⟨none, 0, 0⟩ w fun (r9 : Int) (w : World) =>
 ∃ m6 : Nat, m6 < m5 ∧ Inv_3 (IntKind.i64.wrap (i3 + 1)) m6 w))) else (c10 a w fun (l : Sl) (w : World) =>
 c10 b w fun (m7 : Sl) (w : World) =>
 if (cond ((l.len : Int) != (if 200 < (wants.len : Int) then 200 else (wants.len : Int))) true ((m7.len : Int) != (if 200 < (wants.len : Int) then 200 else (wants.len : Int)))) = true then (R false w) else (∃ Inv_4 : Int → Nat → World → Prop, (∃ n : Nat, Inv_4 0 n w) ∧ ∀ i4 : Int, ∀ m8 : Nat, ∀ w : World, Inv_4 i4 m8 w → (if (decide (i4 < (if 200 < (wants.len : Int) then 200 else (wants.len : Int)))) = true then (∃ J_2 : World → Prop, (Dr w fun (w : World) =>
 Ix l.a l.len i4 6 fun (a17 : Addr) =>
 Ld (.i .i64) w (a17.add 3) fun (Kind : Int) =>
 Ix m7.a m7.len i4 6 fun (a18 : Addr) =>
 Ld (.i .i64) w (a18.add 3) fun (Kind2 : Int) =>
 if (Kind != Kind2) = true then (R false w) else (Ix l.a l.len i4 6 fun (a19 : Addr) =>
 Ld (.i .i64) w (a19.add 3) fun (Kind3 : Int) =>
 if (decide (Kind3 < 0)) = true then (R false w) else (Ix l.a l.len i4 6 fun (a20 : Addr) =>
 Ld (.i .i64) w (a20.add 3) fun (Kind4 : Int) =>
 if (decide (Kind4 ≥ (if 200 < (wants.len : Int) then 200 else (wants.len : Int)))) = true then (R false w) else (J_2  w)))) ∧ ∀ w : World, J_2  w → (if (i4 == 0) = true then (∃ m9 : Nat, m9 < m8 ∧ Inv_4 (IntKind.i64.wrap (i4 + 1)) m9 w) else (Ix l.a l.len (IntKind.i64.wrap (i4 - 1)) 6 fun (a21 : Addr) =>
 Ld (.i .i64) w (a21.add 3) fun (Kind5 : Int) =>
 Ix wants.a wants.len Kind5 2 fun (a22 : Addr) =>
 Ld (.i .i64) w a22 fun (x_System3 : Int) => Ld (.i .i64) w (a22.add 1) fun (x_Index3 : Int) =>
 Nw (.cells #[.int .i64 0, .int .i64 0] 31) w fun (x9 : Addr) (w : World) =>
 St x9 (.int .i64 x_System3) w fun (w : World) =>
 St (x9.add 1) (.int .i64 x_Index3) w fun (w : World) =>
 Ix l.a l.len i4 6 fun (a23 : Addr) =>
 Ld (.i .i64) w (a23.add 3) fun (Kind6 : Int) =>
 Ix wants.a wants.len Kind6 2 fun (a24 : Addr) =>
 Ld (.i .i64) w a24 fun (y_System2 : Int) => Ld (.i .i64) w (a24.add 1) fun (y_Index2 : Int) =>
 Nw (.cells #[.int .i64 0, .int .i64 0] 31) w fun (y2 : Addr) (w : World) =>
 St y2 (.int .i64 y_System2) w fun (w : World) =>
 St (y2.add 1) (.int .i64 y_Index2) w fun (w : World) =>
 Dr w fun (w : World) =>
 Ld (.i .i64) w x9 fun (System5 : Int) =>
 Ld (.i .i64) w (x9.add 1) fun (Index5 : Int) =>
 c9 System5 16 w fun (r10 : Int) (w : World) =>
 w.cell? (x9.add 1) = some (.int .i64 Index5) ∧ (c9 Index5 200 w fun (r11 : Int) (w : World) =>
 Dr w fun (w : World) =>
 Ld (.i .i64) w y2 fun (System6 : Int) =>
 Ld (.i .i64) w (y2.add 1) fun (Index6 : Int) =>
 c9 System6 16 w fun (r12 : Int) (w : World) =>
 w.cell? (y2.add 1) = some (.int .i64 Index6) ∧ (c9 Index6 200 w fun (r13 : Int) (w : World) =>
 Dr w fun (w : World) =>
 if (decide ((IntKind.i64.wrap ((IntKind.i64.wrap (r10 * 1000)) + r11)) > (IntKind.i64.wrap ((IntKind.i64.wrap (r12 * 1000)) + r13)))) = true then (R false w) else (if ((IntKind.i64.wrap ((IntKind.i64.wrap (r10 * 1000)) + r11)) == (IntKind.i64.wrap ((IntKind.i64.wrap (r12 * 1000)) + r13))) = true then (Ix l.a l.len (IntKind.i64.wrap (i4 - 1)) 6 fun (a25 : Addr) =>
 Ld (.i .i64) w (a25.add 3) fun (Kind7 : Int) =>
 Ix l.a l.len i4 6 fun (a26 : Addr) =>
 Ld (.i .i64) w (a26.add 3) fun (Kind8 : Int) =>
 if (decide (Kind7 ≥ Kind8)) = true then (R false w) else (∃ m9 : Nat, m9 < m8 ∧ Inv_4 (IntKind.i64.wrap (i4 + 1)) m9 w)) else (∃ m9 : Nat, m9 < m8 ∧ Inv_4 (IntKind.i64.wrap (i4 + 1)) m9 w))))))) else (R true w))))))))))
def f4 (systems indexes : Sl) (more : Int) (w : World) (R : Bool → World → Prop) : Prop :=
 c6  w fun (head : Bool) (w : World) =>
 c7  w fun (b : Option Addr) (w : World) =>
 c12  w fun (r : Sl) (w : World) =>
 c11 r w fun (w_ : Option Addr) (e : Int) (w : World) =>
 if (cond (cond (cond (!head) true b.isNone) true w_.isNone) true (e != 0)) = true then (R false w) else (∃ Inv_ : Int → Nat → World → Prop, (∃ n : Nat, Inv_ 0 n w) ∧ ∀ n_ : Int, ∀ m : Nat, ∀ w : World, Inv_ n_ m w → (if (decide (n_ < 100000)) = true then (c13 systems indexes n_ w fun (s x : Int) (w : World) =>
 c8 b s x 1 4 0 0 n_ ⟨none, 0, 0⟩ ⟨none, 0, 0⟩ w fun (e2 : Int) (w : World) =>
 if (e2 != 0) = true then (R false w) else (∃ m2 : Nat, m2 < m ∧ Inv_ (IntKind.i64.wrap (n_ + 1)) m2 w)) else (∃ Inv_2 : Int → Nat → World → Prop, (∃ n : Nat, Inv_2 0 n w) ∧ ∀ n_2 : Int, ∀ m3 : Nat, ∀ w : World, Inv_2 n_2 m3 w → (if (decide (n_2 < 3)) = true then (c8 b more more 0 1 0 0 (-1) ⟨none, 0, 0⟩ ⟨none, 0, 0⟩ w fun (e3 : Int) (w : World) =>
 if (e3 != 40) = true then (R false w) else (∃ m4 : Nat, m4 < m3 ∧ Inv_2 (IntKind.i64.wrap (n_2 + 1)) m4 w)) else (c14 b w_ w fun (made : Sl) (refused : Int) (w : World) =>
 ∃ J_ : World → Prop, (if ((made.len : Int) != 0) = true then (R false w) else (if (refused != 100000) = true then (R false w) else (c15 w_ w fun (r2 : Sl) (w : World) =>
 if ((r2.len : Int) != 0) = true then (R false w) else (J_  w)))) ∧ ∀ w : World, J_  w → (c10 b w fun (l : Sl) (w : World) =>
 if ((l.len : Int) != 100000) = true then (R false w) else (∃ Inv_3 : Int → Nat → World → Prop, (∃ n : Nat, Inv_3 0 n w) ∧ ∀ i : Int, ∀ m5 : Nat, ∀ w : World, Inv_3 i m5 w → (if (decide (i < (l.len : Int))) = true then (∃ J_2 : World → Prop, (Ix l.a l.len i 6 fun (a : Addr) =>
 Ld (.i .i64) w a fun (Op : Int) =>
 if (Op != 4) = true then (R false w) else (Ix l.a l.len i 6 fun (a2 : Addr) =>
 Ld (.i .i64) w (a2.add 3) fun (Kind : Int) =>
 if (decide (Kind < 0)) = true then (R false w) else (Ix l.a l.len i 6 fun (a3 : Addr) =>
 Ld (.i .i64) w (a3.add 3) fun (Kind2 : Int) =>
 if (decide (Kind2 ≥ 100000)) = true then (R false w) else (J_2  w)))) ∧ ∀ w : World, J_2  w → (if (i == 0) = true then (∃ m6 : Nat, m6 < m5 ∧ Inv_3 (IntKind.i64.wrap (i + 1)) m6 w) else (Ix l.a l.len (IntKind.i64.wrap (i - 1)) 6 fun (a4 : Addr) =>
 Ld (.i .i64) w (a4.add 3) fun (Kind3 : Int) =>
 c13 systems indexes Kind3 w fun (s2 x2 : Int) (w : World) =>
 Ix l.a l.len i 6 fun (a5 : Addr) =>
 Ld (.i .i64) w (a5.add 3) fun (Kind4 : Int) =>
 c13 systems indexes Kind4 w fun (t y : Int) (w : World) =>
 Dr w fun (w : World) =>
 if (decide (s2 > t)) = true then (R false w) else (if (s2 == t) = true then (if (decide (x2 > y)) = true then (R false w) else (if (s2 == t) = true then (if (x2 == y) = true then (Ix l.a l.len (IntKind.i64.wrap (i - 1)) 6 fun (a6 : Addr) =>
 Ld (.i .i64) w (a6.add 3) fun (Kind5 : Int) =>
 Ix l.a l.len i 6 fun (a7 : Addr) =>
 Ld (.i .i64) w (a7.add 3) fun (Kind6 : Int) =>
 if (decide (Kind5 ≥ Kind6)) = true then (R false w) else (∃ m6 : Nat, m6 < m5 ∧ Inv_3 (IntKind.i64.wrap (i + 1)) m6 w)) else (∃ m6 : Nat, m6 < m5 ∧ Inv_3 (IntKind.i64.wrap (i + 1)) m6 w)) else (∃ m6 : Nat, m6 < m5 ∧ Inv_3 (IntKind.i64.wrap (i + 1)) m6 w))) else (if (s2 == t) = true then (if (x2 == y) = true then (Ix l.a l.len (IntKind.i64.wrap (i - 1)) 6 fun (a8 : Addr) =>
 Ld (.i .i64) w (a8.add 3) fun (Kind7 : Int) =>
 Ix l.a l.len i 6 fun (a9 : Addr) =>
 Ld (.i .i64) w (a9.add 3) fun (Kind8 : Int) =>
 if (decide (Kind7 ≥ Kind8)) = true then (R false w) else (∃ m6 : Nat, m6 < m5 ∧ Inv_3 (IntKind.i64.wrap (i + 1)) m6 w)) else (∃ m6 : Nat, m6 < m5 ∧ Inv_3 (IntKind.i64.wrap (i + 1)) m6 w)) else (∃ m6 : Nat, m6 < m5 ∧ Inv_3 (IntKind.i64.wrap (i + 1)) m6 w)))))) else (R true w)))))))))
def f5 (first then_ : Sl) (w : World) (R : Bool → World → Prop) : Prop :=
 c6  w fun (head : Bool) (w : World) =>
 c7  w fun (a : Option Addr) (w : World) =>
 c7  w fun (b : Option Addr) (w : World) =>
 c12  w fun (r : Sl) (w : World) =>
 c11 r w fun (w_ : Option Addr) (e : Int) (w : World) =>
 if (cond (cond (cond (cond (!head) true a.isNone) true b.isNone) true w_.isNone) true (e != 0)) = true then (R false w) else (∃ Inv_ : Int → Nat → World → Prop, (∃ n : Nat, Inv_ 0 n w) ∧ ∀ i : Int, ∀ m : Nat, ∀ w : World, Inv_ i m w → (if (cond (decide (i < (first.len : Int))) (decide (i < 100)) false) = true then (Dr w fun (w : World) =>
 Ix first.a first.len i 13 fun (a2 : Addr) =>
 Ld (.i .i64) w (a2.add 3) fun (System : Int) =>
 Ix first.a first.len i 13 fun (a3 : Addr) =>
 Ld (.i .i64) w (a3.add 5) fun (E_Index : Int) => Ld (.i .i64) w ((a3.add 5).add 1) fun (E_Gen : Int) =>
 Ix first.a first.len i 13 fun (a4 : Addr) =>
 Ld (.i .i64) w (a4.add 7) fun (C_Op : Int) => Ld (.i .i64) w ((a4.add 7).add 1) fun (C_E_Index : Int) => Ld (.i .i64) w ((a4.add 7).add 2) fun (C_E_Gen : Int) => Ld (.i .i64) w ((a4.add 7).add 3) fun (C_Kind : Int) => Ld .sl w ((a4.add 7).add 4) fun (C_Values : Sl) => Ld .sl w ((a4.add 7).add 5) fun (C_Parts : Sl) =>
 c8 a System E_Index E_Gen C_Op C_E_Index C_E_Gen C_Kind C_Values C_Parts w fun (r2 : Int) (w : World) =>
 ∃ m2 : Nat, m2 < m ∧ Inv_ (IntKind.i64.wrap (i + 1)) m2 w) else (c14 a w_ w fun (r3 : Sl) (r4 : Int) (w : World) =>
 ∃ Inv_2 : Int → Nat → World → Prop, (∃ n : Nat, Inv_2 0 n w) ∧ ∀ i2 : Int, ∀ m3 : Nat, ∀ w : World, Inv_2 i2 m3 w → (if (cond (decide (i2 < (then_.len : Int))) (decide (i2 < 100)) false) = true then (Dr w fun (w : World) =>
 Ix then_.a then_.len i2 13 fun (a5 : Addr) =>
 Ld (.i .i64) w (a5.add 3) fun (System2 : Int) =>
 Ix then_.a then_.len i2 13 fun (a6 : Addr) =>
 Ld (.i .i64) w (a6.add 5) fun (E_Index2 : Int) => Ld (.i .i64) w ((a6.add 5).add 1) fun (E_Gen2 : Int) =>
 Ix then_.a then_.len i2 13 fun (a7 : Addr) =>
 Ld (.i .i64) w (a7.add 7) fun (C_Op2 : Int) => Ld (.i .i64) w ((a7.add 7).add 1) fun (C_E_Index2 : Int) => Ld (.i .i64) w ((a7.add 7).add 2) fun (C_E_Gen2 : Int) => Ld (.i .i64) w ((a7.add 7).add 3) fun (C_Kind2 : Int) => Ld .sl w ((a7.add 7).add 4) fun (C_Values2 : Sl) => Ld .sl w ((a7.add 7).add 5) fun (C_Parts2 : Sl) =>
 c8 b System2 E_Index2 E_Gen2 C_Op2 C_E_Index2 C_E_Gen2 C_Kind2 C_Values2 C_Parts2 w fun (r5 : Int) (w : World) =>
 ∃ m4 : Nat, m4 < m3 ∧ Inv_2 (IntKind.i64.wrap (i2 + 1)) m4 w) else (c16 w_ w fun (v : Option Addr) (w : World) =>
 if v.isNone = true then (R false w) else (∃ Inv_3 : Int → Nat → World → Prop, (∃ n : Nat, Inv_3 0 n w) ∧ ∀ i3 : Int, ∀ m5 : Nat, ∀ w : World, Inv_3 i3 m5 w → (if (decide (i3 < 40)) = true then (c7  w fun (c : Option Addr) (w : World) =>
 if c.isNone = true then (R false w) else (c8 c 0 i3 0 1 0 0 0 ⟨none, 0, 0⟩ ⟨none, 0, 0⟩ w fun (r6 : Int) (w : World) =>
 ∃ m6 : Nat, m6 < m5 ∧ Inv_3 (IntKind.i64.wrap (i3 + 1)) m6 w)) else (c10 b w fun (r7 : Sl) (w : World) =>
 if ((r7.len : Int) != (if 100 < (then_.len : Int) then 100 else (then_.len : Int))) = true then (R false w) else (c14 b w_ w fun (l : Sl) (g : Int) (w : World) =>
 c14 b v w fun (m7 : Sl) (h : Int) (w : World) =>
 ∃ J_ : World → Prop, (Dr w fun (w : World) =>
 if ((l.len : Int) != (m7.len : Int)) = true then (R false w) else (if (g != h) = true then (R false w) else (c10 b w fun (r8 : Sl) (w : World) =>
 if ((r8.len : Int) != (r7.len : Int)) = true then (R false w) else (if (decide (g > (r7.len : Int))) = true then (R false w) else (c17 w_ w fun (r9 : Sl) (w : World) =>
 RdB w ⟨r9.a, r9.len, r9.cap⟩ fun (x : ByteArray) =>
 c17 v w fun (r10 : Sl) (w : World) =>
 BytesAt w ⟨r9.a, r9.len, r9.cap⟩ x ∧ (RdB w ⟨r10.a, r10.len, r10.cap⟩ fun (x2 : ByteArray) =>
 if (!(x.toList == x2.toList)) = true then (R false w) else (J_  w))))))) ∧ ∀ w : World, J_  w → (∃ Inv_4 : Int → Nat → World → Prop, (∃ n : Nat, Inv_4 0 n w) ∧ ∀ i4 : Int, ∀ m8 : Nat, ∀ w : World, Inv_4 i4 m8 w → (if (decide (i4 < (l.len : Int))) = true then (Dr w fun (w : World) =>
 Ix l.a l.len i4 2 fun (a8 : Addr) =>
 Ld (.i .i64) w a8 fun (x_Index : Int) => Ld (.i .i64) w (a8.add 1) fun (x_Gen : Int) =>
 Ix m7.a m7.len i4 2 fun (a9 : Addr) =>
 Ld (.i .i64) w a9 fun (x_Index2 : Int) => Ld (.i .i64) w (a9.add 1) fun (x_Gen2 : Int) =>
 RunRo .b Try.prog (binSem .neq 33 (.tmp 180) (.tmp 184) (.agg #[.int .i64 x_Index, .int .i64 x_Gen]) (.agg #[.int .i64 x_Index2, .int .i64 x_Gen2])) w fun (eq : Bool) =>
 if eq = true then (R false w) else (∃ m9 : Nat, m9 < m8 ∧ Inv_4 (IntKind.i64.wrap (i4 + 1)) m9 w)) else (R true w))))))))))))
theorem c5_of {first then_ w R} (h : f5 first then_ w R) : c5 first then_ w R :=
  callK_of (H := ⟨[(8, ⟨[(10, .i .i64)], [0, 1, 6, 7, 8]⟩), (13, ⟨[(11, .i .i64)], [1, 7, 8]⟩), (20, ⟨[(13, .i .i64)], [1, 7, 8, 12]⟩), (34, ⟨[(20, .i .i64)], [16, 18]⟩)], [(33, ⟨[], [16, 18]⟩)]⟩) okP Try.func5 (cast (by kernel_rfl) h)
def f6 (w : World) (R : Bool → World → Prop) : Prop :=
 c7  w fun (b : Option Addr) (w : World) =>
 c12  w fun (r : Sl) (w : World) =>
 c11 r w fun (w_ : Option Addr) (e : Int) (w : World) =>
 if (cond (cond b.isNone true w_.isNone) true (e != 0)) = true then (R false w) else (c8 b 1 5 1 2 0 1 0 ⟨none, 0, 0⟩ ⟨none, 0, 0⟩ w fun (one : Int) (w : World) =>
 Nw (.cells #[.int .i64 7] 2) w fun (b2 : Addr) (w : World) =>
 Nw (.cells #[.int .i64 2, .slice (some b2) 1 1] 62) w fun (b3 : Addr) (w : World) =>
 c8 b 0 9 1 1 0 0 0 ⟨none, 0, 0⟩ ⟨some b3, 1, 1⟩ w fun (two : Int) (w : World) =>
 c10 b w fun (l : Sl) (w : World) =>
 c14 b w_ w fun (made : Sl) (refused : Int) (w : World) =>
 if (one == 0) = true then (if (two == 0) = true then (if ((l.len : Int) == 2) = true then (Ix l.a l.len 0 6 fun (a : Addr) =>
 Ld (.i .i64) w a fun (Op : Int) =>
 if (Op == 1) = true then (Ix l.a l.len 1 6 fun (a2 : Addr) =>
 Ld (.i .i64) w a2 fun (Op2 : Int) =>
 if (Op2 == 2) = true then (if ((made.len : Int) == 1) = true then (Ix made.a made.len 0 2 fun (a3 : Addr) =>
 Ld (.i .i64) w a3 fun (x_Index : Int) => Ld (.i .i64) w (a3.add 1) fun (x_Gen : Int) =>
 RunRo .b Try.prog (binSem .eql 33 (.tmp 78) (.tmp 79) (.agg #[.int .i64 x_Index, .int .i64 x_Gen]) (.agg #[.int .i64 0, .int .i64 1])) w fun (eq : Bool) =>
 if eq = true then (if (refused == 0) = true then (Ix made.a made.len 0 2 fun (a4 : Addr) =>
 Ld (.i .i64) w a4 fun (x_Index2 : Int) => Ld (.i .i64) w (a4.add 1) fun (x_Gen2 : Int) =>
 c18 w_ x_Index2 x_Gen2 w fun (r2 : Bool) (w : World) =>
 R (!r2) w) else (R false w)) else (R false w)) else (R false w)) else (R false w)) else (R false w)) else (R false w)) else (R false w)) else (R false w))
theorem c6_of {w R} (h : f6  w R) : c6  w R :=
  callK_of (H := ⟨[], []⟩) okP Try.func6 (cast (by kernel_rfl) h)
def f7 (w : World) (R : Option Addr → World → Prop) : Prop :=
 Nw (.cells #[.slice none 0 0] 66) w fun (a : Addr) (w : World) =>
 R (some a) w
theorem c7_of {w R} (h : f7  w R) : c7  w R :=
  callK_of (H := ⟨[], []⟩) okP Try.func7 (cast (by kernel_rfl) h)
def f8 (b : Option Addr) (system e_Index : Int) (e_Gen c_Op : Int) (c_E_Index c_E_Gen c_Kind : Int) (c_Values c_Parts : Sl) (w : World) (R : Int → World → Prop) : Prop :=
 Nw (.cells #[.int .i64 e_Index, .int .i64 e_Gen] 33) w fun (e : Addr) (w : World) =>
 Nw (.cells #[.int .i64 c_Op, .int .i64 c_E_Index, .int .i64 c_E_Gen, .int .i64 c_Kind, .slice c_Values.a c_Values.len c_Values.cap, .slice c_Parts.a c_Parts.len c_Parts.cap] 37) w fun (c : Addr) (w : World) =>
 NN b fun (b_ : Addr) =>
 Ld .sl w b_ fun (l : Sl) =>
 if (decide ((l.len : Int) ≥ 100000)) = true then (R 40 w) else (Dr w fun (w : World) =>
 NN b fun (b_2 : Addr) =>
 Ld .sl w b_2 fun (l2 : Sl) =>
 Ld (.i .i64) w e fun (Index : Int) =>
 Ld (.i .i64) w c fun (c_Op2 : Int) => Ld (.i .i64) w (c.add 1) fun (c_E_Index2 : Int) => Ld (.i .i64) w (c.add 2) fun (c_E_Gen2 : Int) => Ld (.i .i64) w (c.add 3) fun (c_Kind2 : Int) => Ld .sl w (c.add 4) fun (c_Values2 : Sl) => Ld .sl w (c.add 5) fun (c_Parts2 : Sl) =>
 c19 c_Op2 c_E_Index2 c_E_Gen2 c_Kind2 c_Values2 c_Parts2 w fun (r_Op r_E_Index : Int) (r_E_Gen r_Kind : Int) (r_Values r_Parts : Sl) (w : World) =>
 w.cell? e = some (.int .i64 Index) ∧ w.cell? b_2 = some (.slice l2.a l2.len l2.cap) ∧ (Nw (.cells #[.int .i64 system, .int .i64 Index, .int .i64 r_Op, .int .i64 r_E_Index, .int .i64 r_E_Gen, .int .i64 r_Kind, .slice r_Values.a r_Values.len r_Values.cap, .slice r_Parts.a r_Parts.len r_Parts.cap] 69) w fun (b2 : Addr) (w : World) =>
 Run .sl Try.prog (Builtin.append_ #[64, 64] 64 #[.slice l2.a l2.len l2.cap, .slice (some b2) 1 1]) w fun (s : Sl) (w : World) =>
 NN b fun (b_3 : Addr) =>
 St b_3 (.slice s.a s.len s.cap) w fun (w : World) =>
 R 0 w))
theorem c8_of {b system e_Index e_Gen c_Op c_E_Index c_E_Gen c_Kind c_Values c_Parts w R} (h : f8 b system e_Index e_Gen c_Op c_E_Index c_E_Gen c_Kind c_Values c_Parts w R) : c8 b system e_Index e_Gen c_Op c_E_Index c_E_Gen c_Kind c_Values c_Parts w R :=
  callK_of (H := ⟨[], []⟩) okP Try.func8 (cast (by kernel_rfl) h)
def f10 (b : Option Addr) (w : World) (R : Sl → World → Prop) : Prop :=
 NN b fun (b_ : Addr) =>
 Ld .sl w b_ fun (l : Sl) =>
 c20 l w fun (l2 : Sl) (w : World) =>
 c21 l2 (.func (.func 22) #[] #[]) w fun  (w : World) =>
 c25 l2 (.func (.func 26) #[] #[]) w fun (r : Sl) (w : World) =>
 R r w
theorem c10_of {b w R} (h : f10 b w R) : c10 b w R :=
  callK_of (H := ⟨[], []⟩) okP Try.func10 (cast (by kernel_rfl) h)
def f11 (kinds : Sl) (w : World) (R : Option Addr → Int → World → Prop) : Prop :=
 c27 kinds w fun (r : Bool) (w : World) =>
 if (!r) = true then (R none 65 w) else (c28 200 w fun (p : Option Addr) (e : Int) (w : World) =>
 if (e != 0) = true then (R none e w) else (c29 kinds w fun (r2 : Sl) (w : World) =>
 Nw (.map #[] 0) w fun (m : Addr) (w : World) =>
 Nw (.map #[] 0) w fun (m2 : Addr) (w : World) =>
 Nw (.cells #[.slice r2.a r2.len r2.cap, .pointer p, .map (some m.block), .map (some m2.block)] 84) w fun (a : Addr) (w : World) =>
 R (some a) 0 w))
theorem c11_of {kinds w R} (h : f11 kinds w R) : c11 kinds w R :=
  callK_of (H := ⟨[], []⟩) okP Try.func11 (cast (by kernel_rfl) h)
def f12 (w : World) (R : Sl → World → Prop) : Prop :=
 Nw (.cells #[.string (⟨#[120]⟩ : ByteArray), .string (⟨#[121]⟩ : ByteArray)] 9) w fun (b : Addr) (w : World) =>
 Nw (.cells #[.string (⟨#[120]⟩ : ByteArray)] 9) w fun (b2 : Addr) (w : World) =>
 Nw (.cells #[.string (⟨#[80, 111, 115]⟩ : ByteArray), .slice (some b) 2 2, .string (⟨#[86, 101, 108]⟩ : ByteArray), .slice (some b2) 1 1, .string (⟨#[77, 97, 114, 107]⟩ : ByteArray), .slice none 0 0] 87) w fun (b3 : Addr) (w : World) =>
 R ⟨some b3, 3, 3⟩ w
theorem c12_of {w R} (h : f12  w R) : c12  w R :=
  callK_of (H := ⟨[], []⟩) okP Try.func12 (cast (by kernel_rfl) h)
def f14 (b w_ : Option Addr) (w : World) (R : Sl → Int → World → Prop) : Prop :=
 c10 b w fun (r : Sl) (w : World) =>
 ∃ Inv_ : Sl → Int → Int → Nat → World → Prop, (∃ n : Nat, Inv_ ⟨none, 0, 0⟩ 0 0 n w) ∧ ∀ spawned : Sl, ∀ refused : Int, ∀ t13 : Int, ∀ m : Nat, ∀ w : World, Inv_ spawned refused t13 m w → (if (decide (t13 < (r.len : Int))) = true then (Ix r.a r.len t13 6 fun (a : Addr) =>
 Ld (.i .i64) w a fun (c_Op : Int) => Ld (.i .i64) w (a.add 1) fun (c_E_Index : Int) => Ld (.i .i64) w (a.add 2) fun (c_E_Gen : Int) => Ld (.i .i64) w (a.add 3) fun (c_Kind : Int) => Ld .sl w (a.add 4) fun (c_Values : Sl) => Ld .sl w (a.add 5) fun (c_Parts : Sl) =>
 Nw (.cells #[.int .i64 0, .int .i64 0, .int .i64 0, .int .i64 0, .slice none 0 0, .slice none 0 0] 37) w fun (c : Addr) (w : World) =>
 St c (.int .i64 c_Op) w fun (w : World) =>
 St (c.add 1) (.int .i64 c_E_Index) w fun (w : World) =>
 St (c.add 2) (.int .i64 c_E_Gen) w fun (w : World) =>
 St (c.add 3) (.int .i64 c_Kind) w fun (w : World) =>
 St (c.add 4) (.slice c_Values.a c_Values.len c_Values.cap) w fun (w : World) =>
 St (c.add 5) (.slice c_Parts.a c_Parts.len c_Parts.cap) w fun (w : World) =>
 if (decide (t13 ≥ 2000)) = true then (∃ m2 : Nat, m2 < m ∧ Inv_ spawned (IntKind.i64.wrap (refused + 1)) (IntKind.i64.wrap (t13 + 1)) m2 w) else (Ld (.i .i64) w c fun (c_Op2 : Int) => Ld (.i .i64) w (c.add 1) fun (c_E_Index2 : Int) => Ld (.i .i64) w (c.add 2) fun (c_E_Gen2 : Int) => Ld (.i .i64) w (c.add 3) fun (c_Kind2 : Int) => Ld .sl w (c.add 4) fun (c_Values2 : Sl) => Ld .sl w (c.add 5) fun (c_Parts2 : Sl) =>
 c30 w_ c_Op2 c_E_Index2 c_E_Gen2 c_Kind2 c_Values2 c_Parts2 w fun (made : Sl) (e : Int) (w : World) =>
 if (e != 0) = true then (∃ m2 : Nat, m2 < m ∧ Inv_ spawned (IntKind.i64.wrap (refused + 1)) (IntKind.i64.wrap (t13 + 1)) m2 w) else (Run .sl Try.prog (Builtin.append_ #[48, 48] 48 #[.slice spawned.a spawned.len spawned.cap, .slice made.a made.len made.cap]) w fun (spawned2 : Sl) (w : World) =>
 ∃ m2 : Nat, m2 < m ∧ Inv_ spawned2 refused (IntKind.i64.wrap (t13 + 1)) m2 w))) else (R spawned refused w))
theorem c14_of {b w_ w R} (h : f14 b w_ w R) : c14 b w_ w R :=
  callK_of (H := ⟨[(2, ⟨[(4, .sl), (5, .i .i64), (13, .i .i64)], [1, 11, 12]⟩)], []⟩) okP Try.func14 (cast (by kernel_rfl) h)
def f15 (w_ : Option Addr) (w : World) (R : Sl → World → Prop) : Prop :=
 NN w_ fun (w_2 : Addr) =>
 Ld .p w (w_2.add 1) fun (pool : Option Addr) =>
 c31 pool w fun (r : Sl) (w : World) =>
 ∃ Inv_ : Sl → Int → Nat → World → Prop, (∃ n : Nat, Inv_ ⟨none, 0, 0⟩ 0 n w) ∧ ∀ out : Sl, ∀ t12 : Int, ∀ m : Nat, ∀ w : World, Inv_ out t12 m w → (if (decide (t12 < (r.len : Int))) = true then (Ix r.a r.len t12 2 fun (a : Addr) =>
 Ld (.i .i64) w a fun (e_Index : Int) => Ld (.i .i64) w (a.add 1) fun (e_Gen : Int) =>
 Nw (.cells #[.int .i64 0, .int .i64 0] 33) w fun (e : Addr) (w : World) =>
 St e (.int .i64 e_Index) w fun (w : World) =>
 St (e.add 1) (.int .i64 e_Gen) w fun (w : World) =>
 Ld (.i .i64) w e fun (e_Index2 : Int) => Ld (.i .i64) w (e.add 1) fun (e_Gen2 : Int) =>
 c32 w_ e_Index2 e_Gen2 w fun (r_E_Index r_E_Gen : Int) (r_Parts : Sl) (w : World) =>
 Nw (.cells #[.int .i64 r_E_Index, .int .i64 r_E_Gen, .slice r_Parts.a r_Parts.len r_Parts.cap] 92) w fun (b : Addr) (w : World) =>
 Run .sl Try.prog (Builtin.append_ #[51, 51] 51 #[.slice out.a out.len out.cap, .slice (some b) 1 1]) w fun (out2 : Sl) (w : World) =>
 ∃ m2 : Nat, m2 < m ∧ Inv_ out2 (IntKind.i64.wrap (t12 + 1)) m2 w) else (R out w))
theorem c15_of {w_ w R} (h : f15 w_ w R) : c15 w_ w R :=
  callK_of (H := ⟨[(3, ⟨[(3, .sl), (12, .i .i64)], [0, 10, 11]⟩)], []⟩) okP Try.func15 (cast (by kernel_rfl) h)
def f16 (w_ : Option Addr) (w : World) (R : Option Addr → World → Prop) : Prop :=
 Dr w fun (w : World) =>
 NN w_ fun (w_2 : Addr) =>
 Ld .sl w w_2 fun (kinds : Sl) =>
 NN w_ fun (w_3 : Addr) =>
 Ld .p w (w_3.add 1) fun (pool : Option Addr) =>
 FlS [(.map #[] 0, none), (.map #[] 0, none)] w fun (y y2 : Option Addr) (w : World) =>
 c29 kinds w fun (r : Sl) (w : World) =>
 w.cell? (w_3.add 1) = some (.pointer pool) ∧ (FlS [(.map #[] 0, y), (.map #[] 0, y2)] w fun (y3 y4 : Option Addr) (w : World) =>
 c33 pool w fun (r2 : Option Addr) (w : World) =>
 FlS [(.map #[] 0, y3), (.map #[] 0, y4)] w fun (y5 y6 : Option Addr) (w : World) =>
 Need y5 fun (a : Addr) =>
 FlS [(.map #[] 0, y6)] w fun (y7 : Option Addr) (w : World) =>
 Need y7 fun (a2 : Addr) =>
 Nw (.cells #[.slice r.a r.len r.cap, .pointer r2, .map (some a.block), .map (some a2.block)] 84) w fun (c : Addr) (w : World) =>
 NN w_ fun (w_4 : Addr) =>
 Ld .m w (w_4.add 2) fun (sets : Option Nat) =>
 Run .p Try.prog (Instr.range 81 (.map sets)) w fun (it : Option Addr) (w : World) =>
 ∃ Inv_ : Nat → World → Prop, (∃ n : Nat, Inv_  n w) ∧ ∀ m : Nat, ∀ w : World, Inv_  m w → (NxM Try.prog (.pointer it) 0 w (fun (w : World) =>
 NN w_ fun (w_5 : Addr) =>
 Ld .m w (w_5.add 3) fun (tables : Option Nat) =>
 Run .p Try.prog (Instr.range 82 (.map tables)) w fun (it2 : Option Addr) (w : World) =>
 ∃ Inv_2 : Nat → World → Prop, (∃ n : Nat, Inv_2  n w) ∧ ∀ m3 : Nat, ∀ w : World, Inv_2  m3 w → (NxM Try.prog (.pointer it2) 0 w (fun (w : World) =>
 R (some c) w) fun (key elem : Value) (w : World) =>
 EnM Try.prog (.pointer it2) w fun (key2 elem2 : Value) (w : World) =>
 viewRet [.one (.i .i64)] (key2) (fun (set : Int) (_ : World) =>
 viewRet [.one .p] (elem2) (fun (t : Option Addr) (_ : World) =>
 Dr w fun (w : World) =>
 Ld .m w (c.add 3) fun (tables2 : Option Nat) =>
 c34 t w fun (r3 : Option Addr) (w : World) =>
 w.cell? (c.add 3) = some (.map tables2) ∧ (RunU Try.prog (Instr.mapUpdate 82 (.map tables2) (.int .i64 set) (.pointer r3)) w fun (w : World) =>
 ∃ m4 : Nat, m4 < m3 ∧ Inv_2  m4 w)) w) w)) fun (key3 elem3 : Value) (w : World) =>
 EnM Try.prog (.pointer it) w fun (key4 elem4 : Value) (w : World) =>
 viewRet [.agg [.i .i64, .i .i64]] (key4) (fun (e_Index e_Gen : Int) (_ : World) =>
 viewRet [.one (.i .i64)] (elem4) (fun (set2 : Int) (_ : World) =>
 Nw (.cells #[.int .i64 0, .int .i64 0] 33) w fun (e : Addr) (w : World) =>
 St e (.int .i64 e_Index) w fun (w : World) =>
 St (e.add 1) (.int .i64 e_Gen) w fun (w : World) =>
 Dr w fun (w : World) =>
 Ld .m w (c.add 2) fun (sets2 : Option Nat) =>
 Ld (.i .i64) w e fun (e_Index2 : Int) => Ld (.i .i64) w (e.add 1) fun (e_Gen2 : Int) =>
 RunU Try.prog (Instr.mapUpdate 81 (.map sets2) (.agg #[.int .i64 e_Index2, .int .i64 e_Gen2]) (.int .i64 set2)) w fun (w : World) =>
 ∃ m2 : Nat, m2 < m ∧ Inv_  m2 w) w) w))
theorem c16_of {w_ w R} (h : f16 w_ w R) : c16 w_ w R :=
  callK_of (H := ⟨[(3, ⟨[], [0, 3, 26]⟩), (7, ⟨[], [3, 42]⟩)], []⟩) okP Try.func16 (cast (by kernel_rfl) h)
def f17 (w_ : Option Addr) (w : World) (R : Sl → World → Prop) : Prop :=
 NN w_ fun (w_2 : Addr) =>
 Ld .p w (w_2.add 1) fun (pool : Option Addr) =>
 c35 pool w fun (gens free : Sl) (w : World) =>
 c37 gens w fun (r : Sl) (w : World) =>
 c36 ⟨none, 0, 0⟩ r w fun (r2 : Sl) (w : World) =>
 c37 free w fun (r3 : Sl) (w : World) =>
 c36 r2 r3 w fun (b : Sl) (w : World) =>
 c15 w_ w fun (r4 : Sl) (w : World) =>
 ∃ Inv_ : Sl → Int → Nat → World → Prop, (∃ n : Nat, Inv_ b 0 n w) ∧ ∀ b2 : Sl, ∀ t29 : Int, ∀ m : Nat, ∀ w : World, Inv_ b2 t29 m w → (if (decide (t29 < (r4.len : Int))) = true then (Ix r4.a r4.len t29 3 fun (a : Addr) =>
 Ld (.i .i64) w a fun (r_E_Index : Int) => Ld (.i .i64) w (a.add 1) fun (r_E_Gen : Int) => Ld .sl w (a.add 2) fun (r_Parts : Sl) =>
 Nw (.cells #[.int .i64 0, .int .i64 0, .slice none 0 0] 92) w fun (r5 : Addr) (w : World) =>
 St r5 (.int .i64 r_E_Index) w fun (w : World) =>
 St (r5.add 1) (.int .i64 r_E_Gen) w fun (w : World) =>
 St (r5.add 2) (.slice r_Parts.a r_Parts.len r_Parts.cap) w fun (w : World) =>
 Dr w fun (w : World) =>
 NN w_ fun (w_3 : Addr) =>
 Ld .m w (w_3.add 2) fun (sets : Option Nat) =>
 Ld (.i .i64) w r5 fun (E_Index : Int) => Ld (.i .i64) w (r5.add 1) fun (E_Gen : Int) =>
 RunRoL [.one (.i .i64)] Try.prog (Instr.lookup 81 (.map sets) (.agg #[.int .i64 E_Index, .int .i64 E_Gen]) false) w fun (e : Int) (_ : World) =>
 c38 b2 (IntKind.u64.wrap e) w fun (b3 : Sl) (w : World) =>
 Ld .sl w (r5.add 2) fun (Parts : Sl) =>
 ∃ Inv_2 : Sl → Int → Nat → World → Prop, (∃ n : Nat, Inv_2 b3 0 n w) ∧ ∀ b4 : Sl, ∀ t46 : Int, ∀ m3 : Nat, ∀ w : World, Inv_2 b4 t46 m3 w → (if (decide (t46 < (Parts.len : Int))) = true then (Ix Parts.a Parts.len t46 2 fun (a2 : Addr) =>
 Ld (.i .i64) w a2 fun (p_Kind : Int) => Ld .sl w (a2.add 1) fun (p_Values : Sl) =>
 Nw (.cells #[.int .i64 0, .slice none 0 0] 62) w fun (p : Addr) (w : World) =>
 St p (.int .i64 p_Kind) w fun (w : World) =>
 St (p.add 1) (.slice p_Values.a p_Values.len p_Values.cap) w fun (w : World) =>
 Ld .sl w (p.add 1) fun (Values : Sl) =>
 ∃ Inv_3 : Sl → Int → Nat → World → Prop, (∃ n : Nat, Inv_3 b4 0 n w) ∧ ∀ b5 : Sl, ∀ t53 : Int, ∀ m5 : Nat, ∀ w : World, Inv_3 b5 t53 m5 w → (if (decide (t53 < (Values.len : Int))) = true then (Ix Values.a Values.len t53 1 fun (a3 : Addr) =>
 Ld (.i .i64) w a3 fun (x : Int) =>
 c39 b5 x w fun (b6 : Sl) (w : World) =>
 ∃ m6 : Nat, m6 < m5 ∧ Inv_3 b6 (IntKind.i64.wrap (t53 + 1)) m6 w) else (∃ m4 : Nat, m4 < m3 ∧ Inv_2 b5 (IntKind.i64.wrap (t46 + 1)) m4 w))) else (∃ m2 : Nat, m2 < m ∧ Inv_ b4 (IntKind.i64.wrap (t29 + 1)) m2 w))) else (R b2 w))
theorem c17_of {w_ w R} (h : f17 w_ w R) : c17 w_ w R :=
  callK_of (H := ⟨[(4, ⟨[(5, .sl), (29, .i .i64)], [0, 27, 28]⟩), (8, ⟨[(5, .sl), (46, .i .i64)], [0, 27, 28, 29, 44, 45]⟩), (11, ⟨[(5, .sl), (53, .i .i64)], [0, 27, 28, 29, 44, 45, 46, 51, 52]⟩)], []⟩) okP Try.func17 (cast (by kernel_rfl) h)
def f18 (w_ : Option Addr) (e_Index e_Gen : Int) (w : World) (R : Bool → World → Prop) : Prop :=
 Nw (.cells #[.int .i64 e_Index, .int .i64 e_Gen] 33) w fun (e : Addr) (w : World) =>
 Dr w fun (w : World) =>
 NN w_ fun (w_2 : Addr) =>
 Ld .p w (w_2.add 1) fun (pool : Option Addr) =>
 Ld (.i .i64) w e fun (e_Index2 : Int) => Ld (.i .i64) w (e.add 1) fun (e_Gen2 : Int) =>
 c40 pool e_Index2 e_Gen2 w fun (r : Bool) (w : World) =>
 R r w
theorem c18_of {w_ e_Index e_Gen w R} (h : f18 w_ e_Index e_Gen w R) : c18 w_ e_Index e_Gen w R :=
  callK_of (H := ⟨[], []⟩) okP Try.func18 (cast (by kernel_rfl) h)
def f19 (c_Op c_E_Index : Int) (c_E_Gen c_Kind : Int) (c_Values c_Parts : Sl) (w : World) (R : Int → Int → Int → Int → Sl → Sl → World → Prop) : Prop :=
 Nw (.cells #[.int .i64 c_Op, .int .i64 c_E_Index, .int .i64 c_E_Gen, .int .i64 c_Kind, .slice c_Values.a c_Values.len c_Values.cap, .slice c_Parts.a c_Parts.len c_Parts.cap] 37) w fun (c : Addr) (w : World) =>
 Nw (.cells #[.int .i64 0, .int .i64 0, .int .i64 0, .int .i64 0, .slice none 0 0, .slice none 0 0] 37) w fun (a : Addr) (w : World) =>
 Ld .sl w (c.add 4) fun (Values : Sl) =>
 c41 Values w fun (r : Sl) (w : World) =>
 St (c.add 4) (.slice r.a r.len r.cap) w fun (w : World) =>
 Ld .sl w (c.add 5) fun (Parts : Sl) =>
 c42 Parts (.func (.func 43) #[] #[]) w fun (r2 : Sl) (w : World) =>
 St (c.add 5) (.slice r2.a r2.len r2.cap) w fun (w : World) =>
 Ld (.i .i64) w c fun (c_Op2 : Int) => Ld (.i .i64) w (c.add 1) fun (c_E_Index2 : Int) => Ld (.i .i64) w (c.add 2) fun (c_E_Gen2 : Int) => Ld (.i .i64) w (c.add 3) fun (c_Kind2 : Int) => Ld .sl w (c.add 4) fun (c_Values2 : Sl) => Ld .sl w (c.add 5) fun (c_Parts2 : Sl) =>
 St a (.int .i64 c_Op2) w fun (w : World) =>
 St (a.add 1) (.int .i64 c_E_Index2) w fun (w : World) =>
 St (a.add 2) (.int .i64 c_E_Gen2) w fun (w : World) =>
 St (a.add 3) (.int .i64 c_Kind2) w fun (w : World) =>
 St (a.add 4) (.slice c_Values2.a c_Values2.len c_Values2.cap) w fun (w : World) =>
 St (a.add 5) (.slice c_Parts2.a c_Parts2.len c_Parts2.cap) w fun (w : World) =>
 Ld (.i .i64) w a fun (r_Op : Int) => Ld (.i .i64) w (a.add 1) fun (r_E_Index : Int) => Ld (.i .i64) w (a.add 2) fun (r_E_Gen : Int) => Ld (.i .i64) w (a.add 3) fun (r_Kind : Int) => Ld .sl w (a.add 4) fun (r_Values : Sl) => Ld .sl w (a.add 5) fun (r_Parts : Sl) =>
 R r_Op r_E_Index r_E_Gen r_Kind r_Values r_Parts w
theorem c19_of {c_Op c_E_Index c_E_Gen c_Kind c_Values c_Parts w R} (h : f19 c_Op c_E_Index c_E_Gen c_Kind c_Values c_Parts w R) : c19 c_Op c_E_Index c_E_Gen c_Kind c_Values c_Parts w R :=
  callK_of (H := ⟨[], []⟩) okP Try.func19 (cast (by kernel_rfl) h)
def f20 (s : Sl) (w : World) (R : Sl → World → Prop) : Prop :=
 if s.a.isNone = true then (R ⟨none, 0, 0⟩ w) else (Nw (.cells #[] 69) w fun (b : Addr) (w : World) =>
 Run .sl Try.prog (Builtin.append_ #[64, 64] 64 #[.slice (some b) 0 0, .slice s.a s.len s.cap]) w fun (s2 : Sl) (w : World) =>
 R s2 w)
theorem c20_of {s w R} (h : f20 s w R) : c20 s w R :=
  callK_of (H := ⟨[], []⟩) okP Try.func20 (cast (by kernel_rfl) h)
def f21 (x : Sl) (cmp : Value) (w : World) (R : World → Prop) : Prop :=
 c44 x (x.len : Int) cmp w fun  (w : World) =>
 R w
theorem c21_of {x cmp w R} (h : f21 x cmp w R) : c21 x cmp w R :=
  callK_of (H := ⟨[], []⟩) okP Try.func21 (cast (by kernel_rfl) h)
def f22 (x_system x_index : Int) (x_c_Op x_c_E_Index : Int) (x_c_E_Gen x_c_Kind : Int) (x_c_Values x_c_Parts : Sl) (y_system y_index : Int) (y_c_Op y_c_E_Index : Int) (y_c_E_Gen y_c_Kind : Int) (y_c_Values y_c_Parts : Sl) (w : World) (R : Int → World → Prop) : Prop :=
 Nw (.cells #[.int .i64 x_system, .int .i64 x_index, .int .i64 x_c_Op, .int .i64 x_c_E_Index, .int .i64 x_c_E_Gen, .int .i64 x_c_Kind, .slice x_c_Values.a x_c_Values.len x_c_Values.cap, .slice x_c_Parts.a x_c_Parts.len x_c_Parts.cap] 69) w fun (x : Addr) (w : World) =>
 Nw (.cells #[.int .i64 y_system, .int .i64 y_index, .int .i64 y_c_Op, .int .i64 y_c_E_Index, .int .i64 y_c_E_Gen, .int .i64 y_c_Kind, .slice y_c_Values.a y_c_Values.len y_c_Values.cap, .slice y_c_Parts.a y_c_Parts.len y_c_Parts.cap] 69) w fun (y : Addr) (w : World) =>
 Dr w fun (w : World) =>
 Ld (.i .i64) w x fun (system : Int) =>
 Ld (.i .i64) w y fun (system2 : Int) =>
 Ld (.i .i64) w (x.add 1) fun (index : Int) =>
 Ld (.i .i64) w (y.add 1) fun (index2 : Int) =>
 c24 system system2 w fun (r : Int) (w : World) =>
 w.cell? (y.add 1) = some (.int .i64 index2) ∧ w.cell? (x.add 1) = some (.int .i64 index) ∧ (c24 index index2 w fun (r2 : Int) (w : World) =>
 Nw (.cells #[.int .i64 r, .int .i64 r2] 3) w fun (b : Addr) (w : World) =>
 c23 ⟨some b, 2, 2⟩ w fun (r3 : Int) (w : World) =>
 R r3 w)
theorem c22_of {x_system x_index x_c_Op x_c_E_Index x_c_E_Gen x_c_Kind x_c_Values x_c_Parts y_system y_index y_c_Op y_c_E_Index y_c_E_Gen y_c_Kind y_c_Values y_c_Parts w R} (h : f22 x_system x_index x_c_Op x_c_E_Index x_c_E_Gen x_c_Kind x_c_Values x_c_Parts y_system y_index y_c_Op y_c_E_Index y_c_E_Gen y_c_Kind y_c_Values y_c_Parts w R) : c22 x_system x_index x_c_Op x_c_E_Index x_c_E_Gen x_c_Kind x_c_Values x_c_Parts y_system y_index y_c_Op y_c_E_Index y_c_E_Gen y_c_Kind y_c_Values y_c_Parts w R :=
  callK_of (H := ⟨[], []⟩) okP Try.func22 (cast (by kernel_rfl) h)
def f23 (vals : Sl) (w : World) (R : Int → World → Prop) : Prop :=
 ∃ Inv_ : Int → Nat → World → Prop, (∃ n : Nat, Inv_ 0 n w) ∧ ∀ t8 : Int, ∀ m : Nat, ∀ w : World, Inv_ t8 m w → (if (decide (t8 < (vals.len : Int))) = true then (Ix vals.a vals.len t8 1 fun (a : Addr) =>
 Ld (.i .i64) w a fun (val : Int) =>
 if (val != 0) = true then (R val w) else (∃ m2 : Nat, m2 < m ∧ Inv_ (IntKind.i64.wrap (t8 + 1)) m2 w)) else (R 0 w))
theorem c23_of {vals w R} (h : f23 vals w R) : c23 vals w R :=
  callK_of (H := ⟨[(3, ⟨[(8, .i .i64)], [3, 6, 7]⟩)], []⟩) okP Try.func23 (cast (by kernel_rfl) h)
def f24 (x y : Int) (w : World) (R : Int → World → Prop) : Prop :=
 c45 x w fun (xNaN : Bool) (w : World) =>
 c45 y w fun (yNaN : Bool) (w : World) =>
 if xNaN = true then (if yNaN = true then (R 0 w) else (R (-1) w)) else (if yNaN = true then (R 1 w) else (if (decide (x < y)) = true then (R (-1) w) else (if (decide (x > y)) = true then (R 1 w) else (R 0 w))))
theorem c24_of {x y w R} (h : f24 x y w R) : c24 x y w R :=
  callK_of (H := ⟨[], []⟩) okP Try.func24 (cast (by kernel_rfl) h)
def f25 (l : Sl) (of : Value) (w : World) (R : Sl → World → Prop) : Prop :=
 ∃ Inv_ : Sl → Int → Nat → World → Prop, (∃ n : Nat, Inv_ ⟨none, 0, 0⟩ 0 n w) ∧ ∀ out : Sl, ∀ t10 : Int, ∀ m : Nat, ∀ w : World, Inv_ out t10 m w → (if (decide (t10 < (l.len : Int))) = true then (Ix l.a l.len t10 8 fun (a : Addr) =>
 Ld (.i .i64) w a fun (x_system : Int) => Ld (.i .i64) w (a.add 1) fun (x_index : Int) => Ld (.i .i64) w (a.add 2) fun (x_c_Op : Int) => Ld (.i .i64) w (a.add 3) fun (x_c_E_Index : Int) => Ld (.i .i64) w (a.add 4) fun (x_c_E_Gen : Int) => Ld (.i .i64) w (a.add 5) fun (x_c_Kind : Int) => Ld .sl w (a.add 6) fun (x_c_Values : Sl) => Ld .sl w (a.add 7) fun (x_c_Parts : Sl) =>
 Nw (.cells #[.int .i64 0, .int .i64 0, .int .i64 0, .int .i64 0, .int .i64 0, .int .i64 0, .slice none 0 0, .slice none 0 0] 69) w fun (x : Addr) (w : World) =>
 St x (.int .i64 x_system) w fun (w : World) =>
 St (x.add 1) (.int .i64 x_index) w fun (w : World) =>
 St (x.add 2) (.int .i64 x_c_Op) w fun (w : World) =>
 St (x.add 3) (.int .i64 x_c_E_Index) w fun (w : World) =>
 St (x.add 4) (.int .i64 x_c_E_Gen) w fun (w : World) =>
 St (x.add 5) (.int .i64 x_c_Kind) w fun (w : World) =>
 St (x.add 6) (.slice x_c_Values.a x_c_Values.len x_c_Values.cap) w fun (w : World) =>
 St (x.add 7) (.slice x_c_Parts.a x_c_Parts.len x_c_Parts.cap) w fun (w : World) =>
 Ld (.i .i64) w x fun (x_system2 : Int) => Ld (.i .i64) w (x.add 1) fun (x_index2 : Int) => Ld (.i .i64) w (x.add 2) fun (x_c_Op2 : Int) => Ld (.i .i64) w (x.add 3) fun (x_c_E_Index2 : Int) => Ld (.i .i64) w (x.add 4) fun (x_c_E_Gen2 : Int) => Ld (.i .i64) w (x.add 5) fun (x_c_Kind2 : Int) => Ld .sl w (x.add 6) fun (x_c_Values2 : Sl) => Ld .sl w (x.add 7) fun (x_c_Parts2 : Sl) =>
 CallV Try.prog (of) [.agg #[.int .i64 x_system2, .int .i64 x_index2, .int .i64 x_c_Op2, .int .i64 x_c_E_Index2, .int .i64 x_c_E_Gen2, .int .i64 x_c_Kind2, .slice x_c_Values2.a x_c_Values2.len x_c_Values2.cap, .slice x_c_Parts2.a x_c_Parts2.len x_c_Parts2.cap]] [.agg [.i .i64, .i .i64, .i .i64, .i .i64, .sl, .sl]] w fun (r_Op r_E_Index : Int) (r_E_Gen r_Kind : Int) (r_Values r_Parts : Sl) (w : World) =>
 Nw (.cells #[.int .i64 r_Op, .int .i64 r_E_Index, .int .i64 r_E_Gen, .int .i64 r_Kind, .slice r_Values.a r_Values.len r_Values.cap, .slice r_Parts.a r_Parts.len r_Parts.cap] 37) w fun (b : Addr) (w : World) =>
 Run .sl Try.prog (Builtin.append_ #[38, 38] 38 #[.slice out.a out.len out.cap, .slice (some b) 1 1]) w fun (out2 : Sl) (w : World) =>
 ∃ m2 : Nat, m2 < m ∧ Inv_ out2 (IntKind.i64.wrap (t10 + 1)) m2 w) else (R out w))
theorem c25_of {l of w R} (h : f25 l of w R) : c25 l of w R :=
  callK_of (H := ⟨[(3, ⟨[(5, .sl), (10, .i .i64)], [1, 8, 9]⟩)], []⟩) okP Try.func25 (cast (by kernel_rfl) h)
def f26 (x_system x_index : Int) (x_c_Op x_c_E_Index : Int) (x_c_E_Gen x_c_Kind : Int) (x_c_Values x_c_Parts : Sl) (w : World) (R : Int → Int → Int → Int → Sl → Sl → World → Prop) : Prop :=
 Nw (.cells #[.int .i64 x_system, .int .i64 x_index, .int .i64 x_c_Op, .int .i64 x_c_E_Index, .int .i64 x_c_E_Gen, .int .i64 x_c_Kind, .slice x_c_Values.a x_c_Values.len x_c_Values.cap, .slice x_c_Parts.a x_c_Parts.len x_c_Parts.cap] 69) w fun (x : Addr) (w : World) =>
 Nw (.cells #[.int .i64 0, .int .i64 0, .int .i64 0, .int .i64 0, .slice none 0 0, .slice none 0 0] 37) w fun (a : Addr) (w : World) =>
 Ld (.i .i64) w (x.add 2) fun (c_Op : Int) => Ld (.i .i64) w ((x.add 2).add 1) fun (c_E_Index : Int) => Ld (.i .i64) w ((x.add 2).add 2) fun (c_E_Gen : Int) => Ld (.i .i64) w ((x.add 2).add 3) fun (c_Kind : Int) => Ld .sl w ((x.add 2).add 4) fun (c_Values : Sl) => Ld .sl w ((x.add 2).add 5) fun (c_Parts : Sl) =>
 c19 c_Op c_E_Index c_E_Gen c_Kind c_Values c_Parts w fun (r_Op r_E_Index : Int) (r_E_Gen r_Kind : Int) (r_Values r_Parts : Sl) (w : World) =>
 St a (.int .i64 r_Op) w fun (w : World) =>
 St (a.add 1) (.int .i64 r_E_Index) w fun (w : World) =>
 St (a.add 2) (.int .i64 r_E_Gen) w fun (w : World) =>
 St (a.add 3) (.int .i64 r_Kind) w fun (w : World) =>
 St (a.add 4) (.slice r_Values.a r_Values.len r_Values.cap) w fun (w : World) =>
 St (a.add 5) (.slice r_Parts.a r_Parts.len r_Parts.cap) w fun (w : World) =>
 Ld (.i .i64) w a fun (r_Op2 : Int) => Ld (.i .i64) w (a.add 1) fun (r_E_Index2 : Int) => Ld (.i .i64) w (a.add 2) fun (r_E_Gen2 : Int) => Ld (.i .i64) w (a.add 3) fun (r_Kind2 : Int) => Ld .sl w (a.add 4) fun (r_Values2 : Sl) => Ld .sl w (a.add 5) fun (r_Parts2 : Sl) =>
 R r_Op2 r_E_Index2 r_E_Gen2 r_Kind2 r_Values2 r_Parts2 w
theorem c26_of {x_system x_index x_c_Op x_c_E_Index x_c_E_Gen x_c_Kind x_c_Values x_c_Parts w R} (h : f26 x_system x_index x_c_Op x_c_E_Index x_c_E_Gen x_c_Kind x_c_Values x_c_Parts w R) : c26 x_system x_index x_c_Op x_c_E_Index x_c_E_Gen x_c_Kind x_c_Values x_c_Parts w R :=
  callK_of (H := ⟨[], []⟩) okP Try.func26 (cast (by kernel_rfl) h)
def f27 (kinds : Sl) (w : World) (R : Bool → World → Prop) : Prop :=
 ∃ Inv_ : Sl → Int → Nat → World → Prop, (∃ n : Nat, Inv_ ⟨none, 0, 0⟩ 0 n w) ∧ ∀ names : Sl, ∀ t8 : Int, ∀ m : Nat, ∀ w : World, Inv_ names t8 m w → (if (decide (t8 < (kinds.len : Int))) = true then (Ix kinds.a kinds.len t8 2 fun (a : Addr) =>
 Ld .s w a fun (k_Name : ByteArray) => Ld .sl w (a.add 1) fun (k_Fields : Sl) =>
 Nw (.cells #[.string (⟨#[]⟩ : ByteArray), .slice none 0 0] 87) w fun (k : Addr) (w : World) =>
 St k (.string k_Name) w fun (w : World) =>
 St (k.add 1) (.slice k_Fields.a k_Fields.len k_Fields.cap) w fun (w : World) =>
 ∃ J_ : World → Prop, (Ld .sl w (k.add 1) fun (Fields : Sl) =>
 if (decide ((Fields.len : Int) > 4)) = true then (R false w) else (Ld .sl w (k.add 1) fun (Fields2 : Sl) =>
 c46 Fields2 w fun (r : Bool) (w : World) =>
 if (!r) = true then (R false w) else (J_  w))) ∧ ∀ w : World, J_  w → (Ld .s w k fun (Name : ByteArray) =>
 Nw (.cells #[.string Name] 9) w fun (b : Addr) (w : World) =>
 Run .sl Try.prog (Builtin.append_ #[85, 85] 85 #[.slice names.a names.len names.cap, .slice (some b) 1 1]) w fun (names2 : Sl) (w : World) =>
 ∃ m2 : Nat, m2 < m ∧ Inv_ names2 (IntKind.i64.wrap (t8 + 1)) m2 w)) else (if (decide ((kinds.len : Int) ≥ 1)) = true then (if (decide ((kinds.len : Int) ≤ 12)) = true then (c46 names w fun (r2 : Bool) (w : World) =>
 R r2 w) else (R false w)) else (R false w)))
theorem c27_of {kinds w R} (h : f27 kinds w R) : c27 kinds w R :=
  callK_of (H := ⟨[(3, ⟨[(3, .sl), (8, .i .i64)], [0, 6, 7]⟩)], [(7, ⟨[], [0, 3, 5, 6, 7, 8]⟩)]⟩) okP Try.func27 (cast (by kernel_rfl) h)
def f28 (most : Int) (w : World) (R : Option Addr → Int → World → Prop) : Prop :=
 if (cond (decide (most < 1)) true (decide (most > 200))) = true then (R none 1 w) else (Nw (.cells #[.int .i64 most, .slice none 0 0, .slice none 0 0, .slice none 0 0] 112) w fun (a : Addr) (w : World) =>
 R (some a) 0 w)
theorem c28_of {most w R} (h : f28 most w R) : c28 most w R :=
  callK_of (H := ⟨[], []⟩) okP Try.func28 (cast (by kernel_rfl) h)
def f29 (kinds : Sl) (w : World) (R : Sl → World → Prop) : Prop :=
 c47 kinds w fun (out : Sl) (w : World) =>
 ∃ Inv_ : Int → Nat → World → Prop, (∃ n : Nat, Inv_ 0 n w) ∧ ∀ t9 : Int, ∀ m : Nat, ∀ w : World, Inv_ t9 m w → (if (decide (t9 < (out.len : Int))) = true then (Ix out.a out.len t9 2 fun (a : Addr) =>
 Ld .sl w (a.add 1) fun (Fields : Sl) =>
 c48 Fields w fun (r : Sl) (w : World) =>
 Ix out.a out.len t9 2 fun (a2 : Addr) =>
 St (a2.add 1) (.slice r.a r.len r.cap) w fun (w : World) =>
 ∃ m2 : Nat, m2 < m ∧ Inv_ (IntKind.i64.wrap (t9 + 1)) m2 w) else (R out w))
theorem c29_of {kinds w R} (h : f29 kinds w R) : c29 kinds w R :=
  callK_of (H := ⟨[(3, ⟨[(9, .i .i64)], [3, 8]⟩)], []⟩) okP Try.func29 (cast (by kernel_rfl) h)
def f30 (w_ : Option Addr) (c_Op c_E_Index : Int) (c_E_Gen c_Kind : Int) (c_Values c_Parts : Sl) (w : World) (R : Sl → Int → World → Prop) : Prop :=
 Nw (.cells #[.int .i64 c_Op, .int .i64 c_E_Index, .int .i64 c_E_Gen, .int .i64 c_Kind, .slice c_Values.a c_Values.len c_Values.cap, .slice c_Parts.a c_Parts.len c_Parts.cap] 37) w fun (c : Addr) (w : World) =>
 Ld (.i .i64) w c fun (Op : Int) =>
 if (Op == 1) = true then (Ld .sl w (c.add 5) fun (Parts : Sl) =>
 c49 w_ Parts w fun (x_Index x_Gen e : Int) (w : World) =>
 Nw (.cells #[.int .i64 0, .int .i64 0] 33) w fun (x : Addr) (w : World) =>
 St x (.int .i64 x_Index) w fun (w : World) =>
 St (x.add 1) (.int .i64 x_Gen) w fun (w : World) =>
 Ld (.i .i64) w x fun (x_Index2 : Int) => Ld (.i .i64) w (x.add 1) fun (x_Gen2 : Int) =>
 Nw (.cells #[.int .i64 x_Index2, .int .i64 x_Gen2] 33) w fun (b : Addr) (w : World) =>
 R ⟨some b, 1, 1⟩ e w) else (if (Op == 2) = true then (Ld (.i .i64) w (c.add 1) fun (E_Index : Int) => Ld (.i .i64) w ((c.add 1).add 1) fun (E_Gen : Int) =>
 c50 w_ E_Index E_Gen w fun (e2 : Int) (w : World) =>
 R ⟨none, 0, 0⟩ e2 w) else (if (Op == 3) = true then (Ld (.i .i64) w (c.add 1) fun (E_Index2 : Int) => Ld (.i .i64) w ((c.add 1).add 1) fun (E_Gen2 : Int) =>
 Ld (.i .i64) w (c.add 3) fun (Kind : Int) =>
 Ld .sl w (c.add 4) fun (Values : Sl) =>
 c51 w_ E_Index2 E_Gen2 Kind Values w fun (e3 : Int) (w : World) =>
 R ⟨none, 0, 0⟩ e3 w) else (if (Op == 4) = true then (Ld (.i .i64) w (c.add 1) fun (E_Index3 : Int) => Ld (.i .i64) w ((c.add 1).add 1) fun (E_Gen3 : Int) =>
 Ld (.i .i64) w (c.add 3) fun (Kind2 : Int) =>
 c52 w_ E_Index3 E_Gen3 Kind2 w fun (e4 : Int) (w : World) =>
 R ⟨none, 0, 0⟩ e4 w) else (R ⟨none, 0, 0⟩ 1 w))))
theorem c30_of {w_ c_Op c_E_Index c_E_Gen c_Kind c_Values c_Parts w R} (h : f30 w_ c_Op c_E_Index c_E_Gen c_Kind c_Values c_Parts w R) : c30 w_ c_Op c_E_Index c_E_Gen c_Kind c_Values c_Parts w R :=
  callK_of (H := ⟨[], []⟩) okP Try.func30 (cast (by kernel_rfl) h)
def f31 (p : Option Addr) (w : World) (R : Sl → World → Prop) : Prop :=
 NN p fun (p_ : Addr) =>
 Ld .sl w (p_.add 1) fun (gens : Sl) =>
 ∃ Inv_ : Sl → Int → Nat → World → Prop, (∃ n : Nat, Inv_ ⟨none, 0, 0⟩ 0 n w) ∧ ∀ out : Sl, ∀ t12 : Int, ∀ m : Nat, ∀ w : World, Inv_ out t12 m w → (if (decide (t12 < (gens.len : Int))) = true then (c53 p t12 w fun (e_Index e_Gen err : Int) (w : World) =>
 Nw (.cells #[.int .i64 0, .int .i64 0] 33) w fun (e : Addr) (w : World) =>
 St e (.int .i64 e_Index) w fun (w : World) =>
 St (e.add 1) (.int .i64 e_Gen) w fun (w : World) =>
 if (err == 0) = true then (Ld (.i .i64) w e fun (e_Index2 : Int) => Ld (.i .i64) w (e.add 1) fun (e_Gen2 : Int) =>
 Nw (.cells #[.int .i64 e_Index2, .int .i64 e_Gen2] 33) w fun (b : Addr) (w : World) =>
 Run .sl Try.prog (Builtin.append_ #[48, 48] 48 #[.slice out.a out.len out.cap, .slice (some b) 1 1]) w fun (out2 : Sl) (w : World) =>
 ∃ m2 : Nat, m2 < m ∧ Inv_ out2 (IntKind.i64.wrap (t12 + 1)) m2 w) else (∃ m2 : Nat, m2 < m ∧ Inv_ out (IntKind.i64.wrap (t12 + 1)) m2 w)) else (R out w))
theorem c31_of {p w R} (h : f31 p w R) : c31 p w R :=
  callK_of (H := ⟨[(3, ⟨[(3, .sl), (12, .i .i64)], [0, 11]⟩)], []⟩) okP Try.func31 (cast (by kernel_rfl) h)
def f32 (w_ : Option Addr) (e_Index e_Gen : Int) (w : World) (R : Int → Int → Sl → World → Prop) : Prop :=
 Nw (.cells #[.int .i64 e_Index, .int .i64 e_Gen] 33) w fun (e : Addr) (w : World) =>
 Nw (.cells #[.int .i64 0, .int .i64 0, .slice none 0 0] 92) w fun (a : Addr) (w : World) =>
 Ld (.i .i64) w e fun (e_Index2 : Int) => Ld (.i .i64) w (e.add 1) fun (e_Gen2 : Int) =>
 Nw (.cells #[.int .i64 0, .int .i64 0, .slice none 0 0] 92) w fun (r : Addr) (w : World) =>
 St r (.int .i64 e_Index2) w fun (w : World) =>
 St (r.add 1) (.int .i64 e_Gen2) w fun (w : World) =>
 St (r.add 2) (.slice none 0 0) w fun (w : World) =>
 Dr w fun (w : World) =>
 NN w_ fun (w_2 : Addr) =>
 Ld .m w (w_2.add 2) fun (sets : Option Nat) =>
 Ld (.i .i64) w e fun (e_Index3 : Int) => Ld (.i .i64) w (e.add 1) fun (e_Gen3 : Int) =>
 RunRoL [.one (.i .i64)] Try.prog (Instr.lookup 81 (.map sets) (.agg #[.int .i64 e_Index3, .int .i64 e_Gen3]) false) w fun (set : Int) (_ : World) =>
 NN w_ fun (w_3 : Addr) =>
 Ld .sl w w_3 fun (kinds : Sl) =>
 ∃ Inv_ : Int → Nat → World → Prop, (∃ n : Nat, Inv_ 0 n w) ∧ ∀ t21 : Int, ∀ m : Nat, ∀ w : World, Inv_ t21 m w → (if (decide (t21 < (kinds.len : Int))) = true then ((0 : Int) ≤ (IntKind.i64.wrap (t21 + 1)) ∧ (if ((IntKind.i64.wrap ((BitVec.ofInt 64 (Int.fdiv set (2 ^ (min (Int.toNat (IntKind.i64.wrap (t21 + 1))) 64))) &&& BitVec.ofInt 64 1).toNat : Nat)) == 1) = true then (Dr w fun (w : World) =>
 Ld .sl w (r.add 2) fun (Parts : Sl) =>
 Ld (.i .i64) w e fun (e_Index4 : Int) => Ld (.i .i64) w (e.add 1) fun (e_Gen4 : Int) =>
 c54 w_ e_Index4 e_Gen4 set (IntKind.i64.wrap (t21 + 1)) w fun (r_Kind : Int) (r_Values : Sl) (w : World) =>
 w.cell? (r.add 2) = some (.slice Parts.a Parts.len Parts.cap) ∧ (Nw (.cells #[.int .i64 r_Kind, .slice r_Values.a r_Values.len r_Values.cap] 62) w fun (b : Addr) (w : World) =>
 Run .sl Try.prog (Builtin.append_ #[35, 35] 35 #[.slice Parts.a Parts.len Parts.cap, .slice (some b) 1 1]) w fun (s : Sl) (w : World) =>
 St (r.add 2) (.slice s.a s.len s.cap) w fun (w : World) =>
 ∃ m2 : Nat, m2 < m ∧ Inv_ (IntKind.i64.wrap (t21 + 1)) m2 w)) else (∃ m2 : Nat, m2 < m ∧ Inv_ (IntKind.i64.wrap (t21 + 1)) m2 w))) else (Ld (.i .i64) w r fun (r_E_Index : Int) => Ld (.i .i64) w (r.add 1) fun (r_E_Gen : Int) => Ld .sl w (r.add 2) fun (r_Parts : Sl) =>
 St a (.int .i64 r_E_Index) w fun (w : World) =>
 St (a.add 1) (.int .i64 r_E_Gen) w fun (w : World) =>
 St (a.add 2) (.slice r_Parts.a r_Parts.len r_Parts.cap) w fun (w : World) =>
 Ld (.i .i64) w a fun (r_E_Index2 : Int) => Ld (.i .i64) w (a.add 1) fun (r_E_Gen2 : Int) => Ld .sl w (a.add 2) fun (r_Parts2 : Sl) =>
 R r_E_Index2 r_E_Gen2 r_Parts2 w))
theorem c32_of {w_ e_Index e_Gen w R} (h : f32 w_ e_Index e_Gen w R) : c32 w_ e_Index e_Gen w R :=
  callK_of (H := ⟨[(4, ⟨[(21, .i .i64)], [0, 3, 4, 5, 6, 20]⟩)], []⟩) okP Try.func32 (cast (by kernel_rfl) h)
def f33 (p : Option Addr) (w : World) (R : Option Addr → World → Prop) : Prop :=
 Dr w fun (w : World) =>
 NN p fun (p_ : Addr) =>
 Ld (.i .i64) w p_ fun (most : Int) =>
 NN p fun (p_2 : Addr) =>
 Ld .sl w (p_2.add 1) fun (gens : Sl) =>
 NN p fun (p_3 : Addr) =>
 Ld .sl w (p_3.add 2) fun (alive : Sl) =>
 NN p fun (p_4 : Addr) =>
 Ld .sl w (p_4.add 3) fun (free : Sl) =>
 c55 gens w fun (r : Sl) (w : World) =>
 w.cell? (p_4.add 3) = some (.slice free.a free.len free.cap) ∧ w.cell? (p_3.add 2) = some (.slice alive.a alive.len alive.cap) ∧ w.cell? p_ = some (.int .i64 most) ∧ (c56 alive w fun (r2 : Sl) (w : World) =>
 w.cell? (p_4.add 3) = some (.slice free.a free.len free.cap) ∧ w.cell? p_ = some (.int .i64 most) ∧ (c55 free w fun (r3 : Sl) (w : World) =>
 w.cell? p_ = some (.int .i64 most) ∧ (Nw (.cells #[.int .i64 most, .slice r.a r.len r.cap, .slice r2.a r2.len r2.cap, .slice r3.a r3.len r3.cap] 112) w fun (a : Addr) (w : World) =>
 R (some a) w)))
theorem c33_of {p w R} (h : f33 p w R) : c33 p w R :=
  callK_of (H := ⟨[], []⟩) okP Try.func33 (cast (by kernel_rfl) h)
def f34 (t : Option Addr) (w : World) (R : Option Addr → World → Prop) : Prop :=
 Dr w fun (w : World) =>
 NN t fun (t_ : Addr) =>
 Ld .sl w t_ fun (owners : Sl) =>
 NN t fun (t_2 : Addr) =>
 Ld .m w (t_2.add 2) fun (rows : Option Nat) =>
 c57 owners w fun (r : Sl) (w : World) =>
 w.cell? (t_2.add 2) = some (.map rows) ∧ (c58 rows w fun (r2 : Option Nat) (w : World) =>
 Nw (.cells #[.slice r.a r.len r.cap, .slice none 0 0, .map r2] 126) w fun (c : Addr) (w : World) =>
 NN t fun (t_3 : Addr) =>
 Ld .sl w (t_3.add 1) fun (columns : Sl) =>
 ∃ Inv_ : Int → Nat → World → Prop, (∃ n : Nat, Inv_ 0 n w) ∧ ∀ t23 : Int, ∀ m : Nat, ∀ w : World, Inv_ t23 m w → (if (decide (t23 < (columns.len : Int))) = true then (Ix columns.a columns.len t23 1 fun (a : Addr) =>
 Ld .sl w a fun (l : Sl) =>
 Dr w fun (w : World) =>
 Ld .sl w (c.add 1) fun (columns2 : Sl) =>
 c41 l w fun (r3 : Sl) (w : World) =>
 w.cell? (c.add 1) = some (.slice columns2.a columns2.len columns2.cap) ∧ (Nw (.cells #[.slice r3.a r3.len r3.cap] 34) w fun (b : Addr) (w : World) =>
 Run .sl Try.prog (Builtin.append_ #[124, 124] 124 #[.slice columns2.a columns2.len columns2.cap, .slice (some b) 1 1]) w fun (s : Sl) (w : World) =>
 St (c.add 1) (.slice s.a s.len s.cap) w fun (w : World) =>
 ∃ m2 : Nat, m2 < m ∧ Inv_ (IntKind.i64.wrap (t23 + 1)) m2 w)) else (R (some c) w)))
theorem c34_of {t w R} (h : f34 t w R) : c34 t w R :=
  callK_of (H := ⟨[(3, ⟨[(23, .i .i64)], [3, 21, 22]⟩)], []⟩) okP Try.func34 (cast (by kernel_rfl) h)
def f35 (p : Option Addr) (w : World) (R : Sl → Sl → World → Prop) : Prop :=
 NN p fun (p_ : Addr) =>
 Ld .sl w (p_.add 1) fun (gens : Sl) =>
 c55 gens w fun (gens2 : Sl) (w : World) =>
 ∃ Inv_ : Int → Nat → World → Prop, (∃ n : Nat, Inv_ 0 n w) ∧ ∀ t13 : Int, ∀ m : Nat, ∀ w : World, Inv_ t13 m w → (if (decide (t13 < (gens2.len : Int))) = true then (Ix gens2.a gens2.len t13 1 fun (a : Addr) =>
 Ld (.i .i64) w a fun (g : Int) =>
 ∃ J_ : Bool → World → Prop, (if (g == 1000000) = true then (NN p fun (p_2 : Addr) =>
 Ld .sl w (p_2.add 2) fun (alive : Sl) =>
 Ix alive.a alive.len t13 1 fun (a2 : Addr) =>
 Ld .b w a2 fun (x : Bool) =>
 J_ (!x) w) else (J_ false w)) ∧ ∀ t29 : Bool, ∀ w : World, J_ t29 w → (if t29 = true then (Ix gens2.a gens2.len t13 1 fun (a3 : Addr) =>
 Ld (.i .i64) w a3 fun (x2 : Int) =>
 Ix gens2.a gens2.len t13 1 fun (a4 : Addr) =>
 St a4 (.int .i64 (IntKind.i64.wrap (x2 + 1))) w fun (w : World) =>
 ∃ m2 : Nat, m2 < m ∧ Inv_ (IntKind.i64.wrap (t13 + 1)) m2 w) else (∃ m2 : Nat, m2 < m ∧ Inv_ (IntKind.i64.wrap (t13 + 1)) m2 w))) else (NN p fun (p_3 : Addr) =>
 Ld .sl w (p_3.add 3) fun (free : Sl) =>
 c55 free w fun (free2 : Sl) (w : World) =>
 R gens2 free2 w))
theorem c35_of {p w R} (h : f35 p w R) : c35 p w R :=
  callK_of (H := ⟨[(3, ⟨[(13, .i .i64)], [0, 2, 11, 12]⟩)], [(6, ⟨[(29, .b)], [0, 2, 4, 11, 12, 13]⟩)]⟩) okP Try.func35 (cast (by kernel_rfl) h)
def f36 (b l : Sl) (w : World) (R : Sl → World → Prop) : Prop :=
 c59 b w fun (r : Sl) (w : World) =>
 c60 l w fun (r2 : Sl) (w : World) =>
 Run .sl Try.prog (Builtin.append_ #[58, 58] 58 #[.slice r.a r.len r.cap, .slice r2.a r2.len r2.cap]) w fun (s : Sl) (w : World) =>
 R s w
theorem c36_of {b l w R} (h : f36 b l w R) : c36 b l w R :=
  callK_of (H := ⟨[], []⟩) okP Try.func36 (cast (by kernel_rfl) h)
def f37 (l : Sl) (w : World) (R : Sl → World → Prop) : Prop :=
 ∃ Inv_ : Sl → Int → Nat → World → Prop, (∃ n : Nat, Inv_ ⟨none, 0, 0⟩ 0 n w) ∧ ∀ out : Sl, ∀ t8 : Int, ∀ m : Nat, ∀ w : World, Inv_ out t8 m w → (if (decide (t8 < (l.len : Int))) = true then (Ix l.a l.len t8 1 fun (a : Addr) =>
 Ld (.i .i64) w a fun (n_ : Int) =>
 Nw (.cells #[.int .i64 n_] 2) w fun (b : Addr) (w : World) =>
 Run .sl Try.prog (Builtin.append_ #[34, 34] 34 #[.slice out.a out.len out.cap, .slice (some b) 1 1]) w fun (out2 : Sl) (w : World) =>
 ∃ m2 : Nat, m2 < m ∧ Inv_ out2 (IntKind.i64.wrap (t8 + 1)) m2 w) else (R out w))
theorem c37_of {l w R} (h : f37 l w R) : c37 l w R :=
  callK_of (H := ⟨[(3, ⟨[(3, .sl), (8, .i .i64)], [6, 7]⟩)], []⟩) okP Try.func37 (cast (by kernel_rfl) h)
def f38 (b : Sl) (n_ : Int) (w : World) (R : Sl → World → Prop) : Prop :=
 c59 b w fun (r : Sl) (w : World) =>
 c61 r n_ w fun (r2 : Sl) (w : World) =>
 R r2 w
theorem c38_of {b n_ w R} (h : f38 b n_ w R) : c38 b n_ w R :=
  callK_of (H := ⟨[], []⟩) okP Try.func38 (cast (by kernel_rfl) h)
def f39 (b : Sl) (n_ : Int) (w : World) (R : Sl → World → Prop) : Prop :=
 c62 n_ w fun (r : Int) (w : World) =>
 c38 b r w fun (r2 : Sl) (w : World) =>
 R r2 w
theorem c39_of {b n_ w R} (h : f39 b n_ w R) : c39 b n_ w R :=
  callK_of (H := ⟨[], []⟩) okP Try.func39 (cast (by kernel_rfl) h)
def f40 (p : Option Addr) (e_Index e_Gen : Int) (w : World) (R : Bool → World → Prop) : Prop :=
 Nw (.cells #[.int .i64 e_Index, .int .i64 e_Gen] 33) w fun (e : Addr) (w : World) =>
 Ld (.i .i64) w e fun (Index : Int) =>
 c53 p Index w fun (x_Index x_Gen err : Int) (w : World) =>
 Nw (.cells #[.int .i64 0, .int .i64 0] 33) w fun (x : Addr) (w : World) =>
 St x (.int .i64 x_Index) w fun (w : World) =>
 St (x.add 1) (.int .i64 x_Gen) w fun (w : World) =>
 if (err == 0) = true then (Ld (.i .i64) w x fun (x_Index2 : Int) => Ld (.i .i64) w (x.add 1) fun (x_Gen2 : Int) =>
 Ld (.i .i64) w e fun (e_Index2 : Int) => Ld (.i .i64) w (e.add 1) fun (e_Gen2 : Int) =>
 RunRo .b Try.prog (binSem .eql 33 (.tmp 17) (.tmp 18) (.agg #[.int .i64 x_Index2, .int .i64 x_Gen2]) (.agg #[.int .i64 e_Index2, .int .i64 e_Gen2])) w fun (eq : Bool) =>
 R eq w) else (R false w)
theorem c40_of {p e_Index e_Gen w R} (h : f40 p e_Index e_Gen w R) : c40 p e_Index e_Gen w R :=
  callK_of (H := ⟨[], []⟩) okP Try.func40 (cast (by kernel_rfl) h)
def f41 (s : Sl) (w : World) (R : Sl → World → Prop) : Prop :=
 if s.a.isNone = true then (R ⟨none, 0, 0⟩ w) else (Nw (.cells #[] 2) w fun (b : Addr) (w : World) =>
 Run .sl Try.prog (Builtin.append_ #[34, 34] 34 #[.slice (some b) 0 0, .slice s.a s.len s.cap]) w fun (s2 : Sl) (w : World) =>
 R s2 w)
theorem c41_of {s w R} (h : f41 s w R) : c41 s w R :=
  callK_of (H := ⟨[], []⟩) okP Try.func41 (cast (by kernel_rfl) h)
def f42 (l : Sl) (of : Value) (w : World) (R : Sl → World → Prop) : Prop :=
 ∃ Inv_ : Sl → Int → Nat → World → Prop, (∃ n : Nat, Inv_ ⟨none, 0, 0⟩ 0 n w) ∧ ∀ out : Sl, ∀ t10 : Int, ∀ m : Nat, ∀ w : World, Inv_ out t10 m w → (if (decide (t10 < (l.len : Int))) = true then (Ix l.a l.len t10 2 fun (a : Addr) =>
 Ld (.i .i64) w a fun (x_Kind : Int) => Ld .sl w (a.add 1) fun (x_Values : Sl) =>
 Nw (.cells #[.int .i64 0, .slice none 0 0] 62) w fun (x : Addr) (w : World) =>
 St x (.int .i64 x_Kind) w fun (w : World) =>
 St (x.add 1) (.slice x_Values.a x_Values.len x_Values.cap) w fun (w : World) =>
 Ld (.i .i64) w x fun (x_Kind2 : Int) => Ld .sl w (x.add 1) fun (x_Values2 : Sl) =>
 CallV Try.prog (of) [.agg #[.int .i64 x_Kind2, .slice x_Values2.a x_Values2.len x_Values2.cap]] [.agg [.i .i64, .sl]] w fun (r_Kind : Int) (r_Values : Sl) (w : World) =>
 Nw (.cells #[.int .i64 r_Kind, .slice r_Values.a r_Values.len r_Values.cap] 62) w fun (b : Addr) (w : World) =>
 Run .sl Try.prog (Builtin.append_ #[35, 35] 35 #[.slice out.a out.len out.cap, .slice (some b) 1 1]) w fun (out2 : Sl) (w : World) =>
 ∃ m2 : Nat, m2 < m ∧ Inv_ out2 (IntKind.i64.wrap (t10 + 1)) m2 w) else (R out w))
theorem c42_of {l of w R} (h : f42 l of w R) : c42 l of w R :=
  callK_of (H := ⟨[(3, ⟨[(5, .sl), (10, .i .i64)], [1, 8, 9]⟩)], []⟩) okP Try.func42 (cast (by kernel_rfl) h)
def f43 (p_Kind : Int) (p_Values : Sl) (w : World) (R : Int → Sl → World → Prop) : Prop :=
 Nw (.cells #[.int .i64 p_Kind, .slice p_Values.a p_Values.len p_Values.cap] 62) w fun (p : Addr) (w : World) =>
 Nw (.cells #[.int .i64 0, .slice none 0 0] 62) w fun (a : Addr) (w : World) =>
 Ld .sl w (p.add 1) fun (Values : Sl) =>
 c41 Values w fun (r : Sl) (w : World) =>
 St (p.add 1) (.slice r.a r.len r.cap) w fun (w : World) =>
 Ld (.i .i64) w p fun (p_Kind2 : Int) => Ld .sl w (p.add 1) fun (p_Values2 : Sl) =>
 St a (.int .i64 p_Kind2) w fun (w : World) =>
 St (a.add 1) (.slice p_Values2.a p_Values2.len p_Values2.cap) w fun (w : World) =>
 Ld (.i .i64) w a fun (r_Kind : Int) => Ld .sl w (a.add 1) fun (r_Values : Sl) =>
 R r_Kind r_Values w
theorem c43_of {p_Kind p_Values w R} (h : f43 p_Kind p_Values w R) : c43 p_Kind p_Values w R :=
  callK_of (H := ⟨[], []⟩) okP Try.func43 (cast (by kernel_rfl) h)
def f44 (data : Sl) (n_ : Int) (cmp : Value) (w : World) (R : World → Prop) : Prop :=
 ∃ Inv_ : Int → Int → Nat → World → Prop, (∃ n : Nat, Inv_ 0 20 n w) ∧ ∀ a : Int, ∀ b : Int, ∀ m : Nat, ∀ w : World, Inv_ a b m w → (if (decide (b ≤ n_)) = true then (c63 data a b cmp w fun  (w : World) =>
 ∃ m2 : Nat, m2 < m ∧ Inv_ b (IntKind.i64.wrap (b + 20)) m2 w) else (c63 data a n_ cmp w fun  (w : World) =>
 ∃ Inv_2 : Int → Nat → World → Prop, (∃ n : Nat, Inv_2 20 n w) ∧ ∀ blockSize : Int, ∀ m3 : Nat, ∀ w : World, Inv_2 blockSize m3 w → (if (decide (blockSize < n_)) = true then (∃ Inv_3 : Int → Int → Nat → World → Prop, (∃ n : Nat, Inv_3 0 (IntKind.i64.wrap (2 * blockSize)) n w) ∧ ∀ a2 : Int, ∀ b2 : Int, ∀ m5 : Nat, ∀ w : World, Inv_3 a2 b2 m5 w → (if (decide (b2 ≤ n_)) = true then (c64 data a2 (IntKind.i64.wrap (a2 + blockSize)) b2 cmp w fun  (w : World) =>
 ∃ m6 : Nat, m6 < m5 ∧ Inv_3 b2 (IntKind.i64.wrap (b2 + (IntKind.i64.wrap (2 * blockSize)))) m6 w) else (if (decide ((IntKind.i64.wrap (a2 + blockSize)) < n_)) = true then (c64 data a2 (IntKind.i64.wrap (a2 + blockSize)) n_ cmp w fun  (w : World) =>
 ∃ m4 : Nat, m4 < m3 ∧ Inv_2 (IntKind.i64.wrap (blockSize * 2)) m4 w) else (∃ m4 : Nat, m4 < m3 ∧ Inv_2 (IntKind.i64.wrap (blockSize * 2)) m4 w)))) else (R w))))
theorem c44_of {data n_ cmp w R} (h : f44 data n_ cmp w R) : c44 data n_ cmp w R :=
  callK_of (H := ⟨[(2, ⟨[(7, .i .i64), (8, .i .i64)], [0, 1, 2, 6]⟩), (7, ⟨[(6, .i .i64)], [0, 1, 2]⟩), (9, ⟨[(7, .i .i64), (8, .i .i64)], [0, 1, 2, 6]⟩)], []⟩) okP Try.func44 (cast (by kernel_rfl) h)
def f45 (x : Int) (w : World) (R : Bool → World → Prop) : Prop :=
 R (x != x) w
theorem c45_of {x w R} (h : f45 x w R) : c45 x w R :=
  callK_of (H := ⟨[], []⟩) okP Try.func45 (cast (by kernel_rfl) h)
def f46 (l : Sl) (w : World) (R : Bool → World → Prop) : Prop :=
 ∃ Inv_ : Int → Nat → World → Prop, (∃ n : Nat, Inv_ 0 n w) ∧ ∀ t7 : Int, ∀ m : Nat, ∀ w : World, Inv_ t7 m w → (if (decide (t7 < (l.len : Int))) = true then (Ix l.a l.len t7 1 fun (a : Addr) =>
 Ld .s w a fun (s : ByteArray) =>
 c65 s w fun (r : Bool) (w : World) =>
 if (!r) = true then (R false w) else (Cut ⟨l.a, l.len, l.cap⟩ 0 t7 (l.cap : Int) 1 fun (s2 : Sl) =>
 c66 s2 s w fun (r2 : Bool) (w : World) =>
 if r2 = true then (R false w) else (∃ m2 : Nat, m2 < m ∧ Inv_ (IntKind.i64.wrap (t7 + 1)) m2 w))) else (R true w))
theorem c46_of {l w R} (h : f46 l w R) : c46 l w R :=
  callK_of (H := ⟨[(2, ⟨[(7, .i .i64)], [0, 5, 6]⟩)], []⟩) okP Try.func46 (cast (by kernel_rfl) h)
def f47 (s : Sl) (w : World) (R : Sl → World → Prop) : Prop :=
 if s.a.isNone = true then (R ⟨none, 0, 0⟩ w) else (Nw (.cells #[] 87) w fun (b : Addr) (w : World) =>
 Run .sl Try.prog (Builtin.append_ #[44, 44] 44 #[.slice (some b) 0 0, .slice s.a s.len s.cap]) w fun (s2 : Sl) (w : World) =>
 R s2 w)
theorem c47_of {s w R} (h : f47 s w R) : c47 s w R :=
  callK_of (H := ⟨[], []⟩) okP Try.func47 (cast (by kernel_rfl) h)
def f48 (s : Sl) (w : World) (R : Sl → World → Prop) : Prop :=
 if s.a.isNone = true then (R ⟨none, 0, 0⟩ w) else (Nw (.cells #[] 9) w fun (b : Addr) (w : World) =>
 Run .sl Try.prog (Builtin.append_ #[85, 85] 85 #[.slice (some b) 0 0, .slice s.a s.len s.cap]) w fun (s2 : Sl) (w : World) =>
 R s2 w)
theorem c48_of {s w R} (h : f48 s w R) : c48 s w R :=
  callK_of (H := ⟨[], []⟩) okP Try.func48 (cast (by kernel_rfl) h)
def f49 (w_ : Option Addr) (parts : Sl) (w : World) (R : Int → Int → Int → World → Prop) : Prop :=
 Nw (.cells #[.int .i64 0, .int .i64 0] 33) w fun (a : Addr) (w : World) =>
 ∃ Inv_ : Int → Sl → Int → Nat → World → Prop, (∃ n : Nat, Inv_ 0 ⟨none, 0, 0⟩ 0 n w) ∧ ∀ set : Int, ∀ values : Sl, ∀ t16 : Int, ∀ m : Nat, ∀ w : World, Inv_ set values t16 m w → (if (decide (t16 < (parts.len : Int))) = true then (Ix parts.a parts.len t16 2 fun (a2 : Addr) =>
 Ld (.i .i64) w a2 fun (p_Kind : Int) => Ld .sl w (a2.add 1) fun (p_Values : Sl) =>
 Nw (.cells #[.int .i64 0, .slice none 0 0] 62) w fun (p : Addr) (w : World) =>
 St p (.int .i64 p_Kind) w fun (w : World) =>
 St (p.add 1) (.slice p_Values.a p_Values.len p_Values.cap) w fun (w : World) =>
 Ld (.i .i64) w p fun (Kind : Int) =>
 c67 w_ Kind w fun (n_ : Int) (ok : Bool) (w : World) =>
 if (!ok) = true then (St a (.int .i64 0) w fun (w : World) =>
 St (a.add 1) (.int .i64 0) w fun (w : World) =>
 Ld (.i .i64) w a fun (r_Index : Int) => Ld (.i .i64) w (a.add 1) fun (r_Gen : Int) =>
 R r_Index r_Gen 60 w) else (Ld (.i .i64) w p fun (Kind2 : Int) =>
 (0 : Int) ≤ Kind2 ∧ (if ((IntKind.i64.wrap ((BitVec.ofInt 64 (Int.fdiv set (2 ^ (min (Int.toNat Kind2) 64))) &&& BitVec.ofInt 64 1).toNat : Nat)) == 1) = true then (St a (.int .i64 0) w fun (w : World) =>
 St (a.add 1) (.int .i64 0) w fun (w : World) =>
 Ld (.i .i64) w a fun (r_Index2 : Int) => Ld (.i .i64) w (a.add 1) fun (r_Gen2 : Int) =>
 R r_Index2 r_Gen2 61 w) else (Ld .sl w (p.add 1) fun (Values : Sl) =>
 if ((Values.len : Int) != n_) = true then (St a (.int .i64 0) w fun (w : World) =>
 St (a.add 1) (.int .i64 0) w fun (w : World) =>
 Ld (.i .i64) w a fun (r_Index3 : Int) => Ld (.i .i64) w (a.add 1) fun (r_Gen3 : Int) =>
 R r_Index3 r_Gen3 63 w) else (Dr w fun (w : World) =>
 Ld (.i .i64) w p fun (Kind3 : Int) =>
 Ld .sl w (p.add 1) fun (Values2 : Sl) =>
 c69 w_ set Kind3 w fun (r : Int) (w : World) =>
 w.cell? (p.add 1) = some (.slice Values2.a Values2.len Values2.cap) ∧ (c68 values r Values2 w fun (values2 : Sl) (w : World) =>
 Ld (.i .i64) w p fun (Kind4 : Int) =>
 (0 : Int) ≤ Kind4 ∧ (∃ m2 : Nat, m2 < m ∧ Inv_ (IntKind.i64.wrap ((BitVec.ofInt 64 set ||| BitVec.ofInt 64 (IntKind.i64.wrap (1 * 2 ^ (min (Int.toNat Kind4) 64)))).toNat : Nat)) values2 (IntKind.i64.wrap (t16 + 1)) m2 w))))))) else (NN w_ fun (w_2 : Addr) =>
 Ld .p w (w_2.add 1) fun (pool : Option Addr) =>
 c70 pool w fun (e_Index e_Gen bad : Int) (w : World) =>
 Nw (.cells #[.int .i64 0, .int .i64 0] 33) w fun (e : Addr) (w : World) =>
 St e (.int .i64 e_Index) w fun (w : World) =>
 St (e.add 1) (.int .i64 e_Gen) w fun (w : World) =>
 if (bad != 0) = true then (St a (.int .i64 0) w fun (w : World) =>
 St (a.add 1) (.int .i64 0) w fun (w : World) =>
 Ld (.i .i64) w a fun (r_Index4 : Int) => Ld (.i .i64) w (a.add 1) fun (r_Gen4 : Int) =>
 R r_Index4 r_Gen4 bad w) else (Ld (.i .i64) w e fun (e_Index2 : Int) => Ld (.i .i64) w (e.add 1) fun (e_Gen2 : Int) =>
 c71 w_ e_Index2 e_Gen2 set values w fun  (w : World) =>
 Ld (.i .i64) w e fun (e_Index3 : Int) => Ld (.i .i64) w (e.add 1) fun (e_Gen3 : Int) =>
 St a (.int .i64 e_Index3) w fun (w : World) =>
 St (a.add 1) (.int .i64 e_Gen3) w fun (w : World) =>
 Ld (.i .i64) w a fun (r_Index5 : Int) => Ld (.i .i64) w (a.add 1) fun (r_Gen5 : Int) =>
 R r_Index5 r_Gen5 0 w)))
theorem c49_of {w_ parts w R} (h : f49 w_ parts w R) : c49 w_ parts w R :=
  callK_of (H := ⟨[(4, ⟨[(6, .i .i64), (7, .sl), (16, .i .i64)], [0, 4, 14, 15]⟩)], []⟩) okP Try.func49 (cast (by kernel_rfl) h)
def f50 (w_ : Option Addr) (e_Index e_Gen : Int) (w : World) (R : Int → World → Prop) : Prop :=
 Nw (.cells #[.int .i64 e_Index, .int .i64 e_Gen] 33) w fun (e : Addr) (w : World) =>
 Dr w fun (w : World) =>
 NN w_ fun (w_2 : Addr) =>
 Ld .p w (w_2.add 1) fun (pool : Option Addr) =>
 Ld (.i .i64) w e fun (e_Index2 : Int) => Ld (.i .i64) w (e.add 1) fun (e_Gen2 : Int) =>
 c72 pool e_Index2 e_Gen2 w fun (bad : Int) (w : World) =>
 if (bad != 0) = true then (R bad w) else (Ld (.i .i64) w e fun (e_Index3 : Int) => Ld (.i .i64) w (e.add 1) fun (e_Gen3 : Int) =>
 c73 w_ e_Index3 e_Gen3 w fun (r : Sl) (w : World) =>
 R 0 w)
theorem c50_of {w_ e_Index e_Gen w R} (h : f50 w_ e_Index e_Gen w R) : c50 w_ e_Index e_Gen w R :=
  callK_of (H := ⟨[], []⟩) okP Try.func50 (cast (by kernel_rfl) h)
def f51 (w_ : Option Addr) (e_Index e_Gen p_Kind : Int) (p_Values : Sl) (w : World) (R : Int → World → Prop) : Prop :=
 Nw (.cells #[.int .i64 e_Index, .int .i64 e_Gen] 33) w fun (e : Addr) (w : World) =>
 Nw (.cells #[.int .i64 p_Kind, .slice p_Values.a p_Values.len p_Values.cap] 62) w fun (p : Addr) (w : World) =>
 Ld (.i .i64) w e fun (e_Index2 : Int) => Ld (.i .i64) w (e.add 1) fun (e_Gen2 : Int) =>
 Ld (.i .i64) w p fun (Kind : Int) =>
 c74 w_ e_Index2 e_Gen2 Kind w fun (set : Int) (has : Bool) (n_ bad : Int) (w : World) =>
 if (bad != 0) = true then (R bad w) else (if has = true then (R 61 w) else (Ld .sl w (p.add 1) fun (Values : Sl) =>
 if ((Values.len : Int) != n_) = true then (R 63 w) else (Dr w fun (w : World) =>
 Ld (.i .i64) w e fun (e_Index3 : Int) => Ld (.i .i64) w (e.add 1) fun (e_Gen3 : Int) =>
 Ld (.i .i64) w p fun (Kind2 : Int) =>
 Ld .sl w (p.add 1) fun (Values2 : Sl) =>
 c73 w_ e_Index3 e_Gen3 w fun (r : Sl) (w : World) =>
 w.cell? (p.add 1) = some (.slice Values2.a Values2.len Values2.cap) ∧ w.cell? p = some (.int .i64 Kind2) ∧ (c69 w_ set Kind2 w fun (r2 : Int) (w : World) =>
 w.cell? (p.add 1) = some (.slice Values2.a Values2.len Values2.cap) ∧ (c68 r r2 Values2 w fun (values : Sl) (w : World) =>
 Dr w fun (w : World) =>
 Ld (.i .i64) w e fun (e_Index4 : Int) => Ld (.i .i64) w (e.add 1) fun (e_Gen4 : Int) =>
 Ld (.i .i64) w p fun (Kind3 : Int) =>
 (0 : Int) ≤ Kind3 ∧ (c71 w_ e_Index4 e_Gen4 (IntKind.i64.wrap ((BitVec.ofInt 64 set ||| BitVec.ofInt 64 (IntKind.i64.wrap (1 * 2 ^ (min (Int.toNat Kind3) 64)))).toNat : Nat)) values w fun  (w : World) =>
 R 0 w))))))
theorem c51_of {w_ e_Index e_Gen p_Kind p_Values w R} (h : f51 w_ e_Index e_Gen p_Kind p_Values w R) : c51 w_ e_Index e_Gen p_Kind p_Values w R :=
  callK_of (H := ⟨[], []⟩) okP Try.func51 (cast (by kernel_rfl) h)
def f52 (w_ : Option Addr) (e_Index e_Gen kind : Int) (w : World) (R : Int → World → Prop) : Prop :=
 Nw (.cells #[.int .i64 e_Index, .int .i64 e_Gen] 33) w fun (e : Addr) (w : World) =>
 Ld (.i .i64) w e fun (e_Index2 : Int) => Ld (.i .i64) w (e.add 1) fun (e_Gen2 : Int) =>
 c74 w_ e_Index2 e_Gen2 kind w fun (set : Int) (has : Bool) (n_ bad : Int) (w : World) =>
 if (bad != 0) = true then (R bad w) else (if (!has) = true then (R 62 w) else (c69 w_ set kind w fun (at_ : Int) (w : World) =>
 Ld (.i .i64) w e fun (e_Index3 : Int) => Ld (.i .i64) w (e.add 1) fun (e_Gen3 : Int) =>
 c73 w_ e_Index3 e_Gen3 w fun (r : Sl) (w : World) =>
 c75 r at_ (IntKind.i64.wrap (at_ + n_)) w fun (values : Sl) (w : World) =>
 Dr w fun (w : World) =>
 Ld (.i .i64) w e fun (e_Index4 : Int) => Ld (.i .i64) w (e.add 1) fun (e_Gen4 : Int) =>
 (0 : Int) ≤ kind ∧ (c71 w_ e_Index4 e_Gen4 (IntKind.i64.wrap ((BitVec.ofInt 64 set &&& ~~~ BitVec.ofInt 64 (IntKind.i64.wrap (1 * 2 ^ (min (Int.toNat kind) 64)))).toNat : Nat)) values w fun  (w : World) =>
 R 0 w)))
theorem c52_of {w_ e_Index e_Gen kind w R} (h : f52 w_ e_Index e_Gen kind w R) : c52 w_ e_Index e_Gen kind w R :=
  callK_of (H := ⟨[], []⟩) okP Try.func52 (cast (by kernel_rfl) h)
def f53 (p : Option Addr) (index : Int) (w : World) (R : Int → Int → Int → World → Prop) : Prop :=
 Nw (.cells #[.int .i64 0, .int .i64 0] 33) w fun (a : Addr) (w : World) =>
 ∃ J_ : Bool → World → Prop, (if (decide (index < 0)) = true then (J_ true w) else (NN p fun (p_ : Addr) =>
 Ld .sl w (p_.add 1) fun (gens : Sl) =>
 if (decide (index ≥ (gens.len : Int))) = true then (J_ true w) else (NN p fun (p_2 : Addr) =>
 Ld .sl w (p_2.add 2) fun (alive : Sl) =>
 Ix alive.a alive.len index 1 fun (a2 : Addr) =>
 Ld .b w a2 fun (x : Bool) =>
 J_ (!x) w))) ∧ ∀ t26 : Bool, ∀ w : World, J_ t26 w → (if t26 = true then (St a (.int .i64 0) w fun (w : World) =>
 St (a.add 1) (.int .i64 0) w fun (w : World) =>
 Ld (.i .i64) w a fun (r_Index : Int) => Ld (.i .i64) w (a.add 1) fun (r_Gen : Int) =>
 R r_Index r_Gen 41 w) else (NN p fun (p_3 : Addr) =>
 Ld .sl w (p_3.add 1) fun (gens2 : Sl) =>
 Ix gens2.a gens2.len index 1 fun (a3 : Addr) =>
 Ld (.i .i64) w a3 fun (x2 : Int) =>
 St a (.int .i64 index) w fun (w : World) =>
 St (a.add 1) (.int .i64 x2) w fun (w : World) =>
 Ld (.i .i64) w a fun (r_Index2 : Int) => Ld (.i .i64) w (a.add 1) fun (r_Gen2 : Int) =>
 R r_Index2 r_Gen2 0 w))
theorem c53_of {p index w R} (h : f53 p index w R) : c53 p index w R :=
  callK_of (H := ⟨[], [(2, ⟨[(26, .b)], [0, 1, 4]⟩)]⟩) okP Try.func53 (cast (by kernel_rfl) h)
def f54 (w_ : Option Addr) (e_Index e_Gen : Int) (set kind : Int) (w : World) (R : Int → Sl → World → Prop) : Prop :=
 Nw (.cells #[.int .i64 e_Index, .int .i64 e_Gen] 33) w fun (e : Addr) (w : World) =>
 Nw (.cells #[.int .i64 0, .slice none 0 0] 62) w fun (a : Addr) (w : World) =>
 NN w_ fun (w_2 : Addr) =>
 Ld .m w (w_2.add 3) fun (tables : Option Nat) =>
 RunRoL [.one .p] Try.prog (Instr.lookup 82 (.map tables) (.int .i64 set) false) w fun (t : Option Addr) (_ : World) =>
 Ld (.i .i64) w e fun (e_Index2 : Int) => Ld (.i .i64) w (e.add 1) fun (e_Gen2 : Int) =>
 c77 t e_Index2 e_Gen2 w fun (r : Int) (w : World) =>
 c76 t r w fun (x__Index x__Gen : Int) (values : Sl) (x_ : Int) (w : World) =>
 Nw (.cells #[.int .i64 0, .int .i64 0] 33) w fun (x_2 : Addr) (w : World) =>
 St x_2 (.int .i64 x__Index) w fun (w : World) =>
 St (x_2.add 1) (.int .i64 x__Gen) w fun (w : World) =>
 c69 w_ set kind w fun (at_ : Int) (w : World) =>
 c67 w_ kind w fun (n_ : Int) (x_3 : Bool) (w : World) =>
 Cut ⟨values.a, values.len, values.cap⟩ at_ (IntKind.i64.wrap (at_ + n_)) (values.cap : Int) 1 fun (s : Sl) =>
 c41 s w fun (r2 : Sl) (w : World) =>
 St a (.int .i64 kind) w fun (w : World) =>
 St (a.add 1) (.slice r2.a r2.len r2.cap) w fun (w : World) =>
 Ld (.i .i64) w a fun (r_Kind : Int) => Ld .sl w (a.add 1) fun (r_Values : Sl) =>
 R r_Kind r_Values w
theorem c54_of {w_ e_Index e_Gen set kind w R} (h : f54 w_ e_Index e_Gen set kind w R) : c54 w_ e_Index e_Gen set kind w R :=
  callK_of (H := ⟨[], []⟩) okP Try.func54 (cast (by kernel_rfl) h)
def f55 (s : Sl) (w : World) (R : Sl → World → Prop) : Prop :=
 if s.a.isNone = true then (R ⟨none, 0, 0⟩ w) else (Nw (.cells #[] 3) w fun (b : Addr) (w : World) =>
 Run .sl Try.prog (Builtin.append_ #[23, 23] 23 #[.slice (some b) 0 0, .slice s.a s.len s.cap]) w fun (s2 : Sl) (w : World) =>
 R s2 w)
theorem c55_of {s w R} (h : f55 s w R) : c55 s w R :=
  callK_of (H := ⟨[], []⟩) okP Try.func55 (cast (by kernel_rfl) h)
def f56 (s : Sl) (w : World) (R : Sl → World → Prop) : Prop :=
 if s.a.isNone = true then (R ⟨none, 0, 0⟩ w) else (Nw (.cells #[] 4) w fun (b : Addr) (w : World) =>
 Run .sl Try.prog (Builtin.append_ #[110, 110] 110 #[.slice (some b) 0 0, .slice s.a s.len s.cap]) w fun (s2 : Sl) (w : World) =>
 R s2 w)
theorem c56_of {s w R} (h : f56 s w R) : c56 s w R :=
  callK_of (H := ⟨[], []⟩) okP Try.func56 (cast (by kernel_rfl) h)
def f57 (s : Sl) (w : World) (R : Sl → World → Prop) : Prop :=
 if s.a.isNone = true then (R ⟨none, 0, 0⟩ w) else (Nw (.cells #[] 33) w fun (b : Addr) (w : World) =>
 Run .sl Try.prog (Builtin.append_ #[48, 48] 48 #[.slice (some b) 0 0, .slice s.a s.len s.cap]) w fun (s2 : Sl) (w : World) =>
 R s2 w)
theorem c57_of {s w R} (h : f57 s w R) : c57 s w R :=
  callK_of (H := ⟨[], []⟩) okP Try.func57 (cast (by kernel_rfl) h)
def f58 (m : Option Nat) (w : World) (R : Option Nat → World → Prop) : Prop :=
 if m.isNone = true then (R none w) else (CallX Try.prog 78 [.iface 81 (.map m)] [.one .v] w fun (r : Value) (w : World) =>
 RunRoL [.one .m] Try.prog (Instr.typeAssert (r) 20 81 false) w fun (x : Option Nat) (_ : World) =>
 R x w)
theorem c58_of {m w R} (h : f58 m w R) : c58 m w R :=
  callK_of (H := ⟨[], []⟩) okP Try.func58 (cast (by kernel_rfl) h)
def f59 (b : Sl) (w : World) (R : Sl → World → Prop) : Prop :=
 Run .sl Try.prog (Builtin.append_ #[58, 58] 58 #[.slice none 0 0, .slice b.a b.len b.cap]) w fun (s : Sl) (w : World) =>
 R s w
theorem c59_of {b w R} (h : f59 b w R) : c59 b w R :=
  callK_of (H := ⟨[], []⟩) okP Try.func59 (cast (by kernel_rfl) h)
def f60 (l : Sl) (w : World) (R : Sl → World → Prop) : Prop :=
 Nw (.cells #[.slice l.a l.len l.cap] 34) w fun (l2 : Addr) (w : World) =>
 Ld .sl w l2 fun (l3 : Sl) =>
 c61 ⟨none, 0, 0⟩ (IntKind.u64.wrap (l3.len : Int)) w fun (head : Sl) (w : World) =>
 Nw (.cells #[.slice none 0 0] 58) w fun (head2 : Addr) (w : World) =>
 St head2 (.slice head.a head.len head.cap) w fun (w : World) =>
 Ld .sl w l2 fun (l4 : Sl) =>
 if ((l4.len : Int) == 0) = true then (Ld .sl w head2 fun (head3 : Sl) =>
 R head3 w) else (∃ Inv_ : Sl → Int → Nat → World → Prop, (∃ n : Nat, Inv_ ⟨none, 0, 0⟩ 0 n w) ∧ ∀ best : Sl, ∀ t17 : Int, ∀ m : Nat, ∀ w : World, Inv_ best t17 m w → (if (decide (t17 < 3)) = true then (CallV Try.prog (.func (.func 79) #[] #[.pointer (some head2), .pointer (some l2)]) [.int .u8 t17] [.one .sl] w fun (r : Sl) (w : World) =>
 if (cond best.a.isNone true (decide ((r.len : Int) < (best.len : Int)))) = true then (∃ m2 : Nat, m2 < m ∧ Inv_ r (IntKind.u8.wrap (t17 + 1)) m2 w) else (∃ m2 : Nat, m2 < m ∧ Inv_ best (IntKind.u8.wrap (t17 + 1)) m2 w)) else (R best w)))
theorem c60_of {l w R} (h : f60 l w R) : c60 l w R :=
  callK_of (H := ⟨[(7, ⟨[(5, .sl), (17, .i .u8)], [4]⟩)], []⟩) okP Try.func60 (cast (by kernel_rfl) h)
def f61 (b : Sl) (n_ : Int) (w : World) (R : Sl → World → Prop) : Prop :=
 ∃ Inv_ : Sl → Int → Nat → World → Prop, (∃ n : Nat, Inv_ b n_ n w) ∧ ∀ b2 : Sl, ∀ n_2 : Int, ∀ m : Nat, ∀ w : World, Inv_ b2 n_2 m w → (if (decide (n_2 ≥ 128)) = true then (Nw (.cells #[.int .u8 (IntKind.u8.wrap ((BitVec.ofInt 8 (IntKind.u8.wrap n_2) ||| BitVec.ofInt 8 128).toNat : Nat))] 5) w fun (b3 : Addr) (w : World) =>
 Run .sl Try.prog (Builtin.append_ #[58, 58] 58 #[.slice b2.a b2.len b2.cap, .slice (some b3) 1 1]) w fun (b4 : Sl) (w : World) =>
 (0 : Int) ≤ 7 ∧ (∃ m2 : Nat, m2 < m ∧ Inv_ b4 (Int.fdiv n_2 (2 ^ (min (Int.toNat 7) 64))) m2 w)) else (Nw (.cells #[.int .u8 (IntKind.u8.wrap n_2)] 5) w fun (b5 : Addr) (w : World) =>
 Run .sl Try.prog (Builtin.append_ #[58, 58] 58 #[.slice b2.a b2.len b2.cap, .slice (some b5) 1 1]) w fun (s : Sl) (w : World) =>
 R s w))
theorem c61_of {b n_ w R} (h : f61 b n_ w R) : c61 b n_ w R :=
  callK_of (H := ⟨[(1, ⟨[(0, .sl), (1, .i .u64)], []⟩)], []⟩) okP Try.func61 (cast (by kernel_rfl) h)
def f62 (n_ : Int) (w : World) (R : Int → World → Prop) : Prop :=
 (0 : Int) ≤ 1 ∧ ((0 : Int) ≤ 63 ∧ (R (IntKind.u64.wrap ((BitVec.ofInt 64 (IntKind.u64.wrap (IntKind.i64.wrap (n_ * 2 ^ (min (Int.toNat 1) 64)))) ^^^ BitVec.ofInt 64 (IntKind.u64.wrap (Int.fdiv n_ (2 ^ (min (Int.toNat 63) 64))))).toNat : Nat)) w))
theorem c62_of {n_ w R} (h : f62 n_ w R) : c62 n_ w R :=
  callK_of (H := ⟨[], []⟩) okP Try.func62 (cast (by kernel_rfl) h)
def f63 (data : Sl) (a b : Int) (cmp : Value) (w : World) (R : World → Prop) : Prop :=
 ∃ Inv_ : Int → Nat → World → Prop, (∃ n : Nat, Inv_ (IntKind.i64.wrap (a + 1)) n w) ∧ ∀ i : Int, ∀ m : Nat, ∀ w : World, Inv_ i m w → (if (decide (i < b)) = true then (∃ Inv_2 : Int → Nat → World → Prop, (∃ n : Nat, Inv_2 i n w) ∧ ∀ j : Int, ∀ m3 : Nat, ∀ w : World, Inv_2 j m3 w → (∃ J_ : World → Prop, (Dr w fun (w : World) =>
 if (decide (j > a)) = true then (Ix data.a data.len j 8 fun (a2 : Addr) =>
 Ld (.i .i64) w a2 fun (x_system : Int) => Ld (.i .i64) w (a2.add 1) fun (x_index : Int) => Ld (.i .i64) w (a2.add 2) fun (x_c_Op : Int) => Ld (.i .i64) w (a2.add 3) fun (x_c_E_Index : Int) => Ld (.i .i64) w (a2.add 4) fun (x_c_E_Gen : Int) => Ld (.i .i64) w (a2.add 5) fun (x_c_Kind : Int) => Ld .sl w (a2.add 6) fun (x_c_Values : Sl) => Ld .sl w (a2.add 7) fun (x_c_Parts : Sl) =>
 Ix data.a data.len (IntKind.i64.wrap (j - 1)) 8 fun (a3 : Addr) =>
 Ld (.i .i64) w a3 fun (x_system2 : Int) => Ld (.i .i64) w (a3.add 1) fun (x_index2 : Int) => Ld (.i .i64) w (a3.add 2) fun (x_c_Op2 : Int) => Ld (.i .i64) w (a3.add 3) fun (x_c_E_Index2 : Int) => Ld (.i .i64) w (a3.add 4) fun (x_c_E_Gen2 : Int) => Ld (.i .i64) w (a3.add 5) fun (x_c_Kind2 : Int) => Ld .sl w (a3.add 6) fun (x_c_Values2 : Sl) => Ld .sl w (a3.add 7) fun (x_c_Parts2 : Sl) =>
 CallV Try.prog (cmp) [.agg #[.int .i64 x_system, .int .i64 x_index, .int .i64 x_c_Op, .int .i64 x_c_E_Index, .int .i64 x_c_E_Gen, .int .i64 x_c_Kind, .slice x_c_Values.a x_c_Values.len x_c_Values.cap, .slice x_c_Parts.a x_c_Parts.len x_c_Parts.cap], .agg #[.int .i64 x_system2, .int .i64 x_index2, .int .i64 x_c_Op2, .int .i64 x_c_E_Index2, .int .i64 x_c_E_Gen2, .int .i64 x_c_Kind2, .slice x_c_Values2.a x_c_Values2.len x_c_Values2.cap, .slice x_c_Parts2.a x_c_Parts2.len x_c_Parts2.cap]] [.one (.i .i64)] w fun (r : Int) (w : World) =>
 if (decide (r < 0)) = true then (J_  w) else (∃ m2 : Nat, m2 < m ∧ Inv_ (IntKind.i64.wrap (i + 1)) m2 w)) else (∃ m2 : Nat, m2 < m ∧ Inv_ (IntKind.i64.wrap (i + 1)) m2 w)) ∧ ∀ w : World, J_  w → (Dr w fun (w : World) =>
 Ix data.a data.len (IntKind.i64.wrap (j - 1)) 8 fun (a4 : Addr) =>
 Ld (.i .i64) w a4 fun (x_system3 : Int) => Ld (.i .i64) w (a4.add 1) fun (x_index3 : Int) => Ld (.i .i64) w (a4.add 2) fun (x_c_Op3 : Int) => Ld (.i .i64) w (a4.add 3) fun (x_c_E_Index3 : Int) => Ld (.i .i64) w (a4.add 4) fun (x_c_E_Gen3 : Int) => Ld (.i .i64) w (a4.add 5) fun (x_c_Kind3 : Int) => Ld .sl w (a4.add 6) fun (x_c_Values3 : Sl) => Ld .sl w (a4.add 7) fun (x_c_Parts3 : Sl) =>
 Ix data.a data.len j 8 fun (a5 : Addr) =>
 Ld (.i .i64) w a5 fun (x_system4 : Int) => Ld (.i .i64) w (a5.add 1) fun (x_index4 : Int) => Ld (.i .i64) w (a5.add 2) fun (x_c_Op4 : Int) => Ld (.i .i64) w (a5.add 3) fun (x_c_E_Index4 : Int) => Ld (.i .i64) w (a5.add 4) fun (x_c_E_Gen4 : Int) => Ld (.i .i64) w (a5.add 5) fun (x_c_Kind4 : Int) => Ld .sl w (a5.add 6) fun (x_c_Values4 : Sl) => Ld .sl w (a5.add 7) fun (x_c_Parts4 : Sl) =>
 Ix data.a data.len j 8 fun (a6 : Addr) =>
 St a6 (.int .i64 x_system3) w fun (w : World) =>
 St (a6.add 1) (.int .i64 x_index3) w fun (w : World) =>
 St (a6.add 2) (.int .i64 x_c_Op3) w fun (w : World) =>
 St (a6.add 3) (.int .i64 x_c_E_Index3) w fun (w : World) =>
 St (a6.add 4) (.int .i64 x_c_E_Gen3) w fun (w : World) =>
 St (a6.add 5) (.int .i64 x_c_Kind3) w fun (w : World) =>
 St (a6.add 6) (.slice x_c_Values3.a x_c_Values3.len x_c_Values3.cap) w fun (w : World) =>
 St (a6.add 7) (.slice x_c_Parts3.a x_c_Parts3.len x_c_Parts3.cap) w fun (w : World) =>
 Ix data.a data.len (IntKind.i64.wrap (j - 1)) 8 fun (a7 : Addr) =>
 St a7 (.int .i64 x_system4) w fun (w : World) =>
 St (a7.add 1) (.int .i64 x_index4) w fun (w : World) =>
 St (a7.add 2) (.int .i64 x_c_Op4) w fun (w : World) =>
 St (a7.add 3) (.int .i64 x_c_E_Index4) w fun (w : World) =>
 St (a7.add 4) (.int .i64 x_c_E_Gen4) w fun (w : World) =>
 St (a7.add 5) (.int .i64 x_c_Kind4) w fun (w : World) =>
 St (a7.add 6) (.slice x_c_Values4.a x_c_Values4.len x_c_Values4.cap) w fun (w : World) =>
 St (a7.add 7) (.slice x_c_Parts4.a x_c_Parts4.len x_c_Parts4.cap) w fun (w : World) =>
 ∃ m4 : Nat, m4 < m3 ∧ Inv_2 (IntKind.i64.wrap (j - 1)) m4 w))) else (R w))
theorem c63_of {data a b cmp w R} (h : f63 data a b cmp w R) : c63 data a b cmp w R :=
  callK_of (H := ⟨[(1, ⟨[(8, .i .i64)], [0, 1, 2, 3]⟩), (4, ⟨[(9, .i .i64)], [0, 1, 2, 3, 8]⟩)], [(6, ⟨[], [0, 1, 2, 3, 8, 9]⟩)]⟩) okP Try.func63 (cast (by kernel_rfl) h)
def f64 (data : Sl) (a m b : Int) (cmp : Value) (w : World) (R : World → Prop) : Prop :=
 if ((IntKind.i64.wrap (m - a)) == 1) = true then (∃ Inv_ : Int → Int → Nat → World → Prop, (∃ n : Nat, Inv_ m b n w) ∧ ∀ i : Int, ∀ j : Int, ∀ m2 : Nat, ∀ w : World, Inv_ i j m2 w → (if (decide (i < j)) = true then ((0 : Int) ≤ 1 ∧ (Dr w fun (w : World) =>
 Ix data.a data.len (IntKind.i64.wrap (Int.fdiv (IntKind.u64.wrap (IntKind.i64.wrap (i + j))) (2 ^ (min (Int.toNat 1) 64)))) 8 fun (a2 : Addr) =>
 Ld (.i .i64) w a2 fun (x_system : Int) => Ld (.i .i64) w (a2.add 1) fun (x_index : Int) => Ld (.i .i64) w (a2.add 2) fun (x_c_Op : Int) => Ld (.i .i64) w (a2.add 3) fun (x_c_E_Index : Int) => Ld (.i .i64) w (a2.add 4) fun (x_c_E_Gen : Int) => Ld (.i .i64) w (a2.add 5) fun (x_c_Kind : Int) => Ld .sl w (a2.add 6) fun (x_c_Values : Sl) => Ld .sl w (a2.add 7) fun (x_c_Parts : Sl) =>
 Ix data.a data.len a 8 fun (a3 : Addr) =>
 Ld (.i .i64) w a3 fun (x_system2 : Int) => Ld (.i .i64) w (a3.add 1) fun (x_index2 : Int) => Ld (.i .i64) w (a3.add 2) fun (x_c_Op2 : Int) => Ld (.i .i64) w (a3.add 3) fun (x_c_E_Index2 : Int) => Ld (.i .i64) w (a3.add 4) fun (x_c_E_Gen2 : Int) => Ld (.i .i64) w (a3.add 5) fun (x_c_Kind2 : Int) => Ld .sl w (a3.add 6) fun (x_c_Values2 : Sl) => Ld .sl w (a3.add 7) fun (x_c_Parts2 : Sl) =>
 CallV Try.prog (cmp) [.agg #[.int .i64 x_system, .int .i64 x_index, .int .i64 x_c_Op, .int .i64 x_c_E_Index, .int .i64 x_c_E_Gen, .int .i64 x_c_Kind, .slice x_c_Values.a x_c_Values.len x_c_Values.cap, .slice x_c_Parts.a x_c_Parts.len x_c_Parts.cap], .agg #[.int .i64 x_system2, .int .i64 x_index2, .int .i64 x_c_Op2, .int .i64 x_c_E_Index2, .int .i64 x_c_E_Gen2, .int .i64 x_c_Kind2, .slice x_c_Values2.a x_c_Values2.len x_c_Values2.cap, .slice x_c_Parts2.a x_c_Parts2.len x_c_Parts2.cap]] [.one (.i .i64)] w fun (r : Int) (w : World) =>
 if (decide (r < 0)) = true then (∃ m3 : Nat, m3 < m2 ∧ Inv_ (IntKind.i64.wrap ((IntKind.i64.wrap (Int.fdiv (IntKind.u64.wrap (IntKind.i64.wrap (i + j))) (2 ^ (min (Int.toNat 1) 64)))) + 1)) j m3 w) else (∃ m3 : Nat, m3 < m2 ∧ Inv_ i (IntKind.i64.wrap (Int.fdiv (IntKind.u64.wrap (IntKind.i64.wrap (i + j))) (2 ^ (min (Int.toNat 1) 64)))) m3 w))) else (∃ Inv_2 : Int → Nat → World → Prop, (∃ n : Nat, Inv_2 a n w) ∧ ∀ k : Int, ∀ m4 : Nat, ∀ w : World, Inv_2 k m4 w → (if (decide (k < (IntKind.i64.wrap (i - 1)))) = true then (Dr w fun (w : World) =>
 Ix data.a data.len (IntKind.i64.wrap (k + 1)) 8 fun (a4 : Addr) =>
 Ld (.i .i64) w a4 fun (x_system3 : Int) => Ld (.i .i64) w (a4.add 1) fun (x_index3 : Int) => Ld (.i .i64) w (a4.add 2) fun (x_c_Op3 : Int) => Ld (.i .i64) w (a4.add 3) fun (x_c_E_Index3 : Int) => Ld (.i .i64) w (a4.add 4) fun (x_c_E_Gen3 : Int) => Ld (.i .i64) w (a4.add 5) fun (x_c_Kind3 : Int) => Ld .sl w (a4.add 6) fun (x_c_Values3 : Sl) => Ld .sl w (a4.add 7) fun (x_c_Parts3 : Sl) =>
 Ix data.a data.len k 8 fun (a5 : Addr) =>
 Ld (.i .i64) w a5 fun (x_system4 : Int) => Ld (.i .i64) w (a5.add 1) fun (x_index4 : Int) => Ld (.i .i64) w (a5.add 2) fun (x_c_Op4 : Int) => Ld (.i .i64) w (a5.add 3) fun (x_c_E_Index4 : Int) => Ld (.i .i64) w (a5.add 4) fun (x_c_E_Gen4 : Int) => Ld (.i .i64) w (a5.add 5) fun (x_c_Kind4 : Int) => Ld .sl w (a5.add 6) fun (x_c_Values4 : Sl) => Ld .sl w (a5.add 7) fun (x_c_Parts4 : Sl) =>
 Ix data.a data.len k 8 fun (a6 : Addr) =>
 St a6 (.int .i64 x_system3) w fun (w : World) =>
 St (a6.add 1) (.int .i64 x_index3) w fun (w : World) =>
 St (a6.add 2) (.int .i64 x_c_Op3) w fun (w : World) =>
 St (a6.add 3) (.int .i64 x_c_E_Index3) w fun (w : World) =>
 St (a6.add 4) (.int .i64 x_c_E_Gen3) w fun (w : World) =>
 St (a6.add 5) (.int .i64 x_c_Kind3) w fun (w : World) =>
 St (a6.add 6) (.slice x_c_Values3.a x_c_Values3.len x_c_Values3.cap) w fun (w : World) =>
 St (a6.add 7) (.slice x_c_Parts3.a x_c_Parts3.len x_c_Parts3.cap) w fun (w : World) =>
 Ix data.a data.len (IntKind.i64.wrap (k + 1)) 8 fun (a7 : Addr) =>
 St a7 (.int .i64 x_system4) w fun (w : World) =>
 St (a7.add 1) (.int .i64 x_index4) w fun (w : World) =>
 St (a7.add 2) (.int .i64 x_c_Op4) w fun (w : World) =>
 St (a7.add 3) (.int .i64 x_c_E_Index4) w fun (w : World) =>
 St (a7.add 4) (.int .i64 x_c_E_Gen4) w fun (w : World) =>
 St (a7.add 5) (.int .i64 x_c_Kind4) w fun (w : World) =>
 St (a7.add 6) (.slice x_c_Values4.a x_c_Values4.len x_c_Values4.cap) w fun (w : World) =>
 St (a7.add 7) (.slice x_c_Parts4.a x_c_Parts4.len x_c_Parts4.cap) w fun (w : World) =>
 ∃ m5 : Nat, m5 < m4 ∧ Inv_2 (IntKind.i64.wrap (k + 1)) m5 w) else (R w))))) else (if ((IntKind.i64.wrap (b - m)) == 1) = true then (∃ Inv_3 : Int → Int → Nat → World → Prop, (∃ n : Nat, Inv_3 a m n w) ∧ ∀ i2 : Int, ∀ j2 : Int, ∀ m6 : Nat, ∀ w : World, Inv_3 i2 j2 m6 w → (if (decide (i2 < j2)) = true then ((0 : Int) ≤ 1 ∧ (Dr w fun (w : World) =>
 Ix data.a data.len m 8 fun (a8 : Addr) =>
 Ld (.i .i64) w a8 fun (x_system5 : Int) => Ld (.i .i64) w (a8.add 1) fun (x_index5 : Int) => Ld (.i .i64) w (a8.add 2) fun (x_c_Op5 : Int) => Ld (.i .i64) w (a8.add 3) fun (x_c_E_Index5 : Int) => Ld (.i .i64) w (a8.add 4) fun (x_c_E_Gen5 : Int) => Ld (.i .i64) w (a8.add 5) fun (x_c_Kind5 : Int) => Ld .sl w (a8.add 6) fun (x_c_Values5 : Sl) => Ld .sl w (a8.add 7) fun (x_c_Parts5 : Sl) =>
 Ix data.a data.len (IntKind.i64.wrap (Int.fdiv (IntKind.u64.wrap (IntKind.i64.wrap (i2 + j2))) (2 ^ (min (Int.toNat 1) 64)))) 8 fun (a9 : Addr) =>
 Ld (.i .i64) w a9 fun (x_system6 : Int) => Ld (.i .i64) w (a9.add 1) fun (x_index6 : Int) => Ld (.i .i64) w (a9.add 2) fun (x_c_Op6 : Int) => Ld (.i .i64) w (a9.add 3) fun (x_c_E_Index6 : Int) => Ld (.i .i64) w (a9.add 4) fun (x_c_E_Gen6 : Int) => Ld (.i .i64) w (a9.add 5) fun (x_c_Kind6 : Int) => Ld .sl w (a9.add 6) fun (x_c_Values6 : Sl) => Ld .sl w (a9.add 7) fun (x_c_Parts6 : Sl) =>
 CallV Try.prog (cmp) [.agg #[.int .i64 x_system5, .int .i64 x_index5, .int .i64 x_c_Op5, .int .i64 x_c_E_Index5, .int .i64 x_c_E_Gen5, .int .i64 x_c_Kind5, .slice x_c_Values5.a x_c_Values5.len x_c_Values5.cap, .slice x_c_Parts5.a x_c_Parts5.len x_c_Parts5.cap], .agg #[.int .i64 x_system6, .int .i64 x_index6, .int .i64 x_c_Op6, .int .i64 x_c_E_Index6, .int .i64 x_c_E_Gen6, .int .i64 x_c_Kind6, .slice x_c_Values6.a x_c_Values6.len x_c_Values6.cap, .slice x_c_Parts6.a x_c_Parts6.len x_c_Parts6.cap]] [.one (.i .i64)] w fun (r2 : Int) (w : World) =>
 if (!(decide (r2 < 0))) = true then (∃ m7 : Nat, m7 < m6 ∧ Inv_3 (IntKind.i64.wrap ((IntKind.i64.wrap (Int.fdiv (IntKind.u64.wrap (IntKind.i64.wrap (i2 + j2))) (2 ^ (min (Int.toNat 1) 64)))) + 1)) j2 m7 w) else (∃ m7 : Nat, m7 < m6 ∧ Inv_3 i2 (IntKind.i64.wrap (Int.fdiv (IntKind.u64.wrap (IntKind.i64.wrap (i2 + j2))) (2 ^ (min (Int.toNat 1) 64)))) m7 w))) else (∃ Inv_4 : Int → Nat → World → Prop, (∃ n : Nat, Inv_4 m n w) ∧ ∀ k2 : Int, ∀ m8 : Nat, ∀ w : World, Inv_4 k2 m8 w → (if (decide (k2 > i2)) = true then (Dr w fun (w : World) =>
 Ix data.a data.len (IntKind.i64.wrap (k2 - 1)) 8 fun (a10 : Addr) =>
 Ld (.i .i64) w a10 fun (x_system7 : Int) => Ld (.i .i64) w (a10.add 1) fun (x_index7 : Int) => Ld (.i .i64) w (a10.add 2) fun (x_c_Op7 : Int) => Ld (.i .i64) w (a10.add 3) fun (x_c_E_Index7 : Int) => Ld (.i .i64) w (a10.add 4) fun (x_c_E_Gen7 : Int) => Ld (.i .i64) w (a10.add 5) fun (x_c_Kind7 : Int) => Ld .sl w (a10.add 6) fun (x_c_Values7 : Sl) => Ld .sl w (a10.add 7) fun (x_c_Parts7 : Sl) =>
 Ix data.a data.len k2 8 fun (a11 : Addr) =>
 Ld (.i .i64) w a11 fun (x_system8 : Int) => Ld (.i .i64) w (a11.add 1) fun (x_index8 : Int) => Ld (.i .i64) w (a11.add 2) fun (x_c_Op8 : Int) => Ld (.i .i64) w (a11.add 3) fun (x_c_E_Index8 : Int) => Ld (.i .i64) w (a11.add 4) fun (x_c_E_Gen8 : Int) => Ld (.i .i64) w (a11.add 5) fun (x_c_Kind8 : Int) => Ld .sl w (a11.add 6) fun (x_c_Values8 : Sl) => Ld .sl w (a11.add 7) fun (x_c_Parts8 : Sl) =>
 Ix data.a data.len k2 8 fun (a12 : Addr) =>
 St a12 (.int .i64 x_system7) w fun (w : World) =>
 St (a12.add 1) (.int .i64 x_index7) w fun (w : World) =>
 St (a12.add 2) (.int .i64 x_c_Op7) w fun (w : World) =>
 St (a12.add 3) (.int .i64 x_c_E_Index7) w fun (w : World) =>
 St (a12.add 4) (.int .i64 x_c_E_Gen7) w fun (w : World) =>
 St (a12.add 5) (.int .i64 x_c_Kind7) w fun (w : World) =>
 St (a12.add 6) (.slice x_c_Values7.a x_c_Values7.len x_c_Values7.cap) w fun (w : World) =>
 St (a12.add 7) (.slice x_c_Parts7.a x_c_Parts7.len x_c_Parts7.cap) w fun (w : World) =>
 Ix data.a data.len (IntKind.i64.wrap (k2 - 1)) 8 fun (a13 : Addr) =>
 St a13 (.int .i64 x_system8) w fun (w : World) =>
 St (a13.add 1) (.int .i64 x_index8) w fun (w : World) =>
 St (a13.add 2) (.int .i64 x_c_Op8) w fun (w : World) =>
 St (a13.add 3) (.int .i64 x_c_E_Index8) w fun (w : World) =>
 St (a13.add 4) (.int .i64 x_c_E_Gen8) w fun (w : World) =>
 St (a13.add 5) (.int .i64 x_c_Kind8) w fun (w : World) =>
 St (a13.add 6) (.slice x_c_Values8.a x_c_Values8.len x_c_Values8.cap) w fun (w : World) =>
 St (a13.add 7) (.slice x_c_Parts8.a x_c_Parts8.len x_c_Parts8.cap) w fun (w : World) =>
 ∃ m9 : Nat, m9 < m8 ∧ Inv_4 (IntKind.i64.wrap (k2 - 1)) m9 w) else (R w))))) else ((0 : Int) ≤ 1 ∧ (∃ J_ : Int → Int → World → Prop, (if (decide (m > (IntKind.i64.wrap (Int.fdiv (IntKind.u64.wrap (IntKind.i64.wrap (a + b))) (2 ^ (min (Int.toNat 1) 64)))))) = true then (J_ (IntKind.i64.wrap ((IntKind.i64.wrap ((IntKind.i64.wrap (Int.fdiv (IntKind.u64.wrap (IntKind.i64.wrap (a + b))) (2 ^ (min (Int.toNat 1) 64)))) + m)) - b)) (IntKind.i64.wrap (Int.fdiv (IntKind.u64.wrap (IntKind.i64.wrap (a + b))) (2 ^ (min (Int.toNat 1) 64)))) w) else (J_ a m w)) ∧ ∀ start : Int, ∀ r3 : Int, ∀ w : World, J_ start r3 w → (∃ Inv_5 : Int → Int → Nat → World → Prop, (∃ n : Nat, Inv_5 start r3 n w) ∧ ∀ start2 : Int, ∀ r4 : Int, ∀ m10 : Nat, ∀ w : World, Inv_5 start2 r4 m10 w → (if (decide (start2 < r4)) = true then ((0 : Int) ≤ 1 ∧ (Dr w fun (w : World) =>
 Ix data.a data.len (IntKind.i64.wrap ((IntKind.i64.wrap ((IntKind.i64.wrap ((IntKind.i64.wrap (Int.fdiv (IntKind.u64.wrap (IntKind.i64.wrap (a + b))) (2 ^ (min (Int.toNat 1) 64)))) + m)) - 1)) - (IntKind.i64.wrap (Int.fdiv (IntKind.u64.wrap (IntKind.i64.wrap (start2 + r4))) (2 ^ (min (Int.toNat 1) 64)))))) 8 fun (a14 : Addr) =>
 Ld (.i .i64) w a14 fun (x_system9 : Int) => Ld (.i .i64) w (a14.add 1) fun (x_index9 : Int) => Ld (.i .i64) w (a14.add 2) fun (x_c_Op9 : Int) => Ld (.i .i64) w (a14.add 3) fun (x_c_E_Index9 : Int) => Ld (.i .i64) w (a14.add 4) fun (x_c_E_Gen9 : Int) => Ld (.i .i64) w (a14.add 5) fun (x_c_Kind9 : Int) => Ld .sl w (a14.add 6) fun (x_c_Values9 : Sl) => Ld .sl w (a14.add 7) fun (x_c_Parts9 : Sl) =>
 Ix data.a data.len (IntKind.i64.wrap (Int.fdiv (IntKind.u64.wrap (IntKind.i64.wrap (start2 + r4))) (2 ^ (min (Int.toNat 1) 64)))) 8 fun (a15 : Addr) =>
 Ld (.i .i64) w a15 fun (x_system10 : Int) => Ld (.i .i64) w (a15.add 1) fun (x_index10 : Int) => Ld (.i .i64) w (a15.add 2) fun (x_c_Op10 : Int) => Ld (.i .i64) w (a15.add 3) fun (x_c_E_Index10 : Int) => Ld (.i .i64) w (a15.add 4) fun (x_c_E_Gen10 : Int) => Ld (.i .i64) w (a15.add 5) fun (x_c_Kind10 : Int) => Ld .sl w (a15.add 6) fun (x_c_Values10 : Sl) => Ld .sl w (a15.add 7) fun (x_c_Parts10 : Sl) =>
 CallV Try.prog (cmp) [.agg #[.int .i64 x_system9, .int .i64 x_index9, .int .i64 x_c_Op9, .int .i64 x_c_E_Index9, .int .i64 x_c_E_Gen9, .int .i64 x_c_Kind9, .slice x_c_Values9.a x_c_Values9.len x_c_Values9.cap, .slice x_c_Parts9.a x_c_Parts9.len x_c_Parts9.cap], .agg #[.int .i64 x_system10, .int .i64 x_index10, .int .i64 x_c_Op10, .int .i64 x_c_E_Index10, .int .i64 x_c_E_Gen10, .int .i64 x_c_Kind10, .slice x_c_Values10.a x_c_Values10.len x_c_Values10.cap, .slice x_c_Parts10.a x_c_Parts10.len x_c_Parts10.cap]] [.one (.i .i64)] w fun (r5 : Int) (w : World) =>
 if (!(decide (r5 < 0))) = true then (∃ m11 : Nat, m11 < m10 ∧ Inv_5 (IntKind.i64.wrap ((IntKind.i64.wrap (Int.fdiv (IntKind.u64.wrap (IntKind.i64.wrap (start2 + r4))) (2 ^ (min (Int.toNat 1) 64)))) + 1)) r4 m11 w) else (∃ m11 : Nat, m11 < m10 ∧ Inv_5 start2 (IntKind.i64.wrap (Int.fdiv (IntKind.u64.wrap (IntKind.i64.wrap (start2 + r4))) (2 ^ (min (Int.toNat 1) 64)))) m11 w))) else (∃ J_2 : World → Prop, (if (cond (decide (start2 < m)) (decide (m < (IntKind.i64.wrap ((IntKind.i64.wrap ((IntKind.i64.wrap (Int.fdiv (IntKind.u64.wrap (IntKind.i64.wrap (a + b))) (2 ^ (min (Int.toNat 1) 64)))) + m)) - start2)))) false) = true then (c81 data start2 m (IntKind.i64.wrap ((IntKind.i64.wrap ((IntKind.i64.wrap (Int.fdiv (IntKind.u64.wrap (IntKind.i64.wrap (a + b))) (2 ^ (min (Int.toNat 1) 64)))) + m)) - start2)) cmp w fun  (w : World) =>
 J_2  w) else (J_2  w)) ∧ ∀ w : World, J_2  w → (∃ J_3 : World → Prop, (if (cond (decide (a < start2)) (decide (start2 < (IntKind.i64.wrap (Int.fdiv (IntKind.u64.wrap (IntKind.i64.wrap (a + b))) (2 ^ (min (Int.toNat 1) 64)))))) false) = true then (c64 data a start2 (IntKind.i64.wrap (Int.fdiv (IntKind.u64.wrap (IntKind.i64.wrap (a + b))) (2 ^ (min (Int.toNat 1) 64)))) cmp w fun  (w : World) =>
 J_3  w) else (J_3  w)) ∧ ∀ w : World, J_3  w → (if (cond (decide ((IntKind.i64.wrap (Int.fdiv (IntKind.u64.wrap (IntKind.i64.wrap (a + b))) (2 ^ (min (Int.toNat 1) 64)))) < (IntKind.i64.wrap ((IntKind.i64.wrap ((IntKind.i64.wrap (Int.fdiv (IntKind.u64.wrap (IntKind.i64.wrap (a + b))) (2 ^ (min (Int.toNat 1) 64)))) + m)) - start2)))) (decide ((IntKind.i64.wrap ((IntKind.i64.wrap ((IntKind.i64.wrap (Int.fdiv (IntKind.u64.wrap (IntKind.i64.wrap (a + b))) (2 ^ (min (Int.toNat 1) 64)))) + m)) - start2)) < b)) false) = true then (c64 data (IntKind.i64.wrap (Int.fdiv (IntKind.u64.wrap (IntKind.i64.wrap (a + b))) (2 ^ (min (Int.toNat 1) 64)))) (IntKind.i64.wrap ((IntKind.i64.wrap ((IntKind.i64.wrap (Int.fdiv (IntKind.u64.wrap (IntKind.i64.wrap (a + b))) (2 ^ (min (Int.toNat 1) 64)))) + m)) - start2)) b cmp w fun  (w : World) =>
 R w) else (R w)))))))))
theorem c64_of {data a m b cmp w R} (h : f64 data a m b cmp w R) : c64 data a m b cmp w R :=
  callK_of (H := ⟨[(3, ⟨[(10, .i .i64), (11, .i .i64)], [0, 1, 4]⟩), (9, ⟨[(13, .i .i64)], [0, 10]⟩), (15, ⟨[(14, .i .i64), (15, .i .i64)], [0, 2, 4]⟩), (21, ⟨[(17, .i .i64)], [0, 14]⟩), (33, ⟨[(20, .i .i64), (21, .i .i64)], [0, 1, 2, 3, 4, 18, 19, 22]⟩)], [(32, ⟨[(20, .i .i64), (21, .i .i64)], [0, 1, 2, 3, 4, 18, 19]⟩), (41, ⟨[], [0, 1, 3, 4, 18, 20, 24]⟩), (43, ⟨[], [0, 3, 4, 18, 24]⟩)]⟩) okP Try.func64 (cast (by kernel_rfl) h)
def f65 (s : ByteArray) (w : World) (R : Bool → World → Prop) : Prop :=
 Run .sl Try.prog (convert 9 58 (.string s)) w fun (x : Sl) (w : World) =>
 ∃ Inv_ : Int → Nat → World → Prop, (∃ n : Nat, Inv_ 0 n w) ∧ ∀ t9 : Int, ∀ m : Nat, ∀ w : World, Inv_ t9 m w → (if (decide (t9 < (x.len : Int))) = true then (Ix x.a x.len t9 1 fun (a : Addr) =>
 Ld (.i .u8) w a fun (c : Int) =>
 if (cond (!(cond (cond (decide (c ≥ 97)) (decide (c ≤ 122)) false) true (cond (decide (c ≥ 65)) (decide (c ≤ 90)) false))) (cond (t9 == 0) true (cond (c != 95) (cond (decide (c < 48)) true (decide (c > 57))) false)) false) = true then (R false w) else (∃ m2 : Nat, m2 < m ∧ Inv_ (IntKind.i64.wrap (t9 + 1)) m2 w)) else (R (cond (!(s.toList == (⟨#[]⟩ : ByteArray).toList)) (decide ((s.size : Int) ≤ 16)) false) w))
theorem c65_of {s w R} (h : f65 s w R) : c65 s w R :=
  callK_of (H := ⟨[(2, ⟨[(9, .i .i64)], [0, 7, 8]⟩)], []⟩) okP Try.func65 (cast (by kernel_rfl) h)
def f66 (s : Sl) (v : ByteArray) (w : World) (R : Bool → World → Prop) : Prop :=
 c82 s v w fun (r : Int) (w : World) =>
 R (decide (r ≥ 0)) w
theorem c66_of {s v w R} (h : f66 s v w R) : c66 s v w R :=
  callK_of (H := ⟨[], []⟩) okP Try.func66 (cast (by kernel_rfl) h)
def f67 (w_ : Option Addr) (kind : Int) (w : World) (R : Int → Bool → World → Prop) : Prop :=
 ∃ J_ : World → Prop, (if (decide (kind < 1)) = true then (R 0 false w) else (NN w_ fun (w_2 : Addr) =>
 Ld .sl w w_2 fun (kinds : Sl) =>
 if (decide (kind > (kinds.len : Int))) = true then (R 0 false w) else (J_  w))) ∧ ∀ w : World, J_  w → (NN w_ fun (w_3 : Addr) =>
 Ld .sl w w_3 fun (kinds2 : Sl) =>
 Ix kinds2.a kinds2.len (IntKind.i64.wrap (kind - 1)) 2 fun (a : Addr) =>
 Ld .sl w (a.add 1) fun (Fields : Sl) =>
 R (Fields.len : Int) true w)
theorem c67_of {w_ kind w R} (h : f67 w_ kind w R) : c67 w_ kind w R :=
  callK_of (H := ⟨[], [(3, ⟨[], [0, 1]⟩)]⟩) okP Try.func67 (cast (by kernel_rfl) h)
def f68 (s : Sl) (i : Int) (v : Sl) (w : World) (R : Sl → World → Prop) : Prop :=
 Cut ⟨s.a, s.len, s.cap⟩ i (s.len : Int) (s.cap : Int) 1 fun (s2 : Sl) =>
 if ((v.len : Int) == 0) = true then (R s w) else (if (i == (s.len : Int)) = true then (Run .sl Try.prog (Builtin.append_ #[34, 34] 34 #[.slice s.a s.len s.cap, .slice v.a v.len v.cap]) w fun (s3 : Sl) (w : World) =>
 R s3 w) else (if (decide ((IntKind.i64.wrap ((s.len : Int) + (v.len : Int))) > (s.cap : Int))) = true then (Cut ⟨s.a, s.len, s.cap⟩ 0 i (s.cap : Int) 1 fun (s4 : Sl) =>
 Run .sl Try.prog (Builtin.append_ #[34, 3] 34 #[.slice s4.a s4.len s4.cap, .int .i64 (IntKind.i64.wrap ((IntKind.i64.wrap ((s.len : Int) + (v.len : Int))) - i))]) w fun (s22 : Sl) (w : World) =>
 Cut ⟨s22.a, s22.len, s22.cap⟩ i (s22.len : Int) (s22.cap : Int) 1 fun (s5 : Sl) =>
 Run (.i .i64) Try.prog (Builtin.copy_ #[34, 34] 3 #[.slice s5.a s5.len s5.cap, .slice v.a v.len v.cap]) w fun (n_ : Int) (w : World) =>
 Dr w fun (w : World) =>
 Cut ⟨s22.a, s22.len, s22.cap⟩ (IntKind.i64.wrap (i + (v.len : Int))) (s22.len : Int) (s22.cap : Int) 1 fun (s6 : Sl) =>
 Cut ⟨s.a, s.len, s.cap⟩ i (s.len : Int) (s.cap : Int) 1 fun (s7 : Sl) =>
 Run (.i .i64) Try.prog (Builtin.copy_ #[34, 34] 3 #[.slice s6.a s6.len s6.cap, .slice s7.a s7.len s7.cap]) w fun (n_2 : Int) (w : World) =>
 R s22 w) else (Cut ⟨s.a, s.len, s.cap⟩ 0 (IntKind.i64.wrap ((s.len : Int) + (v.len : Int))) (s.cap : Int) 1 fun (s8 : Sl) =>
 Cut ⟨s8.a, s8.len, s8.cap⟩ (IntKind.i64.wrap (i + (v.len : Int))) (s8.len : Int) (s8.cap : Int) 1 fun (s9 : Sl) =>
 CallX Try.prog 83 [.slice v.a v.len v.cap, .slice s9.a s9.len s9.cap] [.one .b] w fun (r : Bool) (w : World) =>
 if (!r) = true then (Dr w fun (w : World) =>
 Cut ⟨s8.a, s8.len, s8.cap⟩ (IntKind.i64.wrap (i + (v.len : Int))) (s8.len : Int) (s8.cap : Int) 1 fun (s10 : Sl) =>
 Cut ⟨s8.a, s8.len, s8.cap⟩ i (s8.len : Int) (s8.cap : Int) 1 fun (s11 : Sl) =>
 Run (.i .i64) Try.prog (Builtin.copy_ #[34, 34] 3 #[.slice s10.a s10.len s10.cap, .slice s11.a s11.len s11.cap]) w fun (n_3 : Int) (w : World) =>
 Cut ⟨s8.a, s8.len, s8.cap⟩ i (s8.len : Int) (s8.cap : Int) 1 fun (s12 : Sl) =>
 Run (.i .i64) Try.prog (Builtin.copy_ #[34, 34] 3 #[.slice s12.a s12.len s12.cap, .slice v.a v.len v.cap]) w fun (n_4 : Int) (w : World) =>
 R s8 w) else (Cut ⟨s8.a, s8.len, s8.cap⟩ (s.len : Int) (s8.len : Int) (s8.cap : Int) 1 fun (s13 : Sl) =>
 Run (.i .i64) Try.prog (Builtin.copy_ #[34, 34] 3 #[.slice s13.a s13.len s13.cap, .slice v.a v.len v.cap]) w fun (n_5 : Int) (w : World) =>
 Cut ⟨s8.a, s8.len, s8.cap⟩ i (s8.len : Int) (s8.cap : Int) 1 fun (s14 : Sl) =>
 c84 s14 (v.len : Int) w fun  (w : World) =>
 R s8 w))))
theorem c68_of {s i v w R} (h : f68 s i v w R) : c68 s i v w R :=
  callK_of (H := ⟨[], []⟩) okP Try.func68 (cast (by kernel_rfl) h)
def f69 (w_ : Option Addr) (set kind : Int) (w : World) (R : Int → World → Prop) : Prop :=
 ∃ Inv_ : Int → Int → Nat → World → Prop, (∃ n : Nat, Inv_ 0 1 n w) ∧ ∀ n_ : Int, ∀ k : Int, ∀ m : Nat, ∀ w : World, Inv_ n_ k m w → (if (decide (k < kind)) = true then ((0 : Int) ≤ k ∧ (if ((IntKind.i64.wrap ((BitVec.ofInt 64 (Int.fdiv set (2 ^ (min (Int.toNat k) 64))) &&& BitVec.ofInt 64 1).toNat : Nat)) == 1) = true then (NN w_ fun (w_2 : Addr) =>
 Ld .sl w w_2 fun (kinds : Sl) =>
 Ix kinds.a kinds.len (IntKind.i64.wrap (k - 1)) 2 fun (a : Addr) =>
 Ld .sl w (a.add 1) fun (Fields : Sl) =>
 ∃ m2 : Nat, m2 < m ∧ Inv_ (IntKind.i64.wrap (n_ + (Fields.len : Int))) (IntKind.i64.wrap (k + 1)) m2 w) else (∃ m2 : Nat, m2 < m ∧ Inv_ n_ (IntKind.i64.wrap (k + 1)) m2 w))) else (R n_ w))
theorem c69_of {w_ set kind w R} (h : f69 w_ set kind w R) : c69 w_ set kind w R :=
  callK_of (H := ⟨[(3, ⟨[(7, .i .i64), (8, .i .i64)], [0, 1, 2]⟩)], []⟩) okP Try.func69 (cast (by kernel_rfl) h)
def f70 (p : Option Addr) (w : World) (R : Int → Int → Int → World → Prop) : Prop :=
 Nw (.cells #[.int .i64 0, .int .i64 0] 33) w fun (a : Addr) (w : World) =>
 NN p fun (p_ : Addr) =>
 Ld .sl w (p_.add 3) fun (free : Sl) =>
 if (decide ((free.len : Int) > 0)) = true then (NN p fun (p_2 : Addr) =>
 Ld .sl w (p_2.add 3) fun (free2 : Sl) =>
 Ix free2.a free2.len 0 1 fun (a2 : Addr) =>
 Ld (.i .i64) w a2 fun (i : Int) =>
 NN p fun (p_3 : Addr) =>
 Ld .sl w (p_3.add 3) fun (free3 : Sl) =>
 Cut ⟨free3.a, free3.len, free3.cap⟩ 1 (free3.len : Int) (free3.cap : Int) 1 fun (s : Sl) =>
 NN p fun (p_4 : Addr) =>
 St (p_4.add 3) (.slice s.a s.len s.cap) w fun (w : World) =>
 NN p fun (p_5 : Addr) =>
 Ld .sl w (p_5.add 1) fun (gens : Sl) =>
 Ix gens.a gens.len i 1 fun (a3 : Addr) =>
 Ld (.i .i64) w a3 fun (x : Int) =>
 Ix gens.a gens.len i 1 fun (a4 : Addr) =>
 St a4 (.int .i64 (IntKind.i64.wrap (x + 1))) w fun (w : World) =>
 NN p fun (p_6 : Addr) =>
 Ld .sl w (p_6.add 2) fun (alive : Sl) =>
 Ix alive.a alive.len i 1 fun (a5 : Addr) =>
 St a5 (.bool true) w fun (w : World) =>
 NN p fun (p_7 : Addr) =>
 Ld .sl w (p_7.add 1) fun (gens2 : Sl) =>
 Ix gens2.a gens2.len i 1 fun (a6 : Addr) =>
 Ld (.i .i64) w a6 fun (x2 : Int) =>
 St a (.int .i64 i) w fun (w : World) =>
 St (a.add 1) (.int .i64 x2) w fun (w : World) =>
 Ld (.i .i64) w a fun (r_Index : Int) => Ld (.i .i64) w (a.add 1) fun (r_Gen : Int) =>
 R r_Index r_Gen 0 w) else (Dr w fun (w : World) =>
 NN p fun (p_8 : Addr) =>
 Ld .sl w (p_8.add 1) fun (gens3 : Sl) =>
 NN p fun (p_9 : Addr) =>
 Ld (.i .i64) w p_9 fun (most : Int) =>
 if ((gens3.len : Int) == most) = true then (St a (.int .i64 0) w fun (w : World) =>
 St (a.add 1) (.int .i64 0) w fun (w : World) =>
 Ld (.i .i64) w a fun (r_Index2 : Int) => Ld (.i .i64) w (a.add 1) fun (r_Gen2 : Int) =>
 R r_Index2 r_Gen2 40 w) else (NN p fun (p_10 : Addr) =>
 Ld .sl w (p_10.add 1) fun (gens4 : Sl) =>
 Nw (.cells #[.int .i64 1] 3) w fun (b : Addr) (w : World) =>
 Run .sl Try.prog (Builtin.append_ #[23, 23] 23 #[.slice gens4.a gens4.len gens4.cap, .slice (some b) 1 1]) w fun (s2 : Sl) (w : World) =>
 NN p fun (p_11 : Addr) =>
 St (p_11.add 1) (.slice s2.a s2.len s2.cap) w fun (w : World) =>
 NN p fun (p_12 : Addr) =>
 Ld .sl w (p_12.add 2) fun (alive2 : Sl) =>
 Nw (.cells #[.bool true] 4) w fun (b2 : Addr) (w : World) =>
 Run .sl Try.prog (Builtin.append_ #[110, 110] 110 #[.slice alive2.a alive2.len alive2.cap, .slice (some b2) 1 1]) w fun (s3 : Sl) (w : World) =>
 NN p fun (p_13 : Addr) =>
 St (p_13.add 2) (.slice s3.a s3.len s3.cap) w fun (w : World) =>
 NN p fun (p_14 : Addr) =>
 Ld .sl w (p_14.add 1) fun (gens5 : Sl) =>
 St a (.int .i64 (IntKind.i64.wrap ((gens5.len : Int) - 1))) w fun (w : World) =>
 St (a.add 1) (.int .i64 1) w fun (w : World) =>
 Ld (.i .i64) w a fun (r_Index3 : Int) => Ld (.i .i64) w (a.add 1) fun (r_Gen3 : Int) =>
 R r_Index3 r_Gen3 0 w))
theorem c70_of {p w R} (h : f70 p w R) : c70 p w R :=
  callK_of (H := ⟨[], []⟩) okP Try.func70 (cast (by kernel_rfl) h)
def f71 (w_ : Option Addr) (e_Index e_Gen set : Int) (values : Sl) (w : World) (R : World → Prop) : Prop :=
 Nw (.cells #[.int .i64 e_Index, .int .i64 e_Gen] 33) w fun (e : Addr) (w : World) =>
 Dr w fun (w : World) =>
 NN w_ fun (w_2 : Addr) =>
 Ld .m w (w_2.add 2) fun (sets : Option Nat) =>
 Ld (.i .i64) w e fun (e_Index2 : Int) => Ld (.i .i64) w (e.add 1) fun (e_Gen2 : Int) =>
 RunU Try.prog (Instr.mapUpdate 81 (.map sets) (.agg #[.int .i64 e_Index2, .int .i64 e_Gen2]) (.int .i64 set)) w fun (w : World) =>
 Dr w fun (w : World) =>
 Ld (.i .i64) w e fun (e_Index3 : Int) => Ld (.i .i64) w (e.add 1) fun (e_Gen3 : Int) =>
 c85 w_ set w fun (r : Option Addr) (w : World) =>
 w.cell? e = some (.int .i64 e_Index3) ∧ w.cell? (e.add 1) = some (.int .i64 e_Gen3) ∧ (c86 r e_Index3 e_Gen3 values w fun (r2 r3 : Int) (w : World) =>
 R w)
theorem c71_of {w_ e_Index e_Gen set values w R} (h : f71 w_ e_Index e_Gen set values w R) : c71 w_ e_Index e_Gen set values w R :=
  callK_of (H := ⟨[], []⟩) okP Try.func71 (cast (by kernel_rfl) h)
def f72 (p : Option Addr) (e_Index e_Gen : Int) (w : World) (R : Int → World → Prop) : Prop :=
 Nw (.cells #[.int .i64 e_Index, .int .i64 e_Gen] 33) w fun (e : Addr) (w : World) =>
 Ld (.i .i64) w e fun (e_Index2 : Int) => Ld (.i .i64) w (e.add 1) fun (e_Gen2 : Int) =>
 c40 p e_Index2 e_Gen2 w fun (r : Bool) (w : World) =>
 if (!r) = true then (R 41 w) else (Dr w fun (w : World) =>
 NN p fun (p_ : Addr) =>
 Ld .sl w (p_.add 2) fun (alive : Sl) =>
 Ld (.i .i64) w e fun (Index : Int) =>
 Ix alive.a alive.len Index 1 fun (a : Addr) =>
 St a (.bool false) w fun (w : World) =>
 Ld (.i .i64) w (e.add 1) fun (Gen : Int) =>
 if (decide (Gen < 1000000)) = true then (Dr w fun (w : World) =>
 NN p fun (p_2 : Addr) =>
 Ld .sl w (p_2.add 3) fun (free : Sl) =>
 Ld (.i .i64) w e fun (Index2 : Int) =>
 Nw (.cells #[.int .i64 Index2] 3) w fun (b : Addr) (w : World) =>
 Run .sl Try.prog (Builtin.append_ #[23, 23] 23 #[.slice free.a free.len free.cap, .slice (some b) 1 1]) w fun (s : Sl) (w : World) =>
 NN p fun (p_3 : Addr) =>
 St (p_3.add 3) (.slice s.a s.len s.cap) w fun (w : World) =>
 R 0 w) else (R 0 w))
theorem c72_of {p e_Index e_Gen w R} (h : f72 p e_Index e_Gen w R) : c72 p e_Index e_Gen w R :=
  callK_of (H := ⟨[], []⟩) okP Try.func72 (cast (by kernel_rfl) h)
def f73 (w_ : Option Addr) (e_Index e_Gen : Int) (w : World) (R : Sl → World → Prop) : Prop :=
 Nw (.cells #[.int .i64 e_Index, .int .i64 e_Gen] 33) w fun (e : Addr) (w : World) =>
 Dr w fun (w : World) =>
 NN w_ fun (w_2 : Addr) =>
 Ld .m w (w_2.add 2) fun (sets : Option Nat) =>
 Ld (.i .i64) w e fun (e_Index2 : Int) => Ld (.i .i64) w (e.add 1) fun (e_Gen2 : Int) =>
 RunRoL [.one (.i .i64)] Try.prog (Instr.lookup 81 (.map sets) (.agg #[.int .i64 e_Index2, .int .i64 e_Gen2]) false) w fun (set : Int) (_ : World) =>
 NN w_ fun (w_3 : Addr) =>
 Ld .m w (w_3.add 3) fun (tables : Option Nat) =>
 RunRoL [.one .p] Try.prog (Instr.lookup 82 (.map tables) (.int .i64 set) false) w fun (t : Option Addr) (_ : World) =>
 Ld (.i .i64) w e fun (e_Index3 : Int) => Ld (.i .i64) w (e.add 1) fun (e_Gen3 : Int) =>
 c77 t e_Index3 e_Gen3 w fun (r : Int) (w : World) =>
 c76 t r w fun (x__Index x__Gen : Int) (values : Sl) (x_ : Int) (w : World) =>
 Nw (.cells #[.int .i64 0, .int .i64 0] 33) w fun (x_2 : Addr) (w : World) =>
 St x_2 (.int .i64 x__Index) w fun (w : World) =>
 St (x_2.add 1) (.int .i64 x__Gen) w fun (w : World) =>
 Ld (.i .i64) w e fun (e_Index4 : Int) => Ld (.i .i64) w (e.add 1) fun (e_Gen4 : Int) =>
 c77 t e_Index4 e_Gen4 w fun (r2 : Int) (w : World) =>
 c87 t r2 w fun (r_Index r_Gen : Int) (r3 : Bool) (r4 : Int) (w : World) =>
 Dr w fun (w : World) =>
 NN w_ fun (w_4 : Addr) =>
 Ld .m w (w_4.add 2) fun (sets2 : Option Nat) =>
 Ld (.i .i64) w e fun (e_Index5 : Int) => Ld (.i .i64) w (e.add 1) fun (e_Gen5 : Int) =>
 Run .v Try.prog (Builtin.delete_ #[81, 33] 0 #[.map sets2, .agg #[.int .i64 e_Index5, .int .i64 e_Gen5]]) w fun (n_ : Value) (w : World) =>
 c88 t w fun (r5 : Int) (w : World) =>
 if (r5 == 0) = true then (NN w_ fun (w_5 : Addr) =>
 Ld .m w (w_5.add 3) fun (tables2 : Option Nat) =>
 Run .v Try.prog (Builtin.delete_ #[82, 3] 0 #[.map tables2, .int .i64 set]) w fun (n_2 : Value) (w : World) =>
 R values w) else (R values w)
theorem c73_of {w_ e_Index e_Gen w R} (h : f73 w_ e_Index e_Gen w R) : c73 w_ e_Index e_Gen w R :=
  callK_of (H := ⟨[], []⟩) okP Try.func73 (cast (by kernel_rfl) h)
def f74 (w_ : Option Addr) (e_Index e_Gen kind : Int) (w : World) (R : Int → Bool → Int → Int → World → Prop) : Prop :=
 Nw (.cells #[.int .i64 e_Index, .int .i64 e_Gen] 33) w fun (e : Addr) (w : World) =>
 Dr w fun (w : World) =>
 NN w_ fun (w_2 : Addr) =>
 Ld .p w (w_2.add 1) fun (pool : Option Addr) =>
 Ld (.i .i64) w e fun (e_Index2 : Int) => Ld (.i .i64) w (e.add 1) fun (e_Gen2 : Int) =>
 c40 pool e_Index2 e_Gen2 w fun (r : Bool) (w : World) =>
 if (!r) = true then (R 0 false 0 41 w) else (c67 w_ kind w fun (fields : Int) (ok : Bool) (w : World) =>
 if (!ok) = true then (R 0 false 0 60 w) else (Dr w fun (w : World) =>
 NN w_ fun (w_3 : Addr) =>
 Ld .m w (w_3.add 2) fun (sets : Option Nat) =>
 Ld (.i .i64) w e fun (e_Index3 : Int) => Ld (.i .i64) w (e.add 1) fun (e_Gen3 : Int) =>
 RunRoL [.one (.i .i64)] Try.prog (Instr.lookup 81 (.map sets) (.agg #[.int .i64 e_Index3, .int .i64 e_Gen3]) false) w fun (set : Int) (_ : World) =>
 Dr w fun (w : World) =>
 (0 : Int) ≤ kind ∧ (R set ((IntKind.i64.wrap ((BitVec.ofInt 64 (Int.fdiv set (2 ^ (min (Int.toNat kind) 64))) &&& BitVec.ofInt 64 1).toNat : Nat)) == 1) fields 0 w)))
theorem c74_of {w_ e_Index e_Gen kind w R} (h : f74 w_ e_Index e_Gen kind w R) : c74 w_ e_Index e_Gen kind w R :=
  callK_of (H := ⟨[], []⟩) okP Try.func74 (cast (by kernel_rfl) h)
def f75 (s : Sl) (i j : Int) (w : World) (R : Sl → World → Prop) : Prop :=
 Cut ⟨s.a, s.len, s.cap⟩ i j (s.len : Int) 1 fun (s2 : Sl) =>
 if (i == j) = true then (R s w) else (Dr w fun (w : World) =>
 Cut ⟨s.a, s.len, s.cap⟩ 0 i (s.cap : Int) 1 fun (s3 : Sl) =>
 Cut ⟨s.a, s.len, s.cap⟩ j (s.len : Int) (s.cap : Int) 1 fun (s4 : Sl) =>
 Run .sl Try.prog (Builtin.append_ #[34, 34] 34 #[.slice s3.a s3.len s3.cap, .slice s4.a s4.len s4.cap]) w fun (s5 : Sl) (w : World) =>
 Cut ⟨s5.a, s5.len, s5.cap⟩ (s5.len : Int) (s.len : Int) (s5.cap : Int) 1 fun (s6 : Sl) =>
 Run .v Try.prog (Builtin.clear_ #[34] 0 #[.slice s6.a s6.len s6.cap]) w fun (n_ : Value) (w : World) =>
 R s5 w)
theorem c75_of {s i j w R} (h : f75 s i j w R) : c75 s i j w R :=
  callK_of (H := ⟨[], []⟩) okP Try.func75 (cast (by kernel_rfl) h)
def f76 (t : Option Addr) (row : Int) (w : World) (R : Int → Int → Sl → Int → World → Prop) : Prop :=
 Nw (.cells #[.int .i64 0, .int .i64 0] 33) w fun (a : Addr) (w : World) =>
 c89 t row w fun (r : Bool) (w : World) =>
 if (!r) = true then (St a (.int .i64 0) w fun (w : World) =>
 St (a.add 1) (.int .i64 0) w fun (w : World) =>
 Ld (.i .i64) w a fun (r_Index : Int) => Ld (.i .i64) w (a.add 1) fun (r_Gen : Int) =>
 R r_Index r_Gen ⟨none, 0, 0⟩ 50 w) else (NN t fun (t_ : Addr) =>
 Ld .sl w (t_.add 1) fun (columns : Sl) =>
 ∃ Inv_ : Sl → Int → Nat → World → Prop, (∃ n : Nat, Inv_ ⟨none, 0, 0⟩ 0 n w) ∧ ∀ out : Sl, ∀ t20 : Int, ∀ m : Nat, ∀ w : World, Inv_ out t20 m w → (if (decide (t20 < (columns.len : Int))) = true then (Ix columns.a columns.len t20 1 fun (a2 : Addr) =>
 Ld .sl w a2 fun (l : Sl) =>
 Ix l.a l.len row 1 fun (a3 : Addr) =>
 Ld (.i .i64) w a3 fun (x : Int) =>
 Nw (.cells #[.int .i64 x] 2) w fun (b : Addr) (w : World) =>
 Run .sl Try.prog (Builtin.append_ #[34, 34] 34 #[.slice out.a out.len out.cap, .slice (some b) 1 1]) w fun (out2 : Sl) (w : World) =>
 ∃ m2 : Nat, m2 < m ∧ Inv_ out2 (IntKind.i64.wrap (t20 + 1)) m2 w) else (NN t fun (t_2 : Addr) =>
 Ld .sl w t_2 fun (owners : Sl) =>
 Ix owners.a owners.len row 2 fun (a4 : Addr) =>
 Ld (.i .i64) w a4 fun (x_Index : Int) => Ld (.i .i64) w (a4.add 1) fun (x_Gen : Int) =>
 St a (.int .i64 x_Index) w fun (w : World) =>
 St (a.add 1) (.int .i64 x_Gen) w fun (w : World) =>
 Ld (.i .i64) w a fun (r_Index2 : Int) => Ld (.i .i64) w (a.add 1) fun (r_Gen2 : Int) =>
 R r_Index2 r_Gen2 out 0 w)))
theorem c76_of {t row w R} (h : f76 t row w R) : c76 t row w R :=
  callK_of (H := ⟨[(5, ⟨[(7, .sl), (20, .i .i64)], [0, 1, 4, 18, 19]⟩)], []⟩) okP Try.func76 (cast (by kernel_rfl) h)
def f77 (t : Option Addr) (e_Index e_Gen : Int) (w : World) (R : Int → World → Prop) : Prop :=
 Nw (.cells #[.int .i64 e_Index, .int .i64 e_Gen] 33) w fun (e : Addr) (w : World) =>
 Dr w fun (w : World) =>
 NN t fun (t_ : Addr) =>
 Ld .m w (t_.add 2) fun (rows : Option Nat) =>
 Ld (.i .i64) w e fun (e_Index2 : Int) => Ld (.i .i64) w (e.add 1) fun (e_Gen2 : Int) =>
 RunRoL [.one (.i .i64), .one .b] Try.prog (Instr.lookup 81 (.map rows) (.agg #[.int .i64 e_Index2, .int .i64 e_Gen2]) true) w fun (e2 : Int) (ok : Bool) (_ : World) =>
 if ok = true then (R e2 w) else (R (-1) w)
theorem c77_of {t e_Index e_Gen w R} (h : f77 t e_Index e_Gen w R) : c77 t e_Index e_Gen w R :=
  callK_of (H := ⟨[], []⟩) okP Try.func77 (cast (by kernel_rfl) h)
def f79 (form : Int) (t1 t2 : Option Addr) (w : World) (R : Sl → World → Prop) : Prop :=
 Dr w fun (w : World) =>
 NN t1 fun (a : Addr) =>
 Ld .sl w a fun (x : Sl) =>
 NN t2 fun (a2 : Addr) =>
 Ld .sl w a2 fun (x2 : Sl) =>
 FlS [(.cells #[.int .u8 form] 5, none)] w fun (y : Option Addr) (w : World) =>
 c59 x w fun (r : Sl) (w : World) =>
 w.cell? a2 = some (.slice x2.a x2.len x2.cap) ∧ (FlS [(.cells #[.int .u8 form] 5, y)] w fun (y2 : Option Addr) (w : World) =>
 Need y2 fun (a3 : Addr) =>
 Run .sl Try.prog (Builtin.append_ #[58, 58] 58 #[.slice r.a r.len r.cap, .slice (some a3) 1 1]) w fun (s : Sl) (w : World) =>
 w.cell? a2 = some (.slice x2.a x2.len x2.cap) ∧ (c80 form s x2 w fun (r2 : Sl) (w : World) =>
 R r2 w))
theorem c79_of {form t1 t2 w R} (h : f79 form t1 t2 w R) : c79 form t1 t2 w R :=
  callK_of (H := ⟨[], []⟩) okP Try.func79 (cast (by kernel_rfl) h)
def f80 (form : Int) (b l : Sl) (w : World) (R : Sl → World → Prop) : Prop :=
 if (form == 0) = true then (∃ Inv_ : Sl → Int → Nat → World → Prop, (∃ n : Nat, Inv_ b 0 n w) ∧ ∀ b2 : Sl, ∀ t42 : Int, ∀ m : Nat, ∀ w : World, Inv_ b2 t42 m w → (if (decide (t42 < (l.len : Int))) = true then (Ix l.a l.len t42 1 fun (a : Addr) =>
 Ld (.i .i64) w a fun (n_ : Int) =>
 c62 n_ w fun (r : Int) (w : World) =>
 c61 b2 r w fun (b3 : Sl) (w : World) =>
 ∃ m2 : Nat, m2 < m ∧ Inv_ b3 (IntKind.i64.wrap (t42 + 1)) m2 w) else (R b2 w))) else (if (form == 1) = true then (∃ Inv_2 : Sl → Int → Int → Nat → World → Prop, (∃ n : Nat, Inv_2 b 0 0 n w) ∧ ∀ b4 : Sl, ∀ last : Int, ∀ t55 : Int, ∀ m3 : Nat, ∀ w : World, Inv_2 b4 last t55 m3 w → (if (decide (t55 < (l.len : Int))) = true then (Ix l.a l.len t55 1 fun (a2 : Addr) =>
 Ld (.i .i64) w a2 fun (n_2 : Int) =>
 c62 (IntKind.i64.wrap (n_2 - last)) w fun (r2 : Int) (w : World) =>
 c61 b4 r2 w fun (b5 : Sl) (w : World) =>
 ∃ m4 : Nat, m4 < m3 ∧ Inv_2 b5 n_2 (IntKind.i64.wrap (t55 + 1)) m4 w) else (R b4 w))) else (c90 l w fun (all : Sl) (w : World) =>
 c61 b (IntKind.u64.wrap (all.len : Int)) w fun (b6 : Sl) (w : World) =>
 ∃ Inv_3 : Sl → Int → Nat → World → Prop, (∃ n : Nat, Inv_3 b6 0 n w) ∧ ∀ b7 : Sl, ∀ t25 : Int, ∀ m5 : Nat, ∀ w : World, Inv_3 b7 t25 m5 w → (if (decide (t25 < (all.len : Int))) = true then (Ix all.a all.len t25 2 fun (a3 : Addr) =>
 Ld (.i .u64) w a3 fun (r_many : Int) => Ld (.i .i64) w (a3.add 1) fun (r_n : Int) =>
 Nw (.cells #[.int .u64 0, .int .i64 0] 163) w fun (r3 : Addr) (w : World) =>
 St r3 (.int .u64 r_many) w fun (w : World) =>
 St (r3.add 1) (.int .i64 r_n) w fun (w : World) =>
 Dr w fun (w : World) =>
 Ld (.i .u64) w r3 fun (many : Int) =>
 Ld (.i .i64) w (r3.add 1) fun (n_3 : Int) =>
 c61 b7 many w fun (r4 : Sl) (w : World) =>
 w.cell? (r3.add 1) = some (.int .i64 n_3) ∧ (c62 n_3 w fun (r5 : Int) (w : World) =>
 c61 r4 r5 w fun (b8 : Sl) (w : World) =>
 ∃ m6 : Nat, m6 < m5 ∧ Inv_3 b8 (IntKind.i64.wrap (t25 + 1)) m6 w)) else (R b7 w))))
theorem c80_of {form b l w R} (h : f80 form b l w R) : c80 form b l w R :=
  callK_of (H := ⟨[(5, ⟨[(1, .sl), (25, .i .i64)], [23, 24]⟩), (11, ⟨[(1, .sl), (42, .i .i64)], [40, 41]⟩), (18, ⟨[(1, .sl), (9, .i .i64), (55, .i .i64)], [53, 54]⟩)], []⟩) okP Try.func80 (cast (by kernel_rfl) h)
def f81 (data : Sl) (a m b : Int) (cmp : Value) (w : World) (R : World → Prop) : Prop :=
 ∃ Inv_ : Int → Int → Nat → World → Prop, (∃ n : Nat, Inv_ (IntKind.i64.wrap (m - a)) (IntKind.i64.wrap (b - m)) n w) ∧ ∀ i : Int, ∀ j : Int, ∀ m2 : Nat, ∀ w : World, Inv_ i j m2 w → (if (i != j) = true then (if (decide (i > j)) = true then (c91 data (IntKind.i64.wrap (m - i)) m j cmp w fun  (w : World) =>
 ∃ m3 : Nat, m3 < m2 ∧ Inv_ (IntKind.i64.wrap (i - j)) j m3 w) else (c91 data (IntKind.i64.wrap (m - i)) (IntKind.i64.wrap ((IntKind.i64.wrap (m + j)) - i)) i cmp w fun  (w : World) =>
 ∃ m3 : Nat, m3 < m2 ∧ Inv_ i (IntKind.i64.wrap (j - i)) m3 w)) else (c91 data (IntKind.i64.wrap (m - i)) m i cmp w fun  (w : World) =>
 R w))
theorem c81_of {data a m b cmp w R} (h : f81 data a m b cmp w R) : c81 data a m b cmp w R :=
  callK_of (H := ⟨[(2, ⟨[(10, .i .i64), (11, .i .i64)], [0, 2, 4]⟩)], []⟩) okP Try.func81 (cast (by kernel_rfl) h)
def f82 (s : Sl) (v : ByteArray) (w : World) (R : Int → World → Prop) : Prop :=
 ∃ Inv_ : Int → Nat → World → Prop, (∃ n : Nat, Inv_ 0 n w) ∧ ∀ t8 : Int, ∀ m : Nat, ∀ w : World, Inv_ t8 m w → (if (decide (t8 < (s.len : Int))) = true then (Ix s.a s.len t8 1 fun (a : Addr) =>
 Ld .s w a fun (x : ByteArray) =>
 if (v.toList == x.toList) = true then (R t8 w) else (∃ m2 : Nat, m2 < m ∧ Inv_ (IntKind.i64.wrap (t8 + 1)) m2 w)) else (R (-1) w))
theorem c82_of {s v w R} (h : f82 s v w R) : c82 s v w R :=
  callK_of (H := ⟨[(2, ⟨[(8, .i .i64)], [0, 1, 7]⟩)], []⟩) okP Try.func82 (cast (by kernel_rfl) h)
def f85 (w_ : Option Addr) (set : Int) (w : World) (R : Option Addr → World → Prop) : Prop :=
 NN w_ fun (w_2 : Addr) =>
 Ld .m w (w_2.add 3) fun (tables : Option Nat) =>
 RunRoL [.one .p] Try.prog (Instr.lookup 82 (.map tables) (.int .i64 set) false) w fun (t : Option Addr) (_ : World) =>
 if t.isNone = true then (NN w_ fun (w_3 : Addr) =>
 Ld .sl w w_3 fun (kinds : Sl) =>
 c69 w_ set (IntKind.i64.wrap ((kinds.len : Int) + 1)) w fun (r : Int) (w : World) =>
 c93 r w fun (t2 : Option Addr) (r2 : Int) (w : World) =>
 NN w_ fun (w_4 : Addr) =>
 Ld .m w (w_4.add 3) fun (tables2 : Option Nat) =>
 RunU Try.prog (Instr.mapUpdate 82 (.map tables2) (.int .i64 set) (.pointer t2)) w fun (w : World) =>
 R t2 w) else (R t w)
theorem c85_of {w_ set w R} (h : f85 w_ set w R) : c85 w_ set w R :=
  callK_of (H := ⟨[], []⟩) okP Try.func85 (cast (by kernel_rfl) h)
def f86 (t : Option Addr) (e_Index e_Gen : Int) (values : Sl) (w : World) (R : Int → Int → World → Prop) : Prop :=
 Nw (.cells #[.int .i64 e_Index, .int .i64 e_Gen] 33) w fun (e : Addr) (w : World) =>
 Dr w fun (w : World) =>
 NN t fun (t_ : Addr) =>
 Ld .m w (t_.add 2) fun (rows : Option Nat) =>
 Ld (.i .i64) w e fun (e_Index2 : Int) => Ld (.i .i64) w (e.add 1) fun (e_Gen2 : Int) =>
 RunRoL [.one (.i .i64), .one .b] Try.prog (Instr.lookup 81 (.map rows) (.agg #[.int .i64 e_Index2, .int .i64 e_Gen2]) true) w fun (e2 : Int) (ok : Bool) (_ : World) =>
 NN t fun (t_2 : Addr) =>
 Ld .sl w t_2 fun (owners : Sl) =>
 NN t fun (t_3 : Addr) =>
 Ld .sl w (t_3.add 1) fun (columns : Sl) =>
 if ((values.len : Int) != (columns.len : Int)) = true then (R 0 63 w) else (if ok = true then (R 0 61 w) else (if (decide ((owners.len : Int) ≥ 200)) = true then (R 0 40 w) else (∃ Inv_ : Int → Nat → World → Prop, (∃ n : Nat, Inv_ 0 n w) ∧ ∀ t43 : Int, ∀ m : Nat, ∀ w : World, Inv_ t43 m w → (if (decide (t43 < (values.len : Int))) = true then (Ix values.a values.len t43 1 fun (a : Addr) =>
 Ld (.i .i64) w a fun (x : Int) =>
 Dr w fun (w : World) =>
 NN t fun (t_4 : Addr) =>
 Ld .sl w (t_4.add 1) fun (columns2 : Sl) =>
 NN t fun (t_5 : Addr) =>
 Ld .sl w (t_5.add 1) fun (columns3 : Sl) =>
 Ix columns3.a columns3.len t43 1 fun (a2 : Addr) =>
 Ld .sl w a2 fun (x2 : Sl) =>
 Nw (.cells #[.int .i64 x] 2) w fun (b : Addr) (w : World) =>
 Run .sl Try.prog (Builtin.append_ #[34, 34] 34 #[.slice x2.a x2.len x2.cap, .slice (some b) 1 1]) w fun (s : Sl) (w : World) =>
 w.cell? (t_4.add 1) = some (.slice columns2.a columns2.len columns2.cap) ∧ (Ix columns2.a columns2.len t43 1 fun (a3 : Addr) =>
 St a3 (.slice s.a s.len s.cap) w fun (w : World) =>
 ∃ m2 : Nat, m2 < m ∧ Inv_ (IntKind.i64.wrap (t43 + 1)) m2 w)) else (Dr w fun (w : World) =>
 NN t fun (t_6 : Addr) =>
 Ld .sl w t_6 fun (owners2 : Sl) =>
 Ld (.i .i64) w e fun (e_Index3 : Int) => Ld (.i .i64) w (e.add 1) fun (e_Gen3 : Int) =>
 Nw (.cells #[.int .i64 e_Index3, .int .i64 e_Gen3] 33) w fun (b2 : Addr) (w : World) =>
 Run .sl Try.prog (Builtin.append_ #[48, 48] 48 #[.slice owners2.a owners2.len owners2.cap, .slice (some b2) 1 1]) w fun (s2 : Sl) (w : World) =>
 NN t fun (t_7 : Addr) =>
 St t_7 (.slice s2.a s2.len s2.cap) w fun (w : World) =>
 Dr w fun (w : World) =>
 NN t fun (t_8 : Addr) =>
 Ld .m w (t_8.add 2) fun (rows2 : Option Nat) =>
 Ld (.i .i64) w e fun (e_Index4 : Int) => Ld (.i .i64) w (e.add 1) fun (e_Gen4 : Int) =>
 RunU Try.prog (Instr.mapUpdate 81 (.map rows2) (.agg #[.int .i64 e_Index4, .int .i64 e_Gen4]) (.int .i64 (owners.len : Int))) w fun (w : World) =>
 R (owners.len : Int) 0 w)))))
theorem c86_of {t e_Index e_Gen values w R} (h : f86 t e_Index e_Gen values w R) : c86 t e_Index e_Gen values w R :=
  callK_of (H := ⟨[(10, ⟨[(43, .i .i64)], [0, 4, 10, 41, 42]⟩)], []⟩) okP Try.func86 (cast (by kernel_rfl) h)
def f87 (t : Option Addr) (row : Int) (w : World) (R : Int → Int → Bool → Int → World → Prop) : Prop :=
 Nw (.cells #[.int .i64 0, .int .i64 0] 33) w fun (a : Addr) (w : World) =>
 c89 t row w fun (r : Bool) (w : World) =>
 if (!r) = true then (St a (.int .i64 0) w fun (w : World) =>
 St (a.add 1) (.int .i64 0) w fun (w : World) =>
 Ld (.i .i64) w a fun (r_Index : Int) => Ld (.i .i64) w (a.add 1) fun (r_Gen : Int) =>
 R r_Index r_Gen false 50 w) else (NN t fun (t_ : Addr) =>
 Ld .sl w t_ fun (owners : Sl) =>
 Dr w fun (w : World) =>
 NN t fun (t_2 : Addr) =>
 Ld .m w (t_2.add 2) fun (rows : Option Nat) =>
 NN t fun (t_3 : Addr) =>
 Ld .sl w t_3 fun (owners2 : Sl) =>
 Ix owners2.a owners2.len row 2 fun (a2 : Addr) =>
 Ld (.i .i64) w a2 fun (x_Index : Int) => Ld (.i .i64) w (a2.add 1) fun (x_Gen : Int) =>
 Run .v Try.prog (Builtin.delete_ #[81, 33] 0 #[.map rows, .agg #[.int .i64 x_Index, .int .i64 x_Gen]]) w fun (n_ : Value) (w : World) =>
 NN t fun (t_4 : Addr) =>
 Ld .sl w t_4 fun (owners3 : Sl) =>
 Ix owners3.a owners3.len (IntKind.i64.wrap ((owners.len : Int) - 1)) 2 fun (a3 : Addr) =>
 Ld (.i .i64) w a3 fun (moved_Index : Int) => Ld (.i .i64) w (a3.add 1) fun (moved_Gen : Int) =>
 Nw (.cells #[.int .i64 0, .int .i64 0] 33) w fun (moved : Addr) (w : World) =>
 St moved (.int .i64 moved_Index) w fun (w : World) =>
 St (moved.add 1) (.int .i64 moved_Gen) w fun (w : World) =>
 NN t fun (t_5 : Addr) =>
 Ld .sl w (t_5.add 1) fun (columns : Sl) =>
 ∃ Inv_ : Int → Nat → World → Prop, (∃ n : Nat, Inv_ 0 n w) ∧ ∀ t45 : Int, ∀ m : Nat, ∀ w : World, Inv_ t45 m w → (if (decide (t45 < (columns.len : Int))) = true then (Ix columns.a columns.len t45 1 fun (a4 : Addr) =>
 Ld .sl w a4 fun (l : Sl) =>
 Ix l.a l.len (IntKind.i64.wrap ((owners.len : Int) - 1)) 1 fun (a5 : Addr) =>
 Ld (.i .i64) w a5 fun (x : Int) =>
 Ix l.a l.len row 1 fun (a6 : Addr) =>
 St a6 (.int .i64 x) w fun (w : World) =>
 Dr w fun (w : World) =>
 NN t fun (t_6 : Addr) =>
 Ld .sl w (t_6.add 1) fun (columns2 : Sl) =>
 Cut ⟨l.a, l.len, l.cap⟩ 0 (IntKind.i64.wrap ((owners.len : Int) - 1)) (l.cap : Int) 1 fun (s : Sl) =>
 Ix columns2.a columns2.len t45 1 fun (a7 : Addr) =>
 St a7 (.slice s.a s.len s.cap) w fun (w : World) =>
 ∃ m2 : Nat, m2 < m ∧ Inv_ (IntKind.i64.wrap (t45 + 1)) m2 w) else (Dr w fun (w : World) =>
 NN t fun (t_7 : Addr) =>
 Ld .sl w t_7 fun (owners4 : Sl) =>
 Ld (.i .i64) w moved fun (moved_Index2 : Int) => Ld (.i .i64) w (moved.add 1) fun (moved_Gen2 : Int) =>
 Ix owners4.a owners4.len row 2 fun (a8 : Addr) =>
 St a8 (.int .i64 moved_Index2) w fun (w : World) =>
 St (a8.add 1) (.int .i64 moved_Gen2) w fun (w : World) =>
 NN t fun (t_8 : Addr) =>
 Ld .sl w t_8 fun (owners5 : Sl) =>
 Cut ⟨owners5.a, owners5.len, owners5.cap⟩ 0 (IntKind.i64.wrap ((owners.len : Int) - 1)) (owners5.cap : Int) 2 fun (s2 : Sl) =>
 NN t fun (t_9 : Addr) =>
 St t_9 (.slice s2.a s2.len s2.cap) w fun (w : World) =>
 if (row == (IntKind.i64.wrap ((owners.len : Int) - 1))) = true then (St a (.int .i64 0) w fun (w : World) =>
 St (a.add 1) (.int .i64 0) w fun (w : World) =>
 Ld (.i .i64) w a fun (r_Index2 : Int) => Ld (.i .i64) w (a.add 1) fun (r_Gen2 : Int) =>
 R r_Index2 r_Gen2 false 0 w) else (Dr w fun (w : World) =>
 NN t fun (t_10 : Addr) =>
 Ld .m w (t_10.add 2) fun (rows2 : Option Nat) =>
 Ld (.i .i64) w moved fun (moved_Index3 : Int) => Ld (.i .i64) w (moved.add 1) fun (moved_Gen3 : Int) =>
 RunU Try.prog (Instr.mapUpdate 81 (.map rows2) (.agg #[.int .i64 moved_Index3, .int .i64 moved_Gen3]) (.int .i64 row)) w fun (w : World) =>
 Ld (.i .i64) w moved fun (moved_Index4 : Int) => Ld (.i .i64) w (moved.add 1) fun (moved_Gen4 : Int) =>
 St a (.int .i64 moved_Index4) w fun (w : World) =>
 St (a.add 1) (.int .i64 moved_Gen4) w fun (w : World) =>
 Ld (.i .i64) w a fun (r_Index3 : Int) => Ld (.i .i64) w (a.add 1) fun (r_Gen3 : Int) =>
 R r_Index3 r_Gen3 true 0 w))))
theorem c87_of {t row w R} (h : f87 t row w R) : c87 t row w R :=
  callK_of (H := ⟨[(7, ⟨[(45, .i .i64)], [0, 1, 4, 7, 8, 43, 44]⟩)], []⟩) okP Try.func87 (cast (by kernel_rfl) h)
def f88 (t : Option Addr) (w : World) (R : Int → World → Prop) : Prop :=
 NN t fun (t_ : Addr) =>
 Ld .sl w t_ fun (owners : Sl) =>
 R (owners.len : Int) w
theorem c88_of {t w R} (h : f88 t w R) : c88 t w R :=
  callK_of (H := ⟨[], []⟩) okP Try.func88 (cast (by kernel_rfl) h)
def f89 (t : Option Addr) (row : Int) (w : World) (R : Bool → World → Prop) : Prop :=
 if (decide (row ≥ 0)) = true then (NN t fun (t_ : Addr) =>
 Ld .sl w t_ fun (owners : Sl) =>
 R (decide (row < (owners.len : Int))) w) else (R false w)
theorem c89_of {t row w R} (h : f89 t row w R) : c89 t row w R :=
  callK_of (H := ⟨[], []⟩) okP Try.func89 (cast (by kernel_rfl) h)
def f90 (l : Sl) (w : World) (R : Sl → World → Prop) : Prop :=
 ∃ Inv_ : Sl → Int → Nat → World → Prop, (∃ n : Nat, Inv_ ⟨none, 0, 0⟩ 0 n w) ∧ ∀ out : Sl, ∀ t9 : Int, ∀ m : Nat, ∀ w : World, Inv_ out t9 m w → (if (decide (t9 < (l.len : Int))) = true then (Ix l.a l.len t9 1 fun (a : Addr) =>
 Ld (.i .i64) w a fun (n_ : Int) =>
 ∃ J_ : Bool → World → Prop, (if (decide ((IntKind.i64.wrap ((out.len : Int) - 1)) ≥ 0)) = true then (Ix out.a out.len (IntKind.i64.wrap ((out.len : Int) - 1)) 2 fun (a2 : Addr) =>
 Ld (.i .i64) w (a2.add 1) fun (n_2 : Int) =>
 J_ (n_2 == n_) w) else (J_ false w)) ∧ ∀ t26 : Bool, ∀ w : World, J_ t26 w → (if t26 = true then (Ix out.a out.len (IntKind.i64.wrap ((out.len : Int) - 1)) 2 fun (a3 : Addr) =>
 Ld (.i .u64) w a3 fun (many : Int) =>
 Ix out.a out.len (IntKind.i64.wrap ((out.len : Int) - 1)) 2 fun (a4 : Addr) =>
 St a4 (.int .u64 (IntKind.u64.wrap (many + 1))) w fun (w : World) =>
 ∃ m2 : Nat, m2 < m ∧ Inv_ out (IntKind.i64.wrap (t9 + 1)) m2 w) else (Nw (.cells #[.int .u64 1, .int .i64 n_] 163) w fun (b : Addr) (w : World) =>
 Run .sl Try.prog (Builtin.append_ #[160, 160] 160 #[.slice out.a out.len out.cap, .slice (some b) 1 1]) w fun (out2 : Sl) (w : World) =>
 ∃ m2 : Nat, m2 < m ∧ Inv_ out2 (IntKind.i64.wrap (t9 + 1)) m2 w))) else (R out w))
theorem c90_of {l w R} (h : f90 l w R) : c90 l w R :=
  callK_of (H := ⟨[(3, ⟨[(3, .sl), (9, .i .i64)], [7, 8]⟩)], [(7, ⟨[(26, .b)], [3, 5, 6, 7, 8, 9]⟩)]⟩) okP Try.func90 (cast (by kernel_rfl) h)
def f91 (data : Sl) (a b n_ : Int) (cmp : Value) (w : World) (R : World → Prop) : Prop :=
 ∃ Inv_ : Int → Nat → World → Prop, (∃ n : Nat, Inv_ 0 n w) ∧ ∀ i : Int, ∀ m : Nat, ∀ w : World, Inv_ i m w → (if (decide (i < n_)) = true then (Dr w fun (w : World) =>
 Ix data.a data.len (IntKind.i64.wrap (b + i)) 8 fun (a2 : Addr) =>
 Ld (.i .i64) w a2 fun (x_system : Int) => Ld (.i .i64) w (a2.add 1) fun (x_index : Int) => Ld (.i .i64) w (a2.add 2) fun (x_c_Op : Int) => Ld (.i .i64) w (a2.add 3) fun (x_c_E_Index : Int) => Ld (.i .i64) w (a2.add 4) fun (x_c_E_Gen : Int) => Ld (.i .i64) w (a2.add 5) fun (x_c_Kind : Int) => Ld .sl w (a2.add 6) fun (x_c_Values : Sl) => Ld .sl w (a2.add 7) fun (x_c_Parts : Sl) =>
 Ix data.a data.len (IntKind.i64.wrap (a + i)) 8 fun (a3 : Addr) =>
 Ld (.i .i64) w a3 fun (x_system2 : Int) => Ld (.i .i64) w (a3.add 1) fun (x_index2 : Int) => Ld (.i .i64) w (a3.add 2) fun (x_c_Op2 : Int) => Ld (.i .i64) w (a3.add 3) fun (x_c_E_Index2 : Int) => Ld (.i .i64) w (a3.add 4) fun (x_c_E_Gen2 : Int) => Ld (.i .i64) w (a3.add 5) fun (x_c_Kind2 : Int) => Ld .sl w (a3.add 6) fun (x_c_Values2 : Sl) => Ld .sl w (a3.add 7) fun (x_c_Parts2 : Sl) =>
 Ix data.a data.len (IntKind.i64.wrap (a + i)) 8 fun (a4 : Addr) =>
 St a4 (.int .i64 x_system) w fun (w : World) =>
 St (a4.add 1) (.int .i64 x_index) w fun (w : World) =>
 St (a4.add 2) (.int .i64 x_c_Op) w fun (w : World) =>
 St (a4.add 3) (.int .i64 x_c_E_Index) w fun (w : World) =>
 St (a4.add 4) (.int .i64 x_c_E_Gen) w fun (w : World) =>
 St (a4.add 5) (.int .i64 x_c_Kind) w fun (w : World) =>
 St (a4.add 6) (.slice x_c_Values.a x_c_Values.len x_c_Values.cap) w fun (w : World) =>
 St (a4.add 7) (.slice x_c_Parts.a x_c_Parts.len x_c_Parts.cap) w fun (w : World) =>
 Ix data.a data.len (IntKind.i64.wrap (b + i)) 8 fun (a5 : Addr) =>
 St a5 (.int .i64 x_system2) w fun (w : World) =>
 St (a5.add 1) (.int .i64 x_index2) w fun (w : World) =>
 St (a5.add 2) (.int .i64 x_c_Op2) w fun (w : World) =>
 St (a5.add 3) (.int .i64 x_c_E_Index2) w fun (w : World) =>
 St (a5.add 4) (.int .i64 x_c_E_Gen2) w fun (w : World) =>
 St (a5.add 5) (.int .i64 x_c_Kind2) w fun (w : World) =>
 St (a5.add 6) (.slice x_c_Values2.a x_c_Values2.len x_c_Values2.cap) w fun (w : World) =>
 St (a5.add 7) (.slice x_c_Parts2.a x_c_Parts2.len x_c_Parts2.cap) w fun (w : World) =>
 ∃ m2 : Nat, m2 < m ∧ Inv_ (IntKind.i64.wrap (i + 1)) m2 w) else (R w))
theorem c91_of {data a b n_ cmp w R} (h : f91 data a b n_ cmp w R) : c91 data a b n_ cmp w R :=
  callK_of (H := ⟨[(1, ⟨[(10, .i .i64)], [0, 1, 2, 3]⟩)], []⟩) okP Try.func91 (cast (by kernel_rfl) h)
def f93 (columns : Int) (w : World) (R : Option Addr → Int → World → Prop) : Prop :=
 if (cond (decide (columns < 0)) true (decide (columns > 48))) = true then (R none 1 w) else (Mk [.slice none 0 0] 34 24 columns columns w fun (s : Sl) (w : World) =>
 Nw (.map #[] 0) w fun (m : Addr) (w : World) =>
 Nw (.cells #[.slice none 0 0, .slice s.a s.len s.cap, .map (some m.block)] 126) w fun (a : Addr) (w : World) =>
 R (some a) 0 w)
theorem c93_of {columns w R} (h : f93 columns w R) : c93 columns w R :=
  callK_of (H := ⟨[], []⟩) okP Try.func93 (cast (by kernel_rfl) h)
end Go.Proofs.Ythmbjlpgbkkjjaa.F
end

section
namespace Go.Proofs.Ythmbjlpgbkkjjaa.FS
structure Swo {α : Type} (lt : α → α → Bool) : Prop where
 asymm : ∀ {x y}, lt x y = true → lt y x = false
 trans : ∀ {x y z}, lt y x = false → lt z y = false → lt z x = false
variable {α : Type} {lt : α → α → Bool}
def alike (lt : α → α → Bool) (k x : α) : Bool := !lt k x && !lt x k
def Srt (lt : α → α → Bool) (l : List α) : Prop := l.Pairwise fun x y => lt y x = false
def Same (lt : α → α → Bool) (l m : List α) : Prop := l.length = m.length ∧ ∀ k, l.filter (alike lt k) = m.filter (alike lt k)
theorem Same.refl (l : List α) : Same lt l l := ⟨rfl, fun _ => rfl⟩
theorem Same.trans {l m n : List α} (h : Same lt l m) (h' : Same lt m n) : Same lt l n := ⟨h.1.trans h'.1, fun k => (h.2 k).trans (h'.2 k)⟩
theorem Same.symm {l m : List α} (h : Same lt l m) : Same lt m l := ⟨h.1.symm, fun k => (h.2 k).symm⟩
theorem Same.app {a b c d : List α} (h : Same lt a b) (h' : Same lt c d) : Same lt (a ++ c) (b ++ d) :=
 ⟨by rw [List.length_append, List.length_append, h.1, h'.1], fun k => by rw [List.filter_append, List.filter_append, h.2, h'.2]⟩
theorem Same.mid {A B C D : List α} (h : Same lt B C) : Same lt (A ++ B ++ D) (A ++ C ++ D) := ((Same.refl A).app h).app (Same.refl D)
theorem alike_iff {k x : α} : alike lt k x = true ↔ lt k x = false ∧ lt x k = false := by
 unfold alike
 cases lt k x <;> cases lt x k <;> simp
theorem Swo.irr (h : Swo lt) (x : α) : lt x x = false := by
 cases hx : lt x x with
 | false => rfl
 | true => rw [h.asymm hx] at hx; cases hx
theorem alike_self (h : Swo lt) (x : α) : alike lt x x = true := alike_iff.2 ⟨h.irr x, h.irr x⟩
theorem same_swap (hs : Swo lt) {U V : List α} (h : ∀ u ∈ U, ∀ v ∈ V, lt v u = true) : Same lt (U ++ V) (V ++ U) := by
 refine ⟨by rw [List.length_append, List.length_append, Nat.add_comm], fun k => ?_⟩
 rw [List.filter_append, List.filter_append]
 by_cases hU : U.filter (alike lt k) = []
 ·rw [hU, List.nil_append, List.append_nil]
 ·by_cases hV : V.filter (alike lt k) = []
  ·rw [hV, List.nil_append, List.append_nil]
  ·obtain ⟨u, hu⟩ := List.exists_mem_of_ne_nil _ hU
   obtain ⟨v, hv⟩ := List.exists_mem_of_ne_nil _ hV
   obtain ⟨hu1, hu2⟩ := List.mem_filter.1 hu
   obtain ⟨hv1, hv2⟩ := List.mem_filter.1 hv
   have h1 := h u hu1 v hv1
   have h2 := alike_iff.1 hu2
   have h3 := alike_iff.1 hv2
   have := hs.trans (x := u) (y := k) (z := v) h2.1 h3.2
   rw [h1] at this; cases this
theorem Same.mem (hs : Swo lt) {l m : List α} (h : Same lt l m) {x : α} : x ∈ l ↔ x ∈ m := by
 have e : ∀ l : List α, x ∈ l ↔ x ∈ l.filter (alike lt x) := fun l => by
  rw [List.mem_filter]
  exact ⟨fun h => ⟨h, alike_self hs x⟩, fun h => h.1⟩
 rw [e l, e m, h.2 x]
theorem srt_uniq (hs : Swo lt) : ∀ {l m : List α}, Srt lt l → Srt lt m → Same lt l m → l = m
 | [], [], _, _, _ => rfl
 | [], y :: m, _, _, h => by have := h.1; simp at this
 | x :: l, [], _, _, h => by have := h.1; simp at this
 | x :: l, y :: m, hl, hm, h => by
  obtain ⟨h1, h2⟩ := List.pairwise_cons.1 hl
  obtain ⟨h3, h4⟩ := List.pairwise_cons.1 hm
  have hx : x ∈ y :: m := (h.mem hs).1 (by simp)
  have hy : y ∈ x :: l := (h.mem hs).2 (by simp)
  have a1 : lt x y = false := by
   rcases List.mem_cons.1 hx with e | e
   ·rw [e]; exact hs.irr y
   ·exact h3 x e
  have a2 : lt y x = false := by
   rcases List.mem_cons.1 hy with e | e
   ·rw [e]; exact hs.irr x
   ·exact h1 y e
  have hk := h.2 x
  rw [List.filter_cons_of_pos (alike_self hs x), List.filter_cons_of_pos (alike_iff.2 ⟨a1, a2⟩)] at hk
  obtain ⟨rfl, -⟩ := List.cons.inj hk
  congr 1
  refine srt_uniq hs h2 h4 ⟨by have := h.1; simp at this; exact this, fun k => ?_⟩
  have := h.2 k
  by_cases hkx : alike lt k x = true
  ·rw [List.filter_cons_of_pos hkx, List.filter_cons_of_pos hkx] at this
   exact (List.cons.inj this).2
  ·rw [List.filter_cons_of_neg hkx, List.filter_cons_of_neg hkx] at this
   exact this
theorem srt_app {l m : List α} : Srt lt (l ++ m) ↔ Srt lt l ∧ Srt lt m ∧ ∀ x ∈ l, ∀ y ∈ m, lt y x = false := by
 unfold Srt
 rw [List.pairwise_append]
theorem srt_put (hs : Swo lt) {P Q : List α} {x : α} (h : Srt lt (P ++ Q)) (h1 : ∀ y ∈ P, lt x y = false) (h2 : ∀ y ∈ Q, lt x y = true) : Srt lt (P ++ x :: Q) := by
 obtain ⟨a, b, c⟩ := srt_app.1 h
 refine srt_app.2 ⟨a, List.pairwise_cons.2 ⟨fun y hy => hs.asymm (h2 y hy), b⟩, fun y hy z hz => ?_⟩
 rcases List.mem_cons.1 hz with rfl | hz
 ·exact h1 y hy
 ·exact c y hy z hz
theorem srt_put' (hs : Swo lt) {P Q : List α} {x : α} (h : Srt lt (P ++ Q)) (h1 : ∀ y ∈ P, lt y x = true) (h2 : ∀ y ∈ Q, lt y x = false) : Srt lt (P ++ x :: Q) := by
 obtain ⟨a, b, c⟩ := srt_app.1 h
 refine srt_app.2 ⟨a, List.pairwise_cons.2 ⟨fun y hy => h2 y hy, b⟩, fun y hy z hz => ?_⟩
 rcases List.mem_cons.1 hz with rfl | hz
 ·exact hs.asymm (h1 y hy)
 ·exact c y hy z hz
theorem srt_merge (hs : Swo lt) {U1 U2 V1 V2 M1 M2 : List α} (hU : Srt lt (U1 ++ U2)) (hV : Srt lt (V1 ++ V2)) (h12 : ∀ u ∈ U2, ∀ v ∈ V1, lt v u = true) (h21 : ∀ u ∈ U1, ∀ v ∈ V2, lt v u = false)
  (hm1 : Srt lt M1) (hm2 : Srt lt M2) (hs1 : Same lt (U1 ++ V1) M1) (hs2 : Same lt (U2 ++ V2) M2) : Srt lt (M1 ++ M2) ∧ Same lt ((U1 ++ U2) ++ (V1 ++ V2)) (M1 ++ M2) := by
 obtain ⟨_, _, u12⟩ := srt_app.1 hU
 obtain ⟨_, _, v12⟩ := srt_app.1 hV
 refine ⟨srt_app.2 ⟨hm1, hm2, fun x hx y hy => ?_⟩, ?_⟩
 ·have hx := (hs1.mem hs).2 hx
  have hy := (hs2.mem hs).2 hy
  rcases List.mem_append.1 hx with hx | hx
  ·rcases List.mem_append.1 hy with hy | hy
   ·exact u12 x hx y hy
   ·exact h21 x hx y hy
  ·rcases List.mem_append.1 hy with hy | hy
   ·exact hs.asymm (h12 y hy x hx)
   ·exact v12 x hx y hy
 ·have h1 : Same lt (U2 ++ V1) (V1 ++ U2) := same_swap hs h12
  have h2 : Same lt (U1 ++ (U2 ++ V1) ++ V2) (U1 ++ (V1 ++ U2) ++ V2) := Same.mid h1
  have h3 : Same lt ((U1 ++ V1) ++ (U2 ++ V2)) (M1 ++ M2) := hs1.app hs2
  have e1 : U1 ++ (U2 ++ V1) ++ V2 = (U1 ++ U2) ++ (V1 ++ V2) := by simp
  have e2 : U1 ++ (V1 ++ U2) ++ V2 = (U1 ++ V1) ++ (U2 ++ V2) := by simp
  rw [e1, e2] at h2
  exact h2.trans h3
end Go.Proofs.Ythmbjlpgbkkjjaa.FS
end

section
namespace Go.Den
open Go.RowKit
variable {ds : List Deferred}
def Same (B : List Nat) (W W' : World) : Prop := W.heap.size ≤ W'.heap.size ∧ ∀ k ∈ B, W'.heap[k]? = W.heap[k]?
structure Grw (w w' : World) : Prop where
 os : w'.os = w.os
 tape : w'.tape = w.tape
 output : w'.output = w.output
 size : w.heap.size ≤ w'.heap.size
 block : ∀ k, k < w.heap.size → w'.heap[k]? = w.heap[k]?
structure Trn (l : Nat) (w w' : World) : Prop where
 os : w'.os = w.os
 tape : w'.tape = w.tape
 output : w'.output = w.output
 size : w.heap.size ≤ w'.heap.size
 block : ∀ k, k < w.heap.size → k ≠ l → w'.heap[k]? = w.heap[k]?
section
variable {P : Program} {N : Nat} {H : Hints} {R : List (Nat × Kd)}
end
end Go.Den
end

section
namespace Go.Den
open Go.RowKit
structure Thing where
 holds : World → List Nat → Prop
 fr : ∀ {S : List Nat} {w w' : World} {O : List Nat}, holds w O → Fr S w w' → (∀ k ∈ O, k ∉ S) → holds w' O
 lt : ∀ {w : World} {O : List Nat}, holds w O → ∀ k ∈ O, k < w.heap.size
 own : Bool := true
def Thing.ro (t : Thing) : Thing := { t with own := false }
structure Hp (S : List Nat) (w0 w : World) (its : List Thing) : Prop where
 fr : Fr S w0 w
 ex : ∃ F : Nat → List Nat, (∀ i t, its[i]? = some t → t.holds w (F i) ∧ (t.own = true → ∀ k ∈ F i, k ∈ S ∨ w0.heap.size ≤ k) ∧ (t.own = false → ∀ k ∈ F i, k ∉ S ∧ k < w0.heap.size)) ∧
  ∀ i j t u, its[i]? = some t → its[j]? = some u → i ≠ j → t.own = true → u.own = true → ∀ k ∈ F i, k ∉ F j
namespace Hp
variable {S : List Nat} {w0 w : World} {its : List Thing}
theorem init (w : World) : Hp S w w [] := ⟨Fr.refl _ _, fun _ => [], by simp, by simp⟩
theorem grow (h : Hp S w0 w its) {w' : World} {t : Thing} {O : List Nat} (hf : Fr [] w w') (ht : t.holds w' O) (hO : ∀ k ∈ O, w.heap.size ≤ k) (ho : t.own = true) : Hp S w0 w' (its ++ [t]) := by
 obtain ⟨hfr, F, h1, h2⟩ := h
 have hs := hfr.size
 have key : ∀ i u, (its ++ [t])[i]? = some u → (i < its.length ∧ its[i]? = some u) ∨ (i = its.length ∧ u = t) := by
  intro i u hi
  by_cases hlt : i < its.length
  ·rw [List.getElem?_append_left hlt] at hi; exact .inl ⟨hlt, hi⟩
  ·rw [List.getElem?_append_right (by omega)] at hi
   have : i - its.length = 0 := by
    rcases Nat.eq_zero_or_pos (i - its.length) with h | h
    ·exact h
    ·rw [List.getElem?_eq_none (by simp; omega)] at hi; cases hi
   rw [this] at hi
   simp only [List.getElem?_cons_zero, Option.some.injEq] at hi
   exact .inr ⟨by omega, hi.symm⟩
 refine ⟨hfr.trans hf (by simp), fun i => if i = its.length then O else F i, ?_, ?_⟩
 ·intro i u hi
  rcases key i u hi with ⟨hlt, hi'⟩ | ⟨rfl, rfl⟩
  ·dsimp only
   rw [if_neg (by omega)]
   obtain ⟨g1, g2, g3⟩ := h1 i u hi'
   exact ⟨u.fr g1 hf (by simp), g2, g3⟩
  ·dsimp only
   rw [if_pos rfl]
   exact ⟨ht, fun _ k hk => .inr (Nat.le_trans hs (hO k hk)), fun h => by rw [ho] at h; cases h⟩
 ·intro i j u v hi hj hne hu hv k hk
  rcases key i u hi with ⟨hlt, hi'⟩ | ⟨rfl, rfl⟩
  ·rcases key j v hj with ⟨hlt', hj'⟩ | ⟨rfl, rfl⟩
   ·simp only [if_neg (show ¬ i = its.length by omega), if_neg (show ¬ j = its.length by omega)] at hk ⊢
    exact h2 i j u v hi' hj' hne hu hv k hk
   ·simp only [if_neg (show ¬ i = its.length by omega), if_true] at hk ⊢
    intro hk'
    have := u.lt (h1 i u hi').1 k hk
    have := hO k hk'
    omega
  ·rcases key j v hj with ⟨hlt', hj'⟩ | ⟨rfl, rfl⟩
   ·simp only [if_neg (show ¬ j = its.length by omega), if_true] at hk ⊢
    intro hk'
    have := v.lt (h1 j v hj').1 k hk'
    have := hO k hk
    omega
   ·exact absurd rfl hne
theorem keep (h : Hp S w0 w its) {w' : World} (hf : Fr [] w w') : Hp S w0 w' its := by
 obtain ⟨hfr, F, h1, h2⟩ := h
 exact ⟨hfr.trans hf (by simp), F, fun i t hi => ⟨t.fr (h1 i t hi).1 hf (by simp), (h1 i t hi).2⟩, h2⟩
theorem step (h : Hp S w0 w its) {i : Nat} {t : Thing} (hi : its[i]? = some t) (ho : t.own = true) :
  ∃ O, t.holds w O ∧ ∀ {w' : World} {t' : Thing} {O' : List Nat}, Fr O w w' → t'.holds w' O' → (∀ k ∈ O', k ∈ O ∨ w.heap.size ≤ k) → t'.own = true → Hp S w0 w' (its.set i t') := by
 obtain ⟨hfr, F, h1, h2⟩ := h
 obtain ⟨g1, g2, g3⟩ := h1 i t hi
 refine ⟨F i, g1, fun {w' t' O'} hf ht' hO' ho' => ?_⟩
 have hlt := (List.getElem?_eq_some_iff.1 hi).1
 have key : ∀ j u, (its.set i t')[j]? = some u → (j ≠ i ∧ its[j]? = some u) ∨ (j = i ∧ u = t') := by
  intro j u hj
  rw [List.getElem?_set] at hj
  split at hj
  ·rename_i e
   simp only [if_pos hlt, Option.some.injEq] at hj
   exact .inr ⟨e.symm, hj.symm⟩
  ·rename_i e; exact .inl ⟨fun h => e h.symm, hj⟩
 have hs := hfr.size
 have apart : ∀ j u, j ≠ i → its[j]? = some u → ∀ k ∈ F j, k ∉ F i := by
  intro j u hne hj k hk hki
  cases huo : u.own with
  | true => exact h2 j i u t hj hi hne huo ho k hk hki
  | false =>
   obtain ⟨_, q2, q3⟩ := h1 j u hj
   have q := q3 huo k hk
   rcases g2 ho k hki with h | h
   ·exact q.1 h
   ·omega
 refine ⟨hfr.trans hf (g2 ho), fun j => if j = i then O' else F j, ?_, ?_⟩
 ·intro j u hj
  rcases key j u hj with ⟨hne, hjj⟩ | ⟨rfl, rfl⟩
  ·dsimp only
   rw [if_neg hne]
   obtain ⟨q1, q2⟩ := h1 j u hjj
   exact ⟨u.fr q1 hf (apart j u hne hjj), q2⟩
  ·dsimp only
   rw [if_pos rfl]
   refine ⟨ht', fun _ k hk => ?_, fun h => by rw [ho'] at h; cases h⟩
   rcases hO' k hk with h | h
   ·exact g2 ho k h
   ·exact .inr (Nat.le_trans hs h)
 ·intro j j' u v hj hj' hne hu hv k hk
  rcases key j u hj with ⟨hn, hjj⟩ | ⟨rfl, rfl⟩
  ·rcases key j' v hj' with ⟨hn', hjj'⟩ | ⟨rfl, rfl⟩
   ·simp only [if_neg hn, if_neg hn'] at hk ⊢
    exact h2 j j' u v hjj hjj' hne hu hv k hk
   ·simp only [if_neg hn, if_true] at hk ⊢
    intro hk'
    rcases hO' k hk' with h | h
    ·exact apart j u hn hjj k hk h
    ·have := u.lt (h1 j u hjj).1 k hk; omega
  ·rcases key j' v hj' with ⟨hn', hjj'⟩ | ⟨rfl, rfl⟩
   ·simp only [if_neg hn', if_true] at hk ⊢
    intro hk'
    rcases hO' k hk with h | h
    ·exact apart j' v hn' hjj' k hk' h
    ·have := v.lt (h1 j' v hjj').1 k hk'; omega
   ·exact absurd rfl hne
theorem see (h : Hp S w0 w its) {i : Nat} {t : Thing} (hi : its[i]? = some t) : ∃ O, t.holds w O := by
 obtain ⟨hfr, F, h1, h2⟩ := h
 exact ⟨_, (h1 i t hi).1⟩
theorem weak (h : Hp S w0 w its) {i : Nat} {t : Thing} (hi : its[i]? = some t) (ho : t.own = true) {t' : Thing} (himp : ∀ w O, t.holds w O → t'.holds w O) (ho' : t'.own = true) : Hp S w0 w (its.set i t') := by
 obtain ⟨O, hO, back⟩ := h.step hi ho
 exact back (Fr.refl _ _) (himp _ _ hO) (fun k hk => .inl hk) ho'
theorem addRo (h : Hp S w0 w its) {t : Thing} {O : List Nat} (ht : t.holds w0 O) (hO : ∀ k ∈ O, k ∉ S) : Hp S w0 w (its ++ [t.ro]) := by
 obtain ⟨hfr, F, h1, h2⟩ := h
 have key : ∀ i u, (its ++ [t.ro])[i]? = some u → (i < its.length ∧ its[i]? = some u) ∨ (i = its.length ∧ u = t.ro) := by
  intro i u hi
  by_cases hlt : i < its.length
  ·rw [List.getElem?_append_left hlt] at hi; exact .inl ⟨hlt, hi⟩
  ·rw [List.getElem?_append_right (by omega)] at hi
   have : i - its.length = 0 := by
    rcases Nat.eq_zero_or_pos (i - its.length) with h | h
    ·exact h
    ·rw [List.getElem?_eq_none (by simp; omega)] at hi; cases hi
   rw [this] at hi
   simp only [List.getElem?_cons_zero, Option.some.injEq] at hi
   exact .inr ⟨by omega, hi.symm⟩
 refine ⟨hfr, fun i => if i = its.length then O else F i, ?_, ?_⟩
 ·intro i u hi
  rcases key i u hi with ⟨hlt, hi'⟩ | ⟨rfl, rfl⟩
  ·dsimp only
   rw [if_neg (by omega)]; exact h1 i u hi'
  ·dsimp only
   rw [if_pos rfl]
   exact ⟨t.fr ht hfr hO, fun h => (by cases h), fun _ k hk => ⟨hO k hk, t.lt ht k hk⟩⟩
 ·intro i j u v hi hj hne hu hv k hk
  rcases key i u hi with ⟨hlt, hi'⟩ | ⟨rfl, rfl⟩
  ·rcases key j v hj with ⟨hlt', hj'⟩ | ⟨rfl, rfl⟩
   ·simp only [if_neg (show ¬ i = its.length by omega), if_neg (show ¬ j = its.length by omega)] at hk ⊢
    exact h2 i j u v hi' hj' hne hu hv k hk
   ·cases hv
  ·cases hu
theorem sel (h : Hp S w0 w its) (js : List Nat) (hnd : js.Nodup) {ts : List Thing} (hl : ts.length = js.length) (hts : ∀ n j : Nat, js[n]? = some j → its[j]? = ts[n]?) : Hp S w0 w ts := by
 obtain ⟨hfr, F, h1, h2⟩ := h
 have key : ∀ (n : Nat) (t : Thing), ts[n]? = some t → ∃ j, js[n]? = some j ∧ its[j]? = some t := by
  intro n t hn
  have hlt := (List.getElem?_eq_some_iff.1 hn).1
  refine ⟨js[n], by simp [show n < js.length by omega], ?_⟩
  rw [hts n js[n] (by simp [show n < js.length by omega]), hn]
 refine ⟨hfr, fun n => F (js.getD n 0), ?_, ?_⟩
 ·intro n t hn
  obtain ⟨j, hj, ht⟩ := key n t hn
  have e : js.getD n 0 = j := by simp [hj]
  simp only [e]
  exact h1 j t ht
 ·intro n m t u hn hm hne ht hu
  obtain ⟨j, hj, hjt⟩ := key n t hn
  obtain ⟨j', hj', hjt'⟩ := key m u hm
  have e : js.getD n 0 = j := by simp [hj]
  have e' : js.getD m 0 = j' := by simp [hj']
  simp only [e, e']
  refine h2 j j' t u hjt hjt' ?_ ht hu
  intro he
  subst he
  exact hne ((List.getElem?_inj (by obtain ⟨h, _⟩ := List.getElem?_eq_some_iff.1 hj; exact h) hnd).1 (hj.trans hj'.symm))
theorem sel1 (h : Hp S w0 w its) (i : Nat) {t : Thing} (hi : its[i]? = some t) : Hp S w0 w [t] :=
 h.sel [i] (by simp) rfl (fun n j hn => by
  match n, hn with
  | 0, hn => simp only [List.getElem?_cons_zero, Option.some.injEq] at hn; subst hn; simpa using hi)
theorem sel4 (h : Hp S w0 w its) (i j k l : Nat) (hne : [i, j, k, l].Nodup) {t u v x : Thing} (hi : its[i]? = some t) (hj : its[j]? = some u) (hk : its[k]? = some v) (hl : its[l]? = some x) : Hp S w0 w [t, u, v, x] :=
 h.sel [i, j, k, l] hne rfl (fun n m hn => by
  match n, hn with
  | 0, hn => simp only [List.getElem?_cons_zero, Option.some.injEq] at hn; subst hn; simpa using hi
  | 1, hn => simp only [List.getElem?_cons_succ, List.getElem?_cons_zero, Option.some.injEq] at hn; subst hn; simpa using hj
  | 2, hn => simp only [List.getElem?_cons_succ, List.getElem?_cons_zero, Option.some.injEq] at hn; subst hn; simpa using hk
  | 3, hn => simp only [List.getElem?_cons_succ, List.getElem?_cons_zero, Option.some.injEq] at hn; subst hn; simpa using hl)
theorem sel5 (h : Hp S w0 w its) (i j k l m : Nat) (hne : [i, j, k, l, m].Nodup) {t u v x y : Thing} (hi : its[i]? = some t) (hj : its[j]? = some u) (hk : its[k]? = some v) (hl : its[l]? = some x) (hm : its[m]? = some y) : Hp S w0 w [t, u, v, x, y] :=
 h.sel [i, j, k, l, m] hne rfl (fun n m hn => by
  match n, hn with
  | 0, hn => simp only [List.getElem?_cons_zero, Option.some.injEq] at hn; subst hn; simpa using hi
  | 1, hn => simp only [List.getElem?_cons_succ, List.getElem?_cons_zero, Option.some.injEq] at hn; subst hn; simpa using hj
  | 2, hn => simp only [List.getElem?_cons_succ, List.getElem?_cons_zero, Option.some.injEq] at hn; subst hn; simpa using hk
  | 3, hn => simp only [List.getElem?_cons_succ, List.getElem?_cons_zero, Option.some.injEq] at hn; subst hn; simpa using hl
  | 4, hn => simp only [List.getElem?_cons_succ, List.getElem?_cons_zero, Option.some.injEq] at hn; subst hn; simpa using hm)
theorem front {a b : List Thing} (h : Hp S w0 w (a ++ b)) : Hp S w0 w a := by
 obtain ⟨hfr, F, h1, h2⟩ := h
 have key : ∀ (i : Nat) (t : Thing), a[i]? = some t → (a ++ b)[i]? = some t := fun i t hi => by
  rw [List.getElem?_append_left (List.getElem?_eq_some_iff.1 hi).1]; exact hi
 exact ⟨hfr, F, fun i t hi => h1 i t (key i t hi), fun i j t u hi hj => h2 i j t u (key i t hi) (key j u hj)⟩
def setL (its : List Thing) : List Nat → List Thing → List Thing
 | i :: is, t :: ts => setL (its.set i t) is ts
 | _, _ => its
theorem setL_length : ∀ (is : List Nat) (ts its : List Thing), (setL its is ts).length = its.length
 | [], _, _ => by simp [setL]
 | i :: is, [], _ => by simp [setL]
 | i :: is, t :: ts, its => by simp [setL, setL_length is ts]
theorem setL_other : ∀ (is : List Nat) (ts its : List Thing) (j : Nat), j ∉ is → (setL its is ts)[j]? = its[j]?
 | [], _, _, _, _ => by simp [setL]
 | i :: is, [], _, _, _ => by simp [setL]
 | i :: is, t :: ts, its, j, h => by
  simp only [List.mem_cons, not_or] at h
  rw [setL, setL_other is ts _ j h.2, List.getElem?_set_ne (fun e => h.1 e.symm)]
theorem setL_at : ∀ (is : List Nat) (ts its : List Thing) (n j : Nat), is.Nodup → is[n]? = some j → j < its.length → n < ts.length → (setL its is ts)[j]? = ts[n]?
 | [], _, _, _, _, _, h, _, _ => by simp at h
 | i :: is, [], _, n, _, _, _, _, h => by simp at h
 | i :: is, t :: ts, its, n, j, hnd, hn, hj, hl => by
  obtain ⟨h1, h2⟩ := List.nodup_cons.1 hnd
  cases n with
  | zero =>
   simp only [List.getElem?_cons_zero, Option.some.injEq] at hn
   subst hn
   rw [setL, setL_other is ts _ i h1]
   simp [hj]
  | succ n =>
   simp only [List.getElem?_cons_succ] at hn ⊢
   rw [setL]
   exact setL_at is ts _ n j h2 hn (by simpa using hj) (by simpa using hl)
theorem frame (h : Hp S w0 w its) (is js : List Nat) (hnd : is.Nodup) (hdis : ∀ i ∈ is, i ∉ js) {ts us : List Thing} (hl : ts.length = is.length) (hl' : us.length = js.length)
  (hts : ∀ n i : Nat, is[n]? = some i → its[i]? = ts[n]?) (hus : ∀ n i : Nat, js[n]? = some i → its[i]? = us[n]?) (hown : ∀ t ∈ ts, t.own = true) :
  ∃ O, Hp O w w (ts ++ us.map Thing.ro) ∧ ∀ {w' : World} {ts' rest : List Thing}, ts'.length = ts.length → (∀ t ∈ ts', t.own = true) → (∀ t ∈ rest, t.own = true) → Hp O w w' (ts' ++ rest) → Hp S w0 w' (setL its is ts' ++ rest) := by
 obtain ⟨hfr, F, h1, h2⟩ := h
 have hs := hfr.size
 have key : ∀ (n : Nat) (t : Thing), ts[n]? = some t → ∃ j, is[n]? = some j ∧ its[j]? = some t := by
  intro n t hn
  have hlt := (List.getElem?_eq_some_iff.1 hn).1
  refine ⟨is[n], by simp [show n < is.length by omega], ?_⟩
  rw [hts n is[n] (by simp [show n < is.length by omega]), hn]
 have key' : ∀ (n : Nat) (t : Thing), us[n]? = some t → ∃ j, js[n]? = some j ∧ its[j]? = some t := by
  intro n t hn
  have hlt := (List.getElem?_eq_some_iff.1 hn).1
  refine ⟨js[n], by simp [show n < js.length by omega], ?_⟩
  rw [hus n js[n] (by simp [show n < js.length by omega]), hn]
 have hisown : ∀ i ∈ is, ∃ t, its[i]? = some t ∧ t.own = true := by
  intro i hi
  obtain ⟨n, hn⟩ := List.getElem?_of_mem hi
  have hlt := (List.getElem?_eq_some_iff.1 hn).1
  have hnt : ts[n]? = some ts[n] := by simp [show n < ts.length by omega]
  exact ⟨ts[n], (hts n i hn).trans hnt, hown _ (by simp)⟩
 have hO : ∀ k, k ∈ is.flatMap F ↔ ∃ i ∈ is, k ∈ F i := fun k => List.mem_flatMap
 -- who is not among them has other blocks
 have apart : ∀ j u, its[j]? = some u → j ∉ is → ∀ k ∈ F j, k ∉ is.flatMap F := by
  intro j u hj hji k hk hkO
  obtain ⟨i, hi, hki⟩ := (hO k).1 hkO
  obtain ⟨t, ht, hto⟩ := hisown i hi
  have hne : j ≠ i := fun e => hji (e ▸ hi)
  cases huo : u.own with
  | true => exact h2 j i u t hj ht hne huo hto k hk hki
  | false =>
   have q := (h1 j u hj).2.2 huo k hk
   rcases (h1 i t ht).2.1 hto k hki with h | h
   ·exact q.1 h
   ·omega
 refine ⟨is.flatMap F, ⟨Fr.refl _ _, fun n => if n < ts.length then F (is.getD n 0) else F (js.getD (n - ts.length) 0), ?_, ?_⟩, ?_⟩
 ·intro n t hn
  by_cases hlt : n < ts.length
  ·rw [List.getElem?_append_left hlt] at hn
   obtain ⟨j, hj, ht⟩ := key n t hn
   have e : is.getD n 0 = j := by simp [hj]
   simp only [if_pos hlt, e]
   refine ⟨(h1 j t ht).1, fun _ k hk => .inl ((hO k).2 ⟨j, List.mem_of_getElem? hj, hk⟩), fun ho => ?_⟩
   rw [hown t (List.mem_of_getElem? hn)] at ho; cases ho
  ·rw [List.getElem?_append_right (by omega), List.getElem?_map, Option.map_eq_some_iff] at hn
   obtain ⟨u, hu, rfl⟩ := hn
   obtain ⟨j, hj, ht⟩ := key' _ u hu
   have e : js.getD (n - ts.length) 0 = j := by simp [hj]
   simp only [if_neg hlt, e]
   refine ⟨(h1 j u ht).1, fun h => (by cases h), fun _ k hk => ⟨apart j u ht (fun hm => hdis j hm (List.mem_of_getElem? hj)) k hk, u.lt (h1 j u ht).1 k hk⟩⟩
 ·intro n m t u hn hm hne ht hu k hk
  have low : ∀ n t, (ts ++ us.map Thing.ro)[n]? = some t → t.own = true → n < ts.length := by
   intro n t hn ht
   refine Nat.lt_of_not_le fun hge => ?_
   rw [List.getElem?_append_right hge, List.getElem?_map, Option.map_eq_some_iff] at hn
   obtain ⟨u, hu, rfl⟩ := hn
   cases ht
  have ln := low n t hn ht
  have lm := low m u hm hu
  rw [List.getElem?_append_left ln] at hn
  rw [List.getElem?_append_left lm] at hm
  obtain ⟨j, hj, hjt⟩ := key n t hn
  obtain ⟨j', hj', hjt'⟩ := key m u hm
  have e : is.getD n 0 = j := by simp [hj]
  have e' : is.getD m 0 = j' := by simp [hj']
  simp only [if_pos ln, if_pos lm, e, e'] at hk ⊢
  refine h2 j j' t u hjt hjt' ?_ ht hu k hk
  intro he
  subst he
  exact hne ((List.getElem?_inj (by obtain ⟨h, _⟩ := List.getElem?_eq_some_iff.1 hj; exact h) hnd).1 (hj.trans hj'.symm))
 ·intro w' ts' rest hlen hown' hrest hp
  obtain ⟨pfr, G, p1, p2⟩ := hp
  -- the things of the rest of the world
  have hnl : ∀ n, n < ts.length → ∃ j t, is[n]? = some j ∧ ts'[n]? = some t := fun n hn =>
   ⟨is[n], ts'[n], by simp [show n < is.length by omega], by simp [show n < ts'.length by omega]⟩
  let idx : Nat → Nat := fun j => is.idxOf j
  have hidx : ∀ j ∈ is, is[is.idxOf j]? = some j := fun j hj => by
   have := List.idxOf_lt_length_iff.2 hj
   simp [this]
  have hlenL := setL_length is ts' its
  let G' : Nat → List Nat := fun j => if j < its.length then (if j ∈ is then G (is.idxOf j) else F j) else G (ts'.length + (j - its.length))
  have cls : ∀ j u, (setL its is ts' ++ rest)[j]? = some u → (j < its.length ∧ j ∈ is ∧ u.own = true ∧ u.holds w' (G (is.idxOf j)) ∧ (∀ k ∈ G (is.idxOf j), k ∈ is.flatMap F ∨ w.heap.size ≤ k) ∧ (ts' ++ rest)[is.idxOf j]? = some u) ∨
    (j < its.length ∧ j ∉ is ∧ its[j]? = some u) ∨ (its.length ≤ j ∧ u.own = true ∧ (ts' ++ rest)[ts'.length + (j - its.length)]? = some u) := by
   intro j u hj
   by_cases hlt : j < its.length
   ·rw [List.getElem?_append_left (by omega)] at hj
    by_cases hm : j ∈ is
    ·refine .inl ⟨hlt, hm, ?_⟩
     have hi := hidx j hm
     have hil : is.idxOf j < ts'.length := by have := List.idxOf_lt_length_iff.2 hm; omega
     rw [setL_at is ts' its _ j hnd hi hlt hil] at hj
     have hj2 : (ts' ++ rest)[is.idxOf j]? = some u := by
      rw [List.getElem?_append_left hil]; exact hj
     have hu := hown' u (List.mem_of_getElem? hj)
     obtain ⟨q1, q2, _⟩ := p1 _ u hj2
     exact ⟨hu, q1, q2 hu, hj2⟩
    ·rw [setL_other is ts' its j hm] at hj
     exact .inr (.inl ⟨hlt, hm, hj⟩)
   ·rw [List.getElem?_append_right (by omega), hlenL] at hj
    refine .inr (.inr ⟨by omega, hrest u (List.mem_of_getElem? hj), ?_⟩)
    rw [List.getElem?_append_right (by omega), Nat.add_sub_cancel_left]
    exact hj
  have hout : ∀ k, k ∈ is.flatMap F → k ∈ S ∨ w0.heap.size ≤ k := by
   intro k hk
   obtain ⟨i, hi, hki⟩ := (hO k).1 hk
   obtain ⟨t, ht, hto⟩ := hisown i hi
   exact (h1 i t ht).2.1 hto k hki
  refine ⟨hfr.trans pfr hout, G', ?_, ?_⟩
  ·intro j u hj
   rcases cls j u hj with ⟨hlt, hm, hu, q1, q2, _⟩ | ⟨hlt, hm, hj'⟩ | ⟨hge, hu, hj'⟩
   ·have e : G' j = G (is.idxOf j) := by simp only [G', if_pos hlt, if_pos hm]
    rw [e]
    refine ⟨q1, fun _ k hk => ?_, fun h => by rw [hu] at h; cases h⟩
    rcases q2 k hk with h | h
    ·exact hout k h
    ·exact .inr (Nat.le_trans hs h)
   ·have e : G' j = F j := by simp only [G', if_pos hlt, if_neg hm]
    rw [e]
    obtain ⟨q1, q2⟩ := h1 j u hj'
    exact ⟨u.fr q1 pfr (apart j u hj' hm), q2⟩
   ·have e : G' j = G (ts'.length + (j - its.length)) := by simp only [G', if_neg (show ¬ j < its.length by omega)]
    rw [e]
    obtain ⟨q1, q2, _⟩ := p1 _ u hj'
    refine ⟨q1, fun _ k hk => ?_, fun h => by rw [hu] at h; cases h⟩
    rcases q2 hu k hk with h | h
    ·exact hout k h
    ·exact .inr (Nat.le_trans hs h)
  ·intro i j t u hi hj hne ht hu k hk hk'
   rcases cls i t hi with ⟨hlt, hm, hto, q1, q2, q3⟩ | ⟨hlt, hm, hi'⟩ | ⟨hge, hto, hi'⟩
   ·have e : G' i = G (is.idxOf i) := by simp only [G', if_pos hlt, if_pos hm]
    rw [e] at hk
    rcases cls j u hj with ⟨hlt', hm', huo, r1, r2, r3⟩ | ⟨hlt', hm', hj'⟩ | ⟨hge', huo, hj'⟩
    ·have e' : G' j = G (is.idxOf j) := by simp only [G', if_pos hlt', if_pos hm']
     rw [e'] at hk'
     refine p2 _ _ t u q3 r3 ?_ ht hu k hk hk'
     intro he
     have a1 := hidx i hm
     have a2 := hidx j hm'
     rw [he] at a1
     exact hne (Option.some.inj (a1.symm.trans a2))
    ·have e' : G' j = F j := by simp only [G', if_pos hlt', if_neg hm']
     rw [e'] at hk'
     rcases q2 k hk with h | h
     ·exact apart j u hj' hm' k hk' h
     ·have := u.lt (h1 j u hj').1 k hk'; omega
    ·have e' : G' j = G (ts'.length + (j - its.length)) := by simp only [G', if_neg (show ¬ j < its.length by omega)]
     rw [e'] at hk'
     have := List.idxOf_lt_length_iff.2 hm
     exact p2 _ _ t u q3 hj' (by omega) ht hu k hk hk'
   ·have e : G' i = F i := by simp only [G', if_pos hlt, if_neg hm]
    rw [e] at hk
    rcases cls j u hj with ⟨hlt', hm', huo, r1, r2, r3⟩ | ⟨hlt', hm', hj'⟩ | ⟨hge', huo, hj'⟩
    ·have e' : G' j = G (is.idxOf j) := by simp only [G', if_pos hlt', if_pos hm']
     rw [e'] at hk'
     rcases r2 k hk' with h | h
     ·exact apart i t hi' hm k hk h
     ·have := t.lt (h1 i t hi').1 k hk; omega
    ·have e' : G' j = F j := by simp only [G', if_pos hlt', if_neg hm']
     rw [e'] at hk'
     exact h2 i j t u hi' hj' hne ht hu k hk hk'
    ·have e' : G' j = G (ts'.length + (j - its.length)) := by simp only [G', if_neg (show ¬ j < its.length by omega)]
     rw [e'] at hk'
     rcases (p1 _ u hj').2.1 huo k hk' with h | h
     ·exact apart i t hi' hm k hk h
     ·have := t.lt (h1 i t hi').1 k hk; omega
   ·have e : G' i = G (ts'.length + (i - its.length)) := by simp only [G', if_neg (show ¬ i < its.length by omega)]
    rw [e] at hk
    rcases cls j u hj with ⟨hlt', hm', huo, r1, r2, r3⟩ | ⟨hlt', hm', hj'⟩ | ⟨hge', huo, hj'⟩
    ·have e' : G' j = G (is.idxOf j) := by simp only [G', if_pos hlt', if_pos hm']
     rw [e'] at hk'
     have := List.idxOf_lt_length_iff.2 hm'
     exact p2 _ _ t u hi' r3 (by omega) ht hu k hk hk'
    ·have e' : G' j = F j := by simp only [G', if_pos hlt', if_neg hm']
     rw [e'] at hk'
     rcases (p1 _ t hi').2.1 hto k hk with h | h
     ·exact apart j u hj' hm' k hk' h
     ·have := u.lt (h1 j u hj').1 k hk'; omega
    ·have e' : G' j = G (ts'.length + (j - its.length)) := by simp only [G', if_neg (show ¬ j < its.length by omega)]
     rw [e'] at hk'
     exact p2 _ _ t u hi' hj' (by omega) ht hu k hk hk'
end Hp
def tBlk (b : Nat) (e : TypeId) (c : List Value) : Thing :=
  { holds := fun w O => Blk w b e c ∧ O = [b]
    fr := fun h hf hn => ⟨h.1.fr hf (hn b (by rw [h.2]; simp)), h.2⟩
    lt := fun h k hk => by rw [h.2] at hk; simp only [List.mem_singleton] at hk; subst hk; exact h.1.lt }
def tSl {α : Type} (s : Sl) (e : TypeId) (n : Nat) (f : α → List Value) (l : List α) : Thing :=
  { holds := fun w O => SlF w s e n f l O
    fr := fun h hf hn => h.fr hf hn
    lt := fun h => h.lt }
def tRd {α : Type} (s : Sl) (n : Nat) (f : α → List Value) (l : List α) : Thing :=
  { holds := fun w O => SlR w s n f l O
    fr := fun h hf hn => h.fr hf hn
    lt := fun h => h.lt }
def tEmp : Thing :=
  { holds := fun w O => O = []
    fr := fun h _ _ => h
    lt := fun h k hk => by rw [h] at hk; cases hk }
def tStar (a b : Thing) : Thing :=
  { holds := fun w O => ∃ O1 O2, a.holds w O1 ∧ b.holds w O2 ∧ (∀ k ∈ O1, k ∉ O2) ∧ ∀ k, k ∈ O ↔ k ∈ O1 ∨ k ∈ O2
    fr := fun ⟨O1, O2, h1, h2, h3, h4⟩ hf hn => ⟨O1, O2, a.fr h1 hf (fun k hk => hn k ((h4 k).2 (.inl hk))), b.fr h2 hf (fun k hk => hn k ((h4 k).2 (.inr hk))), h3, h4⟩
    lt := fun ⟨O1, O2, h1, h2, h3, h4⟩ k hk => ((h4 k).1 hk).elim (a.lt h1 k) (b.lt h2 k) }
def tEx {α : Type} (f : α → Thing) : Thing :=
  { holds := fun w O => ∃ x, (f x).holds w O
    fr := fun ⟨x, h⟩ hf hn => ⟨x, (f x).fr h hf hn⟩
    lt := fun ⟨x, h⟩ => (f x).lt h }
def tAnd (p : Prop) (t : Thing) : Thing :=
  { holds := fun w O => p ∧ t.holds w O
    fr := fun ⟨x, h⟩ hf hn => ⟨x, t.fr h hf hn⟩
    lt := fun ⟨x, h⟩ => t.lt h }
def tAll : List Thing → Thing
 | [] => tEmp
 | t :: ts => tStar t (tAll ts)
theorem tAll_own : ∀ ts : List Thing, (tAll ts).own = true
 | [] => rfl
 | _ :: _ => rfl
def Stamps (L : List Nat) (clock : Nat) : Prop := L.Nodup ∧ ∀ x ∈ L, x < clock
def MapAt (w : World) (b : Nat) (l : List (Value × Value)) : Prop :=
 ∃ es clock, w.heap[b]? = some (.map es clock) ∧ es.toList.map (fun e => (e.key, e.val)) = l ∧ Stamps (es.toList.map (·.born)) clock
def tMap (b : Nat) (l : List (Value × Value)) : Thing :=
  { holds := fun w O => MapAt w b l ∧ O = [b]
    fr := fun {S w w' O} h hf hn => by
      obtain ⟨⟨es, clock, h1, h2⟩, rfl⟩ := h
      exact ⟨⟨es, clock, (hf.block b (Array.getElem?_eq_some_iff.1 h1).1 (hn b (by simp))).trans h1, h2⟩, rfl⟩
    lt := fun {w O} h k hk => by
      obtain ⟨⟨es, clock, h1, h2⟩, rfl⟩ := h
      simp only [List.mem_singleton] at hk
      subst hk
      exact (Array.getElem?_eq_some_iff.1 h1).1 }
theorem tAll_pick : ∀ {ts : List Thing} {k : Nat} {t : Thing} {w : World} {O : List Nat}, ts[k]? = some t → (tAll ts).holds w O →
  ∃ O1 O2, t.holds w O1 ∧ (tAll (ts.set k tEmp)).holds w O2 ∧ (∀ k ∈ O1, k ∉ O2) ∧ ∀ k, k ∈ O ↔ k ∈ O1 ∨ k ∈ O2
 | [], k, t, w, O, hk, h => by simp at hk
 | u :: ts, 0, t, w, O, hk, h => by
  simp only [List.getElem?_cons_zero, Option.some.injEq] at hk
  subst hk
  obtain ⟨O1, O2, h1, h2, h3, h4⟩ := h
  refine ⟨O1, O2, h1, ⟨[], O2, rfl, h2, by simp, by simp⟩, h3, h4⟩
 | u :: ts, k + 1, t, w, O, hk, h => by
  obtain ⟨O1, O2, h1, h2, h3, h4⟩ := h
  obtain ⟨P1, P2, g1, g2, g3, g4⟩ := tAll_pick (k := k) (t := t) (by simpa using hk) h2
  refine ⟨P1, O1 ++ P2, g1, ⟨O1, P2, h1, g2, fun k hk hk' => h3 k hk ((g4 k).2 (.inr hk')), by simp⟩, ?_, ?_⟩
  ·intro k hk hk'
   rcases List.mem_append.1 hk' with h | h
   ·exact h3 k h ((g4 k).2 (.inl hk))
   ·exact g3 k hk h
  ·intro k
   rw [h4, g4, List.mem_append]
   constructor
   ·rintro (h | h | h)
    ·exact .inr (.inl h)
    ·exact .inl h
    ·exact .inr (.inr h)
   ·rintro (h | h | h)
    ·exact .inr (.inl h)
    ·exact .inl h
    ·exact .inr (.inr h)
theorem tAll_put : ∀ {ts : List Thing} {k : Nat} {t : Thing} {w : World} {O1 O2 : List Nat}, ts[k]? = some tEmp → t.holds w O1 → (tAll ts).holds w O2 → (∀ k ∈ O1, k ∉ O2) → (tAll (ts.set k t)).holds w (O1 ++ O2)
 | [], k, t, w, O1, O2, hk, _, _, _ => by simp at hk
 | u :: ts, 0, t, w, O1, O2, hk, h1, h2, h3 => by
  simp only [List.getElem?_cons_zero, Option.some.injEq] at hk
  subst hk
  obtain ⟨P1, P2, g1, g2, g3, g4⟩ := h2
  have g1' : P1 = [] := g1
  subst g1'
  exact ⟨O1, P2, h1, g2, fun k hk hk' => h3 k hk ((g4 k).2 (.inr hk')), fun k => by rw [List.mem_append, g4]; simp⟩
 | u :: ts, k + 1, t, w, O1, O2, hk, h1, h2, h3 => by
  obtain ⟨P1, P2, g1, g2, g3, g4⟩ := h2
  have ih := tAll_put (k := k) (t := t) (by simpa using hk) h1 g2 (fun k hk hk' => h3 k hk ((g4 k).2 (.inr hk')))
  refine ⟨P1, O1 ++ P2, g1, ih, ?_, ?_⟩
  ·intro k hk hk'
   rcases List.mem_append.1 hk' with h | h
   ·exact h3 k h ((g4 k).2 (.inl hk))
   ·exact g3 k hk h
  ·intro k
   rw [List.mem_append, g4, List.mem_append]
   constructor
   ·rintro (h | h | h)
    ·exact .inr (.inl h)
    ·exact .inl h
    ·exact .inr (.inr h)
   ·rintro (h | h | h)
    ·exact .inr (.inl h)
    ·exact .inl h
    ·exact .inr (.inr h)
theorem tAll_append : ∀ {ts us : List Thing} {w : World} {O1 O2 : List Nat}, (tAll ts).holds w O1 → (tAll us).holds w O2 → (∀ k ∈ O1, k ∉ O2) → (tAll (ts ++ us)).holds w (O1 ++ O2)
 | [], us, w, O1, O2, h1, h2, _ => by
  have : O1 = [] := h1
  subst this
  simpa using h2
 | t :: ts, us, w, O1, O2, h1, h2, h3 => by
  obtain ⟨P1, P2, g1, g2, g3, g4⟩ := h1
  refine ⟨P1, P2 ++ O2, g1, tAll_append g2 h2 (fun k hk => h3 k ((g4 k).2 (.inr hk))), ?_, ?_⟩
  ·intro k hk hk'
   rcases List.mem_append.1 hk' with h | h
   ·exact g3 k hk h
   ·exact h3 k ((g4 k).2 (.inl hk)) h
  ·intro k
   rw [List.mem_append, g4, List.mem_append]
   exact or_assoc
namespace Hp
variable {S : List Nat} {w0 w : World} {its : List Thing}
theorem at_ {t : Thing} {i : Nat} (hi : (its[i]?).map Thing.holds = some t.holds) : ∃ u, its[i]? = some u ∧ u.holds = t.holds := by
 rw [Option.map_eq_some_iff] at hi
 exact hi
theorem see' (h : Hp S w0 w its) {t : Thing} {i : Nat} (hi : (its[i]?).map Thing.holds = some t.holds) : ∃ O, t.holds w O := by
 obtain ⟨u, h1, h2⟩ := at_ hi
 obtain ⟨O, hO⟩ := h.see h1
 exact ⟨O, by rw [← h2]; exact hO⟩
theorem split (h : Hp S w0 w its) {i : Nat} {a b : Thing} (hi : its[i]? = some (tStar a b)) (ha : a.own = true) (hb : b.own = true) : Hp S w0 w (its.set i a ++ [b]) := by
 obtain ⟨hfr, F, h1, h2⟩ := h
 have hlt := (List.getElem?_eq_some_iff.1 hi).1
 obtain ⟨⟨O1, O2, g1, g2, g3, g4⟩, q1, _⟩ := h1 i _ hi
 have q2 : ∀ k ∈ F i, k ∈ S ∨ w0.heap.size ≤ k := q1 rfl
 clear q1
 have key : ∀ (j : Nat) (u : Thing), (its.set i a ++ [b])[j]? = some u → (j < its.length ∧ j ≠ i ∧ its[j]? = some u) ∨ (j = i ∧ u = a) ∨ (j = its.length ∧ u = b) := by
  intro j u hj
  by_cases hl : j < its.length
  ·rw [List.getElem?_append_left (by simpa using hl), List.getElem?_set] at hj
   split at hj
   ·rename_i e; simp only [if_pos hlt, Option.some.injEq] at hj; exact .inr (.inl ⟨e.symm, hj.symm⟩)
   ·rename_i e; exact .inl ⟨hl, fun h => e h.symm, hj⟩
  ·rw [List.getElem?_append_right (by simp; omega)] at hj
   have : j - (its.set i a).length = 0 := by
    rcases Nat.eq_zero_or_pos (j - (its.set i a).length) with h | h
    ·exact h
    ·rw [List.getElem?_eq_none (by simp only [List.length_singleton]; omega)] at hj; cases hj
   rw [this] at hj
   simp only [List.getElem?_cons_zero, Option.some.injEq] at hj
   simp only [List.length_set] at this
   exact .inr (.inr ⟨by omega, hj.symm⟩)
 let F' : Nat → List Nat := fun j => if j = its.length then O2 else if j = i then O1 else F j
 have e0 : ∀ j, j < its.length → j ≠ i → F' j = F j := fun j h1 h2 => by simp only [F', if_neg (show ¬ j = its.length by omega), if_neg h2]
 have e1 : F' i = O1 := by simp only [F', if_neg (show ¬ i = its.length by omega), if_true]
 have e2 : F' its.length = O2 := by simp only [F', if_true]
 have apart : ∀ j u, j ≠ i → its[j]? = some u → u.own = true → ∀ k ∈ F j, k ∉ F i := fun j u hne hj huo => h2 j i u _ hj hi hne huo rfl
 refine ⟨hfr, F', ?_, ?_⟩
 ·intro j u hj
  rcases key j u hj with ⟨hl, hne, hj'⟩ | ⟨rfl, rfl⟩ | ⟨rfl, rfl⟩
  ·rw [e0 j hl hne]; exact h1 j u hj'
  ·rw [e1]; exact ⟨g1, fun _ k hk => q2 k ((g4 k).2 (.inl hk)), fun h => by rw [ha] at h; cases h⟩
  ·rw [e2]; exact ⟨g2, fun _ k hk => q2 k ((g4 k).2 (.inr hk)), fun h => by rw [hb] at h; cases h⟩
 ·intro j j' u v hj hj' hne hu hv k hk hk'
  rcases key j u hj with ⟨hl, hn, hjj⟩ | ⟨rfl, rfl⟩ | ⟨rfl, rfl⟩
  ·rw [e0 j hl hn] at hk
   rcases key j' v hj' with ⟨hl', hn', hjj'⟩ | ⟨rfl, rfl⟩ | ⟨rfl, rfl⟩
   ·rw [e0 j' hl' hn'] at hk'; exact h2 j j' u v hjj hjj' hne hu hv k hk hk'
   ·rw [e1] at hk'; exact apart j u hn hjj hu k hk ((g4 k).2 (.inl hk'))
   ·rw [e2] at hk'; exact apart j u hn hjj hu k hk ((g4 k).2 (.inr hk'))
  ·rw [e1] at hk
   rcases key j' v hj' with ⟨hl', hn', hjj'⟩ | ⟨rfl, rfl⟩ | ⟨rfl, rfl⟩
   ·rw [e0 j' hl' hn'] at hk'; exact apart j' v hn' hjj' hv k hk' ((g4 k).2 (.inl hk))
   ·exact absurd rfl hne
   ·rw [e2] at hk'; exact g3 k hk hk'
  ·rw [e2] at hk
   rcases key j' v hj' with ⟨hl', hn', hjj'⟩ | ⟨rfl, rfl⟩ | ⟨rfl, rfl⟩
   ·rw [e0 j' hl' hn'] at hk'; exact apart j' v hn' hjj' hv k hk' ((g4 k).2 (.inr hk))
   ·rw [e1] at hk'; exact g3 k hk' hk
   ·exact absurd rfl hne
theorem join (h : Hp S w0 w its) {i j : Nat} (hne : i ≠ j) {a b c : Thing} (hi : its[i]? = some a) (hj : its[j]? = some b) (ha : a.own = true) (hb : b.own = true) (hc : c.own = true)
  (himp : ∀ w O1 O2, a.holds w O1 → b.holds w O2 → (∀ k ∈ O1, k ∉ O2) → c.holds w (O1 ++ O2)) : Hp S w0 w ((its.set i c).set j tEmp) := by
 obtain ⟨hfr, F, h1, h2⟩ := h
 have hlt := (List.getElem?_eq_some_iff.1 hi).1
 have hlt' := (List.getElem?_eq_some_iff.1 hj).1
 have key : ∀ (n : Nat) (u : Thing), ((its.set i c).set j tEmp)[n]? = some u → (n ≠ i ∧ n ≠ j ∧ its[n]? = some u) ∨ (n = i ∧ u = c) ∨ (n = j ∧ u = tEmp) := by
  intro n u hn
  rw [List.getElem?_set] at hn
  split at hn
  ·rename_i e
   simp only [List.length_set, if_pos hlt', Option.some.injEq] at hn
   exact .inr (.inr ⟨e.symm, hn.symm⟩)
  ·rename_i e
   rw [List.getElem?_set] at hn
   split at hn
   ·rename_i e'
    simp only [if_pos hlt, Option.some.injEq] at hn
    exact .inr (.inl ⟨e'.symm, hn.symm⟩)
   ·rename_i e'
    exact .inl ⟨fun h => e' h.symm, fun h => e h.symm, hn⟩
 obtain ⟨a1, a2, _⟩ := h1 i a hi
 obtain ⟨b1, b2, _⟩ := h1 j b hj
 let F' : Nat → List Nat := fun n => if n = i then F i ++ F j else if n = j then [] else F n
 have e0 : ∀ n, n ≠ i → n ≠ j → F' n = F n := fun n h1 h2 => by simp only [F', if_neg h1, if_neg h2]
 have e1 : F' i = F i ++ F j := by simp only [F', if_true]
 have e2 : F' j = [] := by simp only [F', if_neg hne.symm, if_true]
 have dis : ∀ k ∈ F i, k ∉ F j := h2 i j a b hi hj hne ha hb
 refine ⟨hfr, F', ?_, ?_⟩
 ·intro n u hn
  rcases key n u hn with ⟨q1, q2, hn'⟩ | ⟨rfl, rfl⟩ | ⟨rfl, rfl⟩
  ·rw [e0 n q1 q2]; exact h1 n u hn'
  ·rw [e1]
   refine ⟨himp w _ _ a1 b1 dis, fun _ k hk => ?_, fun h => by rw [hc] at h; cases h⟩
   rcases List.mem_append.1 hk with hk | hk
   ·exact a2 ha k hk
   ·exact b2 hb k hk
  ·rw [e2]; exact ⟨rfl, by simp, by simp⟩
 ·intro n m u v hn hm hnm hu hv k hk hk'
  rcases key n u hn with ⟨q1, q2, hn'⟩ | ⟨rfl, rfl⟩ | ⟨rfl, rfl⟩
  ·rw [e0 n q1 q2] at hk
   rcases key m v hm with ⟨r1, r2, hm'⟩ | ⟨rfl, rfl⟩ | ⟨rfl, rfl⟩
   ·rw [e0 m r1 r2] at hk'; exact h2 n m u v hn' hm' hnm hu hv k hk hk'
   ·rw [e1] at hk'
    rcases List.mem_append.1 hk' with hk' | hk'
    ·exact h2 n _ u a hn' hi q1 hu ha k hk hk'
    ·exact h2 n _ u b hn' hj q2 hu hb k hk hk'
   ·rw [e2] at hk'; cases hk'
  ·rw [e1] at hk
   rcases key m v hm with ⟨r1, r2, hm'⟩ | ⟨rfl, rfl⟩ | ⟨rfl, rfl⟩
   ·rw [e0 m r1 r2] at hk'
    rcases List.mem_append.1 hk with hk | hk
    ·exact h2 m _ v a hm' hi r1 hv ha k hk' hk
    ·exact h2 m _ v b hm' hj r2 hv hb k hk' hk
   ·exact absurd rfl hnm
   ·rw [e2] at hk'; cases hk'
  ·rw [e2] at hk; cases hk
theorem joinStar (h : Hp S w0 w its) {i j : Nat} (hne : i ≠ j) {a b : Thing} (hi : its[i]? = some a) (hj : its[j]? = some b) (ha : a.own = true) (hb : b.own = true) : Hp S w0 w ((its.set i (tStar a b)).set j tEmp) :=
 h.join hne hi hj ha hb rfl fun w O1 O2 h1 h2 h3 => ⟨O1, O2, h1, h2, h3, by simp⟩
theorem openEx (h : Hp S w0 w its) {i : Nat} {α : Type} {f : α → Thing} (hi : its[i]? = some (tEx f)) (ho : ∀ x, (f x).own = true) : ∃ x, Hp S w0 w (its.set i (f x)) := by
 obtain ⟨O, ⟨x, hO⟩, back⟩ := h.step hi rfl
 exact ⟨x, back (Fr.refl _ _) hO (fun k hk => .inl hk) (ho x)⟩
theorem openAnd (h : Hp S w0 w its) {i : Nat} {p : Prop} {t : Thing} (hi : its[i]? = some (tAnd p t)) (ho : t.own = true) : p ∧ Hp S w0 w (its.set i t) := by
 obtain ⟨O, ⟨x, hO⟩, back⟩ := h.step hi rfl
 exact ⟨x, back (Fr.refl _ _) hO (fun k hk => .inl hk) ho⟩
theorem putEx (h : Hp S w0 w its) {i : Nat} {α : Type} {f : α → Thing} (x : α) (hi : its[i]? = some (f x)) (ho : (f x).own = true) : Hp S w0 w (its.set i (tEx f)) :=
 h.weak hi ho (fun w O h => ⟨x, h⟩) rfl
theorem putAnd (h : Hp S w0 w its) {i : Nat} {p : Prop} {t : Thing} (hp : p) (hi : its[i]? = some t) (ho : t.own = true) : Hp S w0 w (its.set i (tAnd p t)) :=
 h.weak hi ho (fun w O h => ⟨hp, h⟩) rfl
theorem pick (h : Hp S w0 w its) {i k : Nat} {ts : List Thing} {t : Thing} (hi : its[i]? = some (tAll ts)) (hk : ts[k]? = some t) (ho : t.own = true) : Hp S w0 w (its.set i (tAll (ts.set k tEmp)) ++ [t]) := by
 have h1 := h.weak (t' := tStar (tAll (ts.set k tEmp)) t) hi (tAll_own ts) (fun w O hO => by
  obtain ⟨O1, O2, g1, g2, g3, g4⟩ := tAll_pick hk hO
  exact ⟨O2, O1, g2, g1, fun k hk hk' => g3 k hk' hk, fun k => by rw [g4]; exact or_comm⟩) rfl
 have hlt := (List.getElem?_eq_some_iff.1 hi).1
 have h2 := h1.split (i := i) (a := tAll (ts.set k tEmp)) (b := t) (by simp [hlt]) (tAll_own _) ho
 simpa using h2
theorem unpick (h : Hp S w0 w its) {i j k : Nat} (hne : i ≠ j) {ts : List Thing} {t : Thing} (hi : its[i]? = some (tAll ts)) (hj : its[j]? = some t) (hk : ts[k]? = some tEmp) (ho : t.own = true) :
  Hp S w0 w ((its.set i (tAll (ts.set k t))).set j tEmp) :=
 h.join hne hi hj (tAll_own _) ho (tAll_own _) fun w O1 O2 h1 h2 h3 => by
  have := tAll_put hk h2 h1 (fun k hk hk' => h3 k hk' hk)
  refine (tAll_mem _ this ?_)
  intro k
  simp [or_comm]
where
 tAll_mem (ts : List Thing) {w : World} {O O' : List Nat} (h : (tAll ts).holds w O) (he : ∀ k, k ∈ O ↔ k ∈ O') : (tAll ts).holds w O' := by
  cases ts with
  | nil =>
   have : O = [] := h
   subst this
   show O' = []
   apply List.eq_nil_iff_forall_not_mem.2
   intro k hk
   exact absurd ((he k).2 hk) (by simp)
  | cons t ts =>
   obtain ⟨O1, O2, h1, h2, h3, h4⟩ := h
   exact ⟨O1, O2, h1, h2, h3, fun k => by rw [← he]; exact h4 k⟩
end Hp
theorem nns {a : Addr} {K : Addr → Prop} (h : K a) : NN (some a) K := h
namespace Hp
variable {S : List Nat} {w0 w : World} {its : List Thing}
theorem begin_ (w : World) : Hp [] w w [] := init w
theorem getL1 {its : List Thing} {i : Nat} {t : Thing} (hi : its[i]? = some t) : ∀ n j : Nat, [i][n]? = some j → its[j]? = [t][n]? := by
 intro n j hn
 match n, hn with
 | 0, hn => simp only [List.getElem?_cons_zero, Option.some.injEq] at hn; subst hn; simpa using hi
theorem getL2 {its : List Thing} {i i' : Nat} {t t' : Thing} (hi : its[i]? = some t) (hi' : its[i']? = some t') : ∀ n j : Nat, [i, i'][n]? = some j → its[j]? = [t, t'][n]? := by
 intro n j hn
 match n, hn with
 | 0, hn => simp only [List.getElem?_cons_zero, Option.some.injEq] at hn; subst hn; simpa using hi
 | 1, hn => simp only [List.getElem?_cons_succ, List.getElem?_cons_zero, Option.some.injEq] at hn; subst hn; simpa using hi'
theorem getL0 {its : List Thing} : ∀ n j : Nat, ([] : List Nat)[n]? = some j → its[j]? = ([] : List Thing)[n]? := by
 intro n j hn; simp at hn
def owns (ts : List Thing) : Bool := ts.all (·.own)
theorem of_owns {ts : List Thing} (h : owns ts = true) : ∀ t ∈ ts, t.own = true := List.all_eq_true.1 h
theorem f1 (h : Hp S w0 w its) {i : Nat} {t : Thing} (hi : its[i]? = some t) (ho : t.own = true) :
  ∃ O, Hp O w w [t] ∧ ∀ {w' : World} {t' : Thing} {rest : List Thing}, t'.own = true → owns rest = true → Hp O w w' (t' :: rest) → Hp S w0 w' (its.set i t' ++ rest) := by
 obtain ⟨O, h1, h2⟩ := h.frame [i] [] (by simp) (by simp) (ts := [t]) (us := []) rfl rfl (getL1 hi) getL0 (by simpa using ho)
 exact ⟨O, by simpa using h1, fun {w' t' rest} ho' hr hp => h2 (ts' := [t']) rfl (by simpa using ho') (of_owns hr) (by simpa using hp)⟩
theorem f1r (h : Hp S w0 w its) {i j : Nat} (hne : i ≠ j) {t u : Thing} (hi : its[i]? = some t) (hj : its[j]? = some u) (ho : t.own = true) :
  ∃ O, Hp O w w [t, u.ro] ∧ ∀ {w' : World} {t' : Thing} {rest : List Thing}, t'.own = true → owns rest = true → Hp O w w' (t' :: rest) → Hp S w0 w' (its.set i t' ++ rest) := by
 obtain ⟨O, h1, h2⟩ := h.frame [i] [j] (by simp) (by simpa using hne) (ts := [t]) (us := [u]) rfl rfl (getL1 hi) (getL1 hj) (by simpa using ho)
 exact ⟨O, by simpa using h1, fun {w' t' rest} ho' hr hp => h2 (ts' := [t']) rfl (by simpa using ho') (of_owns hr) (by simpa using hp)⟩
theorem r0 (h : Hp S w0 w its) {w' : World} {rest : List Thing} (hr : owns rest = true) (hp : Hp [] w w' rest) : Hp S w0 w' (its ++ rest) := by
 obtain ⟨hfr0, F0, q1, q2⟩ := h
 obtain ⟨pf, G, p1, p2⟩ := hp
 refine (⟨hfr0.trans pf (by simp), fun n => if n < its.length then F0 n else G (n - its.length), ?_, ?_⟩ : Hp S w0 w' (its ++ rest))
 ·intro n v hn
  by_cases hl : n < its.length
  ·rw [List.getElem?_append_left hl] at hn
   dsimp only
   rw [if_pos hl]
   exact ⟨v.fr (q1 n v hn).1 pf (by simp), (q1 n v hn).2⟩
  ·rw [List.getElem?_append_right (by omega)] at hn
   dsimp only
   rw [if_neg hl]
   obtain ⟨a1, a2, a3⟩ := p1 (n - its.length) v hn
   have hv := of_owns hr v (List.mem_of_getElem? hn)
   refine ⟨a1, fun _ k hk => ?_, fun h => by rw [hv] at h; cases h⟩
   rcases a2 hv k hk with h | h
   ·cases h
   ·exact .inr (Nat.le_trans hfr0.size h)
 ·intro n m v x hn hm hne hv hx k hk hk'
  by_cases hl : n < its.length
  ·rw [List.getElem?_append_left hl] at hn
   simp only [if_pos hl] at hk
   by_cases hl' : m < its.length
   ·rw [List.getElem?_append_left hl'] at hm
    simp only [if_pos hl'] at hk'
    exact q2 n m v x hn hm hne hv hx k hk hk'
   ·rw [List.getElem?_append_right (by omega)] at hm
    simp only [if_neg hl'] at hk'
    rcases (p1 (m - its.length) x hm).2.1 hx k hk' with h | h
    ·cases h
    ·have := v.lt (q1 n v hn).1 k hk; omega
  ·rw [List.getElem?_append_right (by omega)] at hn
   simp only [if_neg hl] at hk
   by_cases hl' : m < its.length
   ·rw [List.getElem?_append_left hl'] at hm
    simp only [if_pos hl'] at hk'
    rcases (p1 (n - its.length) v hn).2.1 hv k hk with h | h
    ·cases h
    ·have := x.lt (q1 m x hm).1 k hk'; omega
   ·rw [List.getElem?_append_right (by omega)] at hm
    simp only [if_neg hl'] at hk'
    exact p2 _ _ v x hn hm (by omega) hv hx k hk hk'
theorem ro1 (h : Hp S w0 w its) {j : Nat} {u : Thing} (hj : (its[j]?).map Thing.holds = some u.holds) : Hp [] w w [u.ro] := by
 obtain ⟨O', hO'⟩ := h.see' hj
 exact Hp.addRo (Hp.init w) hO' (by simp)
theorem f2 (h : Hp S w0 w its) {i i' : Nat} (hne : i ≠ i') {t u : Thing} (hi : its[i]? = some t) (hi' : its[i']? = some u) (ho : t.own = true) (ho' : u.own = true) :
  ∃ O, Hp O w w [t, u] ∧ ∀ {w' : World} {t' u' : Thing} {rest : List Thing}, t'.own = true → u'.own = true → owns rest = true → Hp O w w' (t' :: u' :: rest) → Hp S w0 w' ((its.set i t').set i' u' ++ rest) := by
 obtain ⟨O, h1, h2⟩ := h.frame [i, i'] [] (by simpa using hne) (by simp) (ts := [t, u]) (us := []) rfl rfl (getL2 hi hi') getL0 (by simp [ho, ho'])
 exact ⟨O, by simpa using h1, fun {w' t' u' rest} q1 q2 hr hp => h2 (ts' := [t', u']) rfl (by simp [q1, q2]) (of_owns hr) (by simpa using hp)⟩
theorem set_same {i : Nat} {t : Thing} (hi : its[i]? = some t) : its.set i t = its := by
 obtain ⟨h, rfl⟩ := List.getElem?_eq_some_iff.1 hi
 exact List.set_getElem_self h
theorem drop1 {x y : Thing} {rest : List Thing} (h : Hp S w0 w (x :: y :: rest)) : Hp S w0 w (x :: rest) := by
 obtain ⟨hfr, F, h1, h2⟩ := h
 have key : ∀ (n : Nat) (t : Thing), (x :: rest)[n]? = some t → (x :: y :: rest)[if n = 0 then 0 else n + 1]? = some t := by
  intro n t hn
  cases n with
  | zero => simpa using hn
  | succ n => simpa using hn
 refine ⟨hfr, fun n => F (if n = 0 then 0 else n + 1), fun n t hn => h1 _ t (key n t hn), fun n m t u hn hm hne => h2 _ _ t u (key n t hn) (key m u hm) ?_⟩
 split <;> split <;> omega
theorem trim (h : Hp S w0 w its) (n : Nat) : Hp S w0 w (its.take n) := by
 rw [← List.take_append_drop n its] at h
 exact h.front
theorem roSee (h : Hp S w0 w its) {i : Nat} {u : Thing} (hi : its[i]? = some u.ro) : ∃ O, u.holds w O ∧ ∀ {t : Thing} {O' : List Nat}, t.holds w O' → (∀ k ∈ O', k ∈ O) → Hp S w0 w (its ++ [t.ro]) := by
 obtain ⟨hfr, F, h1, h2⟩ := h
 obtain ⟨a1, _, a3⟩ := h1 i _ hi
 have a3 := a3 rfl
 refine ⟨F i, a1, fun {t O'} ht hO => ?_⟩
 have key : ∀ (j : Nat) (v : Thing), (its ++ [t.ro])[j]? = some v → (j < its.length ∧ its[j]? = some v) ∨ (j = its.length ∧ v = t.ro) := by
  intro j v hj
  by_cases hlt : j < its.length
  ·rw [List.getElem?_append_left hlt] at hj; exact .inl ⟨hlt, hj⟩
  ·rw [List.getElem?_append_right (by omega)] at hj
   have : j - its.length = 0 := by
    rcases Nat.eq_zero_or_pos (j - its.length) with h | h
    ·exact h
    ·rw [List.getElem?_eq_none (by simp only [List.length_singleton]; omega)] at hj; cases hj
   rw [this] at hj
   simp only [List.getElem?_cons_zero, Option.some.injEq] at hj
   exact .inr ⟨by omega, hj.symm⟩
 refine ⟨hfr, fun j => if j = its.length then O' else F j, ?_, ?_⟩
 ·intro j v hj
  rcases key j v hj with ⟨hlt, hj'⟩ | ⟨rfl, rfl⟩
  ·dsimp only; rw [if_neg (by omega)]; exact h1 j v hj'
  ·dsimp only; rw [if_pos rfl]
   exact ⟨ht, fun h => (by cases h), fun _ k hk => a3 k (hO k hk)⟩
 ·intro j j' v x hj hj' hne hv hx k hk hk'
  rcases key j v hj with ⟨hlt, hjj⟩ | ⟨rfl, rfl⟩
  ·rcases key j' x hj' with ⟨hlt', hjj'⟩ | ⟨rfl, rfl⟩
   ·simp only [if_neg (show ¬ j = its.length by omega), if_neg (show ¬ j' = its.length by omega)] at hk hk'
    exact h2 j j' v x hjj hjj' hne hv hx k hk hk'
   ·cases hx
  ·cases hv
theorem lose (h : Hp S w0 w its) {i : Nat} {t : Thing} (hi : its[i]? = some t) (ho : t.own = true) : Hp S w0 w (its.set i tEmp) := by
 obtain ⟨O, hO, back⟩ := h.step hi ho
 exact back (Fr.refl _ _) (O' := []) rfl (by simp) rfl
theorem less (h : Hp S w0 w its) {i : Nat} {t t' : Thing} (hi : its[i]? = some t) (ho : t.own = true) (himp : ∀ w O, t.holds w O → ∃ O', t'.holds w O' ∧ ∀ k ∈ O', k ∈ O) (ho' : t'.own = true) : Hp S w0 w (its.set i t') := by
 obtain ⟨O, hO, back⟩ := h.step hi ho
 obtain ⟨O', h1, h2⟩ := himp _ _ hO
 exact back (Fr.refl _ _) h1 (fun k hk => .inl (h2 k hk)) ho'
theorem nw (h : Hp S w0 w its) {e : TypeId} {c : List Value} {K : Addr → World → Prop}
  (hK : ∀ b w', Hp S w0 w' (its ++ [tBlk b e c]) → K ⟨b, 0, none⟩ w') : Nw (.cells c.toArray e) w K :=
 hK _ _ (h.grow (Fr.alloc w _) (t := tBlk w.heap.size e c) (O := [w.heap.size]) ⟨Blk.alloc w c e, rfl⟩ (by simp) rfl)
theorem nwMap (h : Hp S w0 w its) {K : Addr → World → Prop}
  (hK : ∀ b w', Hp S w0 w' (its ++ [tMap b []]) → K ⟨b, 0, none⟩ w') : Nw (.map #[] 0) w K :=
 hK _ _ (h.grow (Fr.alloc w _) (t := tMap w.heap.size []) (O := [w.heap.size]) ⟨⟨#[], 0, by show (w.heap.push _)[w.heap.size]? = _; simp, rfl, by simp [Stamps]⟩, rfl⟩ (by simp) rfl)
theorem dr (h : Hp S w0 w its) {K : World → Prop} (hK : ∀ w', Hp S w0 w' its → K w') : Dr w K :=
 hK _ (h.keep (Fr.refl [] w).drew)
theorem ld (h : Hp S w0 w its) (i : Nat) {k : Kd} {b n : Nat} {e : TypeId} {c : List Value} {x : k.T} {K : k.T → Prop}
  (hi : (its[i]?).map Thing.holds = some (tBlk b e c).holds) (hx : c[n]? = some (k.inj x)) (hK : K x) : Ld k w ((⟨b, 0, none⟩ : Addr).add n) K := by
 obtain ⟨O, hO, _⟩ := h.see' hi
 exact ldf hO hx hK
theorem ld0 (h : Hp S w0 w its) (i : Nat) {k : Kd} {b : Nat} {e : TypeId} {c : List Value} {x : k.T} {K : k.T → Prop}
  (hi : (its[i]?).map Thing.holds = some (tBlk b e c).holds) (hx : c[0]? = some (k.inj x)) (hK : K x) : Ld k w ⟨b, 0, none⟩ K := by
 obtain ⟨O, hO, _⟩ := h.see' hi
 exact Go.Den.ld hO hx hK
theorem lda (h : Hp S w0 w its) (i : Nat) {k : Kd} {b n m : Nat} {e : TypeId} {c : List Value} {x : k.T} {K : k.T → Prop}
  (hi : (its[i]?).map Thing.holds = some (tBlk b e c).holds) (hx : c[n + m]? = some (k.inj x)) (hK : K x) : Ld k w (((⟨b, 0, none⟩ : Addr).add n).add m) K := by
 rw [Addr.add_add_any]
 exact h.ld i hi hx hK
theorem cel (h : Hp S w0 w its) (i : Nat) {b n : Nat} {e : TypeId} {c : List Value} {v : Value} (hi : (its[i]?).map Thing.holds = some (tBlk b e c).holds) (hx : c[n]? = some v) :
  w.cell? ((⟨b, 0, none⟩ : Addr).add n) = some v := by
 obtain ⟨O, hO, _⟩ := h.see' hi
 rw [Addr.add_none, hO.cell, Nat.zero_add, hx]
theorem cel0 (h : Hp S w0 w its) (i : Nat) {b : Nat} {e : TypeId} {c : List Value} {v : Value} (hi : (its[i]?).map Thing.holds = some (tBlk b e c).holds) (hx : c[0]? = some v) :
  w.cell? (⟨b, 0, none⟩ : Addr) = some v := by
 obtain ⟨O, hO, _⟩ := h.see' hi
 rw [hO.cell, hx]
theorem stv (h : Hp S w0 w its) (i : Nat) {b o : Nat} {e : TypeId} {c : List Value} {v : Value} {K : World → Prop}
  (hi : its[i]? = some (tBlk b e c)) (ho : o < c.length) (hv : v.oneCell' = true) (hK : ∀ w', Hp S w0 w' (its.set i (tBlk b e (c.set o v))) → K w') : St ⟨b, o, none⟩ v w K := by
 obtain ⟨O, ⟨hO, rfl⟩, back⟩ := h.step hi rfl
 exact Go.Den.st hO ho hv fun w' hb hf _ => hK w' (back (t' := tBlk b e (c.set o v)) (O' := [b]) hf ⟨hb, rfl⟩ (fun k hk => .inl hk) rfl)
theorem st (h : Hp S w0 w its) (i : Nat) {b n : Nat} {e : TypeId} {c : List Value} {v : Value} {K : World → Prop}
  (hi : its[i]? = some (tBlk b e c)) (ho : n < c.length) (hv : v.oneCell' = true) (hK : ∀ w', Hp S w0 w' (its.set i (tBlk b e (c.set n v))) → K w') : St ((⟨b, 0, none⟩ : Addr).add n) v w K := by
 rw [Addr.add_none, Nat.zero_add]
 exact h.stv i hi ho hv hK
theorem st0 (h : Hp S w0 w its) (i : Nat) {b : Nat} {e : TypeId} {c : List Value} {v : Value} {K : World → Prop}
  (hi : its[i]? = some (tBlk b e c)) (ho : 0 < c.length) (hv : v.oneCell' = true) (hK : ∀ w', Hp S w0 w' (its.set i (tBlk b e (c.set 0 v))) → K w') : St ⟨b, 0, none⟩ v w K :=
 h.stv i hi ho hv hK
def tOpt (y : Option Addr) (e : TypeId) (c : List Value) : Thing :=
  { holds := fun w O => (y = none ∧ O = []) ∨ ∃ b, y = some ⟨b, 0, none⟩ ∧ Blk w b e c ∧ O = [b]
    fr := fun {S w w' O} h hf hn => by
      rcases h with h | ⟨b, h1, h2, rfl⟩
      · exact .inl h
      · exact .inr ⟨b, h1, h2.fr hf (hn b (by simp)), rfl⟩
    lt := fun {w O} h k hk => by
      rcases h with ⟨_, rfl⟩ | ⟨b, h1, h2, rfl⟩
      · cases hk
      · simp only [List.mem_singleton] at hk; subst hk; exact h2.lt }
theorem opt (h : Hp S w0 w its) (e : TypeId) (c : List Value) : Hp S w0 w (its ++ [tOpt none e c]) :=
 h.grow (Fr.refl _ _) (t := tOpt none e c) (O := []) (.inl ⟨rfl, rfl⟩) (by simp) rfl
theorem fls (h : Hp S w0 w its) (i : Nat) {y : Option Addr} {e : TypeId} {c : List Value} {K : Option Addr → World → Prop} (hi : its[i]? = some (tOpt y e c))
  (hK : ∀ y' w', Hp S w0 w' (its.set i (tOpt y' e c)) → K y' w') : FlS [(.cells c.toArray e, y)] w K := by
 refine ⟨hK y w (by rw [set_same hi]; exact h), fun q o ho hy => ?_⟩
 have hq : q = 0 := by
  rcases Nat.eq_zero_or_pos q with h | h
  ·exact h
  ·rw [List.getElem?_eq_none (by simp only [List.map_cons, List.map_nil, List.length_singleton]; omega)] at ho; cases ho
 subst hq
 simp only [List.map_cons, List.map_nil, List.getElem?_cons_zero, Option.some.injEq] at ho hy
 subst ho
 subst hy
 obtain ⟨O, hO, back⟩ := h.step hi rfl
 rcases hO with ⟨_, rfl⟩ | ⟨b, hb, _⟩
 ·exact hK _ _ (back (t' := tOpt (some ⟨w.heap.size, 0, none⟩) e c) (O' := [w.heap.size]) (Fr.alloc w _) (.inr ⟨_, rfl, Blk.alloc w c e, rfl⟩) (by simp) rfl)
 ·cases hb
theorem need (h : Hp S w0 w its) (i : Nat) {y : Option Addr} {e : TypeId} {c : List Value} {K : Addr → Prop} (hi : its[i]? = some (tOpt y e c))
  (hK : ∀ b, Hp S w0 w (its.set i (tBlk b e c)) → K ⟨b, 0, none⟩) : Need y K := by
 cases y with
 | none => trivial
 | some a =>
  obtain ⟨O, hO, back⟩ := h.step hi rfl
  rcases hO with ⟨h1, _⟩ | ⟨b, hb, h2, rfl⟩
  ·cases h1
  ·simp only [Option.some.injEq] at hb
   subst hb
   exact hK b (back (Fr.refl _ _) (t' := tBlk b e c) (O' := [b]) ⟨h2, rfl⟩ (fun k hk => .inl hk) rfl)
section
variable {α : Type} {f : α → List Value} {n : Nat} {e : TypeId}
structure Reads (t : Thing) (s : Sl) (n : Nat) (f : α → List Value) (l : List α) : Prop where
 rd : ∀ {w O}, t.holds w O → ∃ o, SlR w s n f l o
theorem rdSl {s : Sl} {l : List α} : Reads (tSl s e n f l) s n f l := ⟨fun {w O} h => ⟨O, SlF.toR h⟩⟩
theorem len (h : Hp S w0 w its) (i : Nat) {s : Sl} {l : List α} (hi : (its[i]?).map Thing.holds = some (tSl s e n f l).holds) : l.length = s.len := by
 obtain ⟨O, hO⟩ := h.see' hi
 exact hO.len
theorem lenR (h : Hp S w0 w its) (i : Nat) {s : Sl} {l : List α} (hi : (its[i]?).map Thing.holds = some (tRd s n f l).holds) : l.length = s.len := by
 obtain ⟨O, hO⟩ := h.see' hi
 exact SlR.len (n := n) (w := w) (o := O) (f := f) hO
theorem cap (h : Hp S w0 w its) (i : Nat) {s : Sl} {l : List α} (hi : (its[i]?).map Thing.holds = some (tSl s e n f l).holds) : s.len ≤ s.cap := by
 obtain ⟨O, hO⟩ := h.see' hi
 rcases hO.2 with ⟨_, h1, h2, _⟩ | ⟨_, _, _, _, _, _, h, _⟩ <;> omega
theorem nil (h : Hp S w0 w its) (e : TypeId) (n : Nat) (f : α → List Value) : Hp S w0 w (its ++ [tSl ⟨none, 0, 0⟩ e n f ([] : List α)]) :=
 h.grow (Fr.refl _ _) (t := tSl ⟨none, 0, 0⟩ e n f []) (O := []) SlF.nil (by simp) rfl
theorem ixld (h : Hp S w0 w its) (i : Nat) {k : Kd} {s : Sl} {l : List α} {j : Int} {y : α} {x : k.T} {K : k.T → Prop} (hi : (its[i]?).map Thing.holds = some (tSl s e 1 f l).holds) (h0 : 0 ≤ j) (hy : l[j.toNat]? = some y) (hf : ∀ x, (f x).length = 1) (hx : (f y)[0]? = some (k.inj x)) (hK : K x) :
  Ix s.a s.len j 1 fun a => Ld k w a K := by
 obtain ⟨O, hO⟩ := h.see' hi
 exact SlR.ix hf (SlF.toR hO) h0 hy fun a ha => ldR0 (ha 0 (by omega)) hx hK
theorem ixldR (h : Hp S w0 w its) (i : Nat) {k : Kd} {s : Sl} {l : List α} {j : Int} {y : α} {x : k.T} {K : k.T → Prop} (hi : (its[i]?).map Thing.holds = some (tRd s 1 f l).holds) (h0 : 0 ≤ j) (hy : l[j.toNat]? = some y) (hf : ∀ x, (f x).length = 1) (hx : (f y)[0]? = some (k.inj x)) (hK : K x) :
  Ix s.a s.len j 1 fun a => Ld k w a K := by
 obtain ⟨O, hO⟩ := h.see' hi
 exact SlR.ix hf hO h0 hy fun a ha => ldR0 (ha 0 (by omega)) hx hK
theorem ixldU (h : Hp S w0 w its) (i : Nat) {u : Thing} {k : Kd} {s : Sl} {l : List α} {j : Int} {y : α} {x : k.T} {K : k.T → Prop} (hi : (its[i]?).map Thing.holds = some u.holds) (hu : Reads u s 1 f l) (h0 : 0 ≤ j) (hy : l[j.toNat]? = some y) (hf : ∀ x, (f x).length = 1) (hx : (f y)[0]? = some (k.inj x)) (hK : K x) :
  Ix s.a s.len j 1 fun a => Ld k w a K := by
 obtain ⟨O, hO⟩ := h.see' hi
 obtain ⟨o, hO⟩ := hu.rd hO
 exact SlR.ix hf hO h0 hy fun a ha => ldR0 (ha 0 (by omega)) hx hK
theorem lenU (h : Hp S w0 w its) (i : Nat) {u : Thing} {s : Sl} {l : List α} (hi : (its[i]?).map Thing.holds = some u.holds) (hu : Reads u s n f l) : l.length = s.len := by
 obtain ⟨O, hO⟩ := h.see' hi
 obtain ⟨o, hO⟩ := hu.rd hO
 exact hO.len
theorem ixld2 (h : Hp S w0 w its) (i : Nat) {k k' : Kd} {s : Sl} {l : List α} {j : Int} {y : α} {x : k.T} {x' : k'.T} {K : k.T → k'.T → Prop} (hi : (its[i]?).map Thing.holds = some (tSl s e 2 f l).holds) (h0 : 0 ≤ j) (hy : l[j.toNat]? = some y) (hf : ∀ x, (f x).length = 2) (hx : (f y)[0]? = some (k.inj x)) (hx' : (f y)[1]? = some (k'.inj x')) (hK : K x x') :
  Ix s.a s.len j 2 fun a => Ld k w a fun x => Ld k' w (a.add 1) fun x' => K x x' := by
 obtain ⟨O, hO⟩ := h.see' hi
 exact SlR.ix hf (SlF.toR hO) h0 hy fun a ha => ldR0 (ha 0 (by omega)) hx (ldR (ha 1 (by omega)) hx' hK)
theorem ixr (h : Hp S w0 w its) (i : Nat) {s : Sl} {l : List α} {j : Int} {y : α} {K : Addr → Prop} (hi : (its[i]?).map Thing.holds = some (tSl s e n f l).holds) (h0 : 0 ≤ j) (hy : l[j.toNat]? = some y) (hf : ∀ x, (f x).length = n)
  (hK : ∀ a, (∀ m, m < n → w.cell? (a.add m) = (f y)[m]?) → K a) : Ix s.a s.len j n K := by
 obtain ⟨O, hO⟩ := h.see' hi
 exact SlR.ix hf (SlF.toR hO) h0 hy hK
theorem ixst (h : Hp S w0 w its) (i : Nat) {s : Sl} {l : List α} {j : Int} {y : α} {v : Value} {K : World → Prop} (hi : its[i]? = some (tSl s e 1 f l)) (h0 : 0 ≤ j) (hlt : j.toNat < l.length) (hf : ∀ x, (f x).length = 1) (hy : f y = [v]) (hv : v.oneCell' = true)
  (hK : ∀ w', Hp S w0 w' (its.set i (tSl s e 1 f (l.set j.toNat y))) → K w') : Ix s.a s.len j 1 fun a => St a v w K := by
 obtain ⟨O, hO, back⟩ := h.step hi rfl
 refine SlF.ix hf hO h0 (x := l[j.toNat]) (by simp [hlt]) fun b off c ho hb hoff hcs hput => ?_
 refine Go.Den.st hb (by omega) hv fun w' hb' hf' _ => hK w' (back (t' := tSl s e 1 f (l.set j.toNat y)) (O' := O) (by rw [ho]; exact hf') (hput w' y ?_) (fun k hk => .inl hk) rfl)
 have e1 : c.set off v = c.take off ++ f y ++ c.drop (off + 1) := by
  rw [List.set_eq_take_append_cons_drop, if_pos (by omega), hy]; simp
 rw [← e1]; exact hb'
theorem ixst2 (h : Hp S w0 w its) (i : Nat) {s : Sl} {l : List α} {j : Int} {y : α} {v v' : Value} {K : World → Prop} (hi : its[i]? = some (tSl s e 2 f l)) (h0 : 0 ≤ j) (hlt : j.toNat < l.length) (hf : ∀ x, (f x).length = 2) (hy : f y = [v, v']) (hv : v.oneCell' = true) (hv' : v'.oneCell' = true)
  (hK : ∀ w', Hp S w0 w' (its.set i (tSl s e 2 f (l.set j.toNat y))) → K w') : Ix s.a s.len j 2 fun a => St a v w fun w => St (a.add 1) v' w K := by
 obtain ⟨O, hO, back⟩ := h.step hi rfl
 refine SlF.ix hf hO h0 (x := l[j.toNat]) (by simp [hlt]) fun b off c ho hb hoff hcs hput => ?_
 refine Go.Den.st hb (by omega) hv fun w1 hb1 hf1 _ => Go.Den.sto hb1 (by simp; omega) hv' fun w' hb' hf' _ => hK w' (back (t' := tSl s e 2 f (l.set j.toNat y)) (O' := O) (by rw [ho]; exact hf1.trans hf' (by simp)) (hput w' y ?_) (fun k hk => .inl hk) rfl)
 have e1 : (c.set off v).set (off + 1) v' = c.take off ++ f y ++ c.drop (off + 2) := by
  apply List.ext_getElem?
  intro m
  rw [hy]
  have l1 : (List.take off c).length = off := by rw [List.length_take]; omega
  simp only [List.getElem?_set, List.getElem?_append, List.length_append, l1, List.length_cons, List.length_nil, List.length_set, List.getElem?_take, List.getElem?_drop]
  by_cases h1 : m < off
  ·rw [if_neg (by omega), if_neg (by omega), if_pos (by omega), if_pos h1, if_pos h1]
  ·by_cases h2 : m = off
   ·subst h2
    rw [if_neg (by omega), if_pos rfl, if_pos (by omega), if_pos (by omega), if_neg (by omega)]
    simp
   ·by_cases h3 : m = off + 1
    ·subst h3
     rw [if_pos rfl, if_pos (by omega), if_pos (by omega), if_neg (by omega)]
     simp
    ·rw [if_neg (by omega), if_neg (by omega), if_neg (by omega)]
     congr 1; omega
 rw [← e1]; exact hb'
theorem ixk (h : Hp S w0 w its) (i : Nat) {u : Thing} {s : Sl} {l : List α} {j : Int} {K : Addr → Prop} (hi : (its[i]?).map Thing.holds = some u.holds) (hu : Reads u s n f l) (h0 : 0 ≤ j) (hlt : j.toNat < l.length) (hK : ∀ x, s.a = some x → K (x.add (j.toNat * n))) : Ix s.a s.len j n K := by
 obtain ⟨O, hO⟩ := h.see' hi
 obtain ⟨o, hR⟩ := hu.rd hO
 refine ⟨h0, by have := hR.1; omega, ?_⟩
 rcases hR.2 with ⟨h1, _⟩ | ⟨x, h1, _⟩
 ·have := hR.1; omega
 ·rw [h1]
  exact hK x h1
theorem celk (h : Hp S w0 w its) (i : Nat) {u : Thing} {s : Sl} {l : List α} {j m : Nat} {x : Addr} {y : α} {v : Value} (hi : (its[i]?).map Thing.holds = some u.holds) (hu : Reads u s n f l) (hx : s.a = some x) (hf : ∀ x, (f x).length = n) (hy : l[j]? = some y) (hm : (f y)[m]? = some v) :
  w.cell? ((x.add (j * n)).add m) = some v := by
 obtain ⟨O, hO⟩ := h.see' hi
 obtain ⟨o, hR⟩ := hu.rd hO
 have hlt := (List.getElem?_eq_some_iff.1 hy).1
 rcases hR.2 with ⟨h1, _⟩ | ⟨x', h1, _, _, h2⟩
 ·have := hR.1; omega
 ·obtain rfl : x' = x := Option.some.inj (h1.symm.trans hx)
  rw [Addr.add_add_any]
  have hmn : m < n := by have := (List.getElem?_eq_some_iff.1 hm).1; rw [hf] at this; exact this
  exact h2 _ _ ((fm_get hf hy hmn).trans hm)
theorem celk0 (h : Hp S w0 w its) (i : Nat) {u : Thing} {s : Sl} {l : List α} {j : Nat} {x : Addr} {y : α} {v : Value} (hi : (its[i]?).map Thing.holds = some u.holds) (hu : Reads u s n f l) (hx : s.a = some x) (hf : ∀ x, (f x).length = n) (hy : l[j]? = some y) (hm : (f y)[0]? = some v) :
  w.cell? (x.add (j * n)) = some v := Addr.add_zero_cell (h.celk i hi hu hx hf hy hm)
theorem ldk (h : Hp S w0 w its) (i : Nat) {u : Thing} {s : Sl} {l : List α} {j m : Nat} {x : Addr} {y : α} {k : Kd} {v : k.T} {K : k.T → Prop} (hi : (its[i]?).map Thing.holds = some u.holds) (hu : Reads u s n f l) (hx : s.a = some x) (hf : ∀ x, (f x).length = n) (hy : l[j]? = some y) (hm : (f y)[m]? = some (k.inj v)) (hK : K v) :
  Ld k w ((x.add (j * n)).add m) K := ⟨v, h.celk i hi hu hx hf hy hm, hK⟩
theorem ldk0 (h : Hp S w0 w its) (i : Nat) {u : Thing} {s : Sl} {l : List α} {j : Nat} {x : Addr} {y : α} {k : Kd} {v : k.T} {K : k.T → Prop} (hi : (its[i]?).map Thing.holds = some u.holds) (hu : Reads u s n f l) (hx : s.a = some x) (hf : ∀ x, (f x).length = n) (hy : l[j]? = some y) (hm : (f y)[0]? = some (k.inj v)) (hK : K v) :
  Ld k w (x.add (j * n)) K := ⟨v, h.celk0 i hi hu hx hf hy hm, hK⟩
def setsAt (c : List Value) (off : Nat) : List Value → List Value
 | [] => c
 | v :: vs => setsAt (c.set off v) (off + 1) vs
theorem setsAt_eq : ∀ (vs c : List Value) (off : Nat), off + vs.length ≤ c.length → setsAt c off vs = c.take off ++ vs ++ c.drop (off + vs.length)
 | [], c, off, _ => by simp [setsAt]
 | v :: vs, c, off, h => by
  simp only [List.length_cons] at h
  rw [setsAt, setsAt_eq vs _ _ (by simp; omega)]
  have e1 : (c.set off v).take (off + 1) = c.take off ++ [v] := by
   rw [List.take_set, List.take_succ_eq_append_getElem (by omega)]
   have : (List.take off c).length = off := by rw [List.length_take]; omega
   rw [List.set_append_right _ _ (by omega)]
   simp [this]
  have e2 : (c.set off v).drop (off + 1 + vs.length) = c.drop (off + (v :: vs).length) := by
   rw [List.drop_set_of_lt (by omega)]
   congr 1
   simp only [List.length_cons]; omega
  rw [e1, e2]
  simp
theorem ixw (h : Hp S w0 w its) (i : Nat) {s : Sl} {l : List α} {j : Int} {K : Addr → Prop} (hi : its[i]? = some (tSl s e n f l)) (h0 : 0 ≤ j) (hlt : j.toNat < l.length) (hf : ∀ x, (f x).length = n)
  (hK : ∀ b off c, off + n ≤ c.length → Hp S w0 w (its.set i (tBlk b e c)) → (∀ {w' : World} {its' : List Thing} (y : α), Hp S w0 w' its' → its'[i]? = some (tBlk b e (setsAt c off (f y))) → Hp S w0 w' (its'.set i (tSl s e n f (l.set j.toNat y)))) → K ⟨b, off, none⟩) :
  Ix s.a s.len j n K := by
 obtain ⟨O, hO, back⟩ := h.step hi rfl
 refine SlF.ix hf hO h0 (x := l[j.toNat]) (by simp [hlt]) fun b off c ho hb hoff hcs hput => ?_
 refine hK b off c hoff (back (t' := tBlk b e c) (O' := [b]) (Fr.refl _ _) ⟨hb, rfl⟩ (by rw [ho]; exact fun k hk => .inl hk) rfl) fun {w' its'} y hp hi' => ?_
 refine hp.weak hi' rfl (fun w2 O2 h2 => ?_) rfl
 obtain ⟨hb2, rfl⟩ := h2
 have := hput w2 y (by rw [setsAt_eq _ _ _ (by rw [hf]; exact hoff), hf] at hb2; exact hb2)
 rw [ho] at this
 exact this
theorem stq (h : Hp S w0 w its) (i : Nat) {b o m : Nat} {e : TypeId} {c : List Value} {v : Value} {K : World → Prop}
  (hi : its[i]? = some (tBlk b e c)) (ho : o + m < c.length) (hv : v.oneCell' = true) (hK : ∀ w', Hp S w0 w' (its.set i (tBlk b e (c.set (o + m) v))) → K w') : St ((⟨b, o, none⟩ : Addr).add m) v w K := by
 rw [Addr.add_none]
 exact h.stv i hi ho hv hK
theorem cut (h : Hp S w0 w its) (i : Nat) {s : Sl} {l : List α} {a b m : Int} {K : Sl → Prop} (hi : its[i]? = some (tSl s e n f l)) (hf : ∀ x, (f x).length = n) (h0 : 0 ≤ a) (h1 : a ≤ b) (h2 : b ≤ m) (h3 : m ≤ s.cap) (h4 : b ≤ s.len)
  (hK : ∀ s', Hp S w0 w (its.set i (tSl s' e n f ((l.take b.toNat).drop a.toNat))) → s'.len = b.toNat - a.toNat → s'.cap = m.toNat - a.toNat → (s'.a = none ↔ s.a = none) → K s') : Cut s a b m n K := by
 obtain ⟨O, hO, back⟩ := h.step hi rfl
 exact SlF.cut hf hO h0 h1 h2 h3 h4 fun s' hs hl hc hn => hK s' (back (Fr.refl _ _) (t' := tSl s' e n f _) hs (fun k hk => .inl hk) rfl) hl hc hn
theorem cutv {u : Thing} {s : Sl} {l : List α} {a b m : Int} {K : Sl → Prop} (hu : Reads u s n f l) (hl : l.length = s.len) (hf : ∀ x, (f x).length = n) (h0 : 0 ≤ a) (h1 : a ≤ b) (h2 : b ≤ m) (h3 : m ≤ s.cap) (h4 : b ≤ s.len)
  (hK : ∀ s', Reads u s' n f ((l.take b.toNat).drop a.toNat) → s'.len = b.toNat - a.toNat → s'.cap = m.toNat - a.toNat → K s') : Cut s a b m n K := by
 refine ⟨h0, h1, h2, h3, hK _ ⟨fun {w O} hO => ?_⟩ rfl rfl⟩
 obtain ⟨o, hR⟩ := hu.rd hO
 by_cases hz : b.toNat - a.toNat = 0
 ·refine ⟨[], ⟨?_, .inl ⟨hz, rfl⟩⟩⟩
  simp only [List.length_drop, List.length_take]; omega
 ·rcases hR.2 with ⟨q1, _⟩ | ⟨x, q1, q2, q3, q4⟩
  ·omega
  ·refine ⟨[x.block], ⟨by simp only [List.length_drop, List.length_take]; omega, .inr ⟨x.add (a.toNat * n), ?_, ?_, ?_, ?_⟩⟩⟩
   ·show (if m.toNat = a.toNat then s.a else _) = _
    rw [if_neg (by omega), q1]; rfl
   ·rw [Addr.add_block]
   ·rw [Addr.add_block]; exact q3
   ·intro j v hj
    rw [Addr.add_add_any]
    refine q4 _ _ ?_
    rw [← fm_drop hf, ← fm_take hf, List.getElem?_drop, List.getElem?_take] at hj
    split at hj
    ·exact hj
    ·cases hj
theorem mks (h : Hp S w0 w its) {z : List Value} {bytes : Nat} {k c : Int} {K : Sl → World → Prop} {x0 : α} (hf : ∀ x, (f x).length = n) (hz : f x0 = z) (h0 : 0 ≤ k) (h1 : k ≤ c) (h2 : c ≤ 281474976710656) (h3 : bytes * c ≤ 281474976710656)
  (hK : ∀ s w', Hp S w0 w' (its ++ [tSl s e n f (List.replicate k.toNat x0)]) → s.len = k.toNat → s.cap = c.toNat → s.a ≠ none → K s w') : Mk z e bytes k c w K := by
 refine ⟨h0, h1, h2, h3, ?_⟩
 have hrow : ∀ m, (List.replicate m x0).flatMap f = zrow z m := by
  intro m
  induction m with
  | zero => rfl
  | succ m ih => rw [List.replicate_succ, List.flatMap_cons, ih, hz]; rfl
 refine hK _ _ ?_ rfl rfl (by simp)
 refine h.grow (Fr.alloc w _) (t := tSl ⟨some ⟨w.heap.size, 0, none⟩, k.toNat, c.toNat⟩ e n f (List.replicate k.toNat x0)) (O := [w.heap.size]) ?_ (by simp) rfl
 refine ⟨by simp, .inr ⟨w.heap.size, 0, zrow z c.toNat, rfl, rfl, Blk.alloc w _ e, ?_, ?_, ?_⟩⟩
 ·show k.toNat ≤ c.toNat; omega
 ·show 0 + c.toNat * n ≤ _
  rw [← hrow, fm_len hf, List.length_replicate]; omega
 ·show List.take (k.toNat * n) _ = _
  rw [List.drop_zero, ← hrow, fm_take hf, List.take_replicate, Nat.min_eq_left (by omega)]
theorem blkSl (h : Hp S w0 w its) {i b m : Nat} {c : List Value} {l : List α} (hi : its[i]? = some (tBlk b e c)) (hc : c = l.flatMap f) (hm : l.length = m) (hf : ∀ x, (f x).length = n) : Hp S w0 w (its.set i (tSl ⟨some ⟨b, 0, none⟩, m, m⟩ e n f l)) :=
 h.weak hi rfl (fun w O hO => by
  obtain ⟨hb, rfl⟩ := hO
  subst hc
  exact SlF.blk hb hm hf) rfl
section
variable {P : Program}
theorem app (h : Hp S w0 w its) (i j : Nat) {s : Sl} {t ty e' : TypeId} {inf : TypeInfo} {z : Value} {l : List α} {y : α} {b c' : Nat} {c : List Value} {K : Sl → World → Prop} (hi : its[i]? = some (tSl s e n f l)) (hj : (its[j]?).map Thing.holds = some (tBlk b e' c).holds) (hf : ∀ x, (f x).length = n)
  (ht : P.underlying t = some (.slice e)) (hinf : P.info? e = some inf) (hsz : inf.size = n) (hz : inf.zero = some z) (hz1 : z.cells.size = n) (hc : c = f y) (h1 : ∀ u ∈ f y, u.oneCell' = true)
  (hb : (s.len + 1) * inf.bytes ≤ 140737488355328) (hn : s.len + 1 ≤ 140737488355328)
  (hK : ∀ s' w', Hp S w0 w' (its.set i (tSl s' e n f (l ++ [y]))) → s'.len = s.len + 1 → s'.a ≠ none → K s' w') :
  Run .sl P (Builtin.append_ #[t, t] ty #[.slice s.a s.len s.cap, .slice (some ⟨b, 0, none⟩) 1 c']) w K := by
 obtain ⟨Ob, hO, _⟩ := h.see' hj
 obtain ⟨O, hs, back⟩ := h.step hi rfl
 refine SlF.app hf ht hinf hsz hz hz1 hs (news := [y]) rfl ?_ (by simpa using h1) hb hn ?_
 ·intro m u hm
  rw [Addr.add_none, hO.cell, Nat.zero_add, hc]
  simpa using hm
 ·intro s' w' o' hs' hl' ho' hg hf' _ hn'
  refine hK s' w' (back (t' := tSl s' e n f (l ++ [y])) hf' hs' ?_ rfl) hl' (hn' (.inr (by omega)))
  rcases ho' with rfl | ⟨k, h1, _, rfl⟩
  ·exact fun k hk => .inl hk
  ·intro k' hk'; simp only [List.mem_singleton] at hk'; subst hk'; exact .inr h1
theorem nwapp (h : Hp S w0 w its) (i : Nat) {s : Sl} {t ty e' : TypeId} {inf : TypeInfo} {z : Value} {l : List α} {c' : Nat} {c : List Value} {K : Sl → World → Prop} (y : α) (hi : its[i]? = some (tSl s e n f l)) (hf : ∀ x, (f x).length = n)
  (ht : P.underlying t = some (.slice e)) (hinf : P.info? e = some inf) (hsz : inf.size = n) (hz : inf.zero = some z) (hz1 : z.cells.size = n) (hc : c = f y) (h1 : ∀ u ∈ f y, u.oneCell' = true)
  (hb : (s.len + 1) * inf.bytes ≤ 140737488355328) (hn : s.len + 1 ≤ 140737488355328)
  (hK : ∀ s' w', Hp S w0 w' (its.set i (tSl s' e n f (l ++ [y]))) → s'.len = s.len + 1 → s'.a ≠ none → K s' w') :
  Nw (.cells c.toArray e') w fun b w => Run .sl P (Builtin.append_ #[t, t] ty #[.slice s.a s.len s.cap, .slice (some b) 1 c']) w K := by
 have hl := (List.getElem?_eq_some_iff.1 hi).1
 refine h.nw fun b w h => ?_
 refine h.app i its.length (e' := e') (c := c) (by rw [List.getElem?_append_left hl]; exact hi) (by simp) hf ht hinf hsz hz hz1 hc h1 hb hn fun s' w' h h1 h2 => hK s' w' ?_ h1 h2
 rw [List.set_append_left _ _ hl] at h
 exact h.front
theorem appS (h : Hp S w0 w its) (i j : Nat) {s s2 : Sl} {t ty : TypeId} {inf : TypeInfo} {z : Value} {l news : List α} {K : Sl → World → Prop} (hi : its[i]? = some (tSl s e n f l)) {u : Thing} (hj : its[j]? = some u) (hu : Reads u s2 n f news) (hf : ∀ x, (f x).length = n)
  (ht : P.underlying t = some (.slice e)) (hinf : P.info? e = some inf) (hsz : inf.size = n) (hz : inf.zero = some z) (hz1 : z.cells.size = n) (h1 : ∀ x, ∀ u ∈ f x, u.oneCell' = true)
  (hb : (s.len + s2.len) * inf.bytes ≤ 140737488355328) (hn : s.len + s2.len ≤ 140737488355328)
  (hK : ∀ s' w', Hp S w0 w' (its.set i (tSl s' e n f (l ++ news))) → s'.len = s.len + s2.len → (s.a ≠ none ∨ s2.len ≠ 0 → s'.a ≠ none) → K s' w') :
  Run .sl P (Builtin.append_ #[t, t] ty #[.slice s.a s.len s.cap, .slice s2.a s2.len s2.cap]) w K := by
 obtain ⟨Ou, hO⟩ := h.see hj
 obtain ⟨o2, h2⟩ := hu.rd hO
 obtain ⟨O, hs, back⟩ := h.step hi rfl
 refine SlF.appS hf ht hinf hsz hz hz1 hs h2 h1 hb hn ?_
 intro s' w' o' hs' hl' ho' hg hf' _ hn'
 refine hK s' w' (back (t' := tSl s' e n f (l ++ news)) hf' hs' ?_ rfl) hl' hn'
 rcases ho' with rfl | ⟨k, h1, _, rfl⟩
 ·exact fun k hk => .inl hk
 ·intro k' hk'; simp only [List.mem_singleton] at hk'; subst hk'; exact .inr h1
end
end
end Hp
section
variable {α : Type} {f : α → List Value} {n : Nat} {e : TypeId}
theorem SlF.app_in {P : Program} {w : World} (hf : ∀ x, (f x).length = n) {s : Sl} {t ty : TypeId} {i : TypeInfo} {l news : List α} {o : List Nat} {x : Addr} {m c' : Nat} {K : Sl → World → Prop}
  (ht : P.underlying t = some (.slice e)) (hi : P.info? e = some i) (hsz : i.size = n)
  (h : SlF w s e n f l o) (hl : news.length = m) (hnews : ∀ j u, (news.flatMap f)[j]? = some u → w.cell? (x.add j) = some u) (h1 : ∀ u ∈ news.flatMap f, u.oneCell' = true) (hne : s.a ≠ none) (hroom : s.len + m ≤ s.cap)
  (hK : ∀ w', SlF w' ⟨s.a, s.len + m, s.cap⟩ e n f (l ++ news) o → Fr o w w' → K ⟨s.a, s.len + m, s.cap⟩ w') :
  Run .sl P (Builtin.append_ #[t, t] ty #[.slice s.a s.len s.cap, .slice (some x) m c']) w K := by
 have hvl := h.1
 have hnl : (news.flatMap f).length = m * n := by rw [fm_len hf, hl]
 have hll : (l.flatMap f).length = s.len * n := by rw [fm_len hf, hvl]
 have hadd : ∀ a b : Nat, (a + b) * n = a * n + b * n := fun a b => Nat.add_mul a b n
 rcases h.2 with ⟨ha, _⟩ | ⟨b, off, c, ha, ho, hbk, hcap, hoff, htk⟩
 ·exact absurd ha hne
 ·subst ho
  have hcap' : s.len * n ≤ s.cap * n := Nat.mul_le_mul_right _ hcap
  have hroom' : s.len * n + m * n ≤ s.cap * n := by rw [← hadd]; exact Nat.mul_le_mul_right _ hroom
  have hf1 := run_firstCells_some (P := P) w n m x m c' (news.flatMap f) hnl hnews
  have hst := run_storeCells_at P b (off + s.len * n) e (news.flatMap f) 0 c.toArray w hbk (by simp only [List.size_toArray, hnl]; omega) h1
  refine ⟨⟨s.a, s.len + m, s.cap⟩, _, ?_, hK (w.setRow b (c.take (off + s.len * n) ++ news.flatMap f ++ c.drop (off + s.len * n + (news.flatMap f).length)).toArray) ?_ ?_⟩
  ·rw [ha]
   simp only [Nat.add_zero] at hst
   simp [Builtin.append_, run_underlying ht, sizeOf, typeInfo, hi, Builtin.lenOf, hroom, hsz, hf1, Addr.add_none, hst, Kd.inj]
  ·refine ⟨by simp [hvl, hl], .inr ⟨b, off, _, ha, rfl, setRow_heap w b c.toArray _ e _ hbk, hroom, ?_, ?_⟩⟩
   ·simp only [List.length_append, List.length_take, List.length_drop, hnl]; omega
   apply List.ext_getElem?
   intro j
   rw [List.flatMap_append, ← htk]
   simp only [List.getElem?_take, List.getElem?_drop, List.getElem?_append, List.length_append, List.length_take, List.length_drop, hnl, hadd]
   have e1 : min (off + s.len * n) c.length = off + s.len * n := by omega
   have e2 : min (s.len * n) (c.length - off) = s.len * n := by omega
   rw [e1, e2]
   by_cases hj : j < s.len * n + m * n
   ·rw [if_pos hj, if_pos (by omega)]
    by_cases hj2 : j < s.len * n
    ·rw [if_pos (by omega), if_pos (by omega), if_pos (by omega), if_pos (by omega)]
    ·rw [if_neg (by omega), if_neg (by omega)]
     congr 1; omega
   ·rw [if_neg hj, if_neg (by omega)]
    symm
    apply List.getElem?_eq_none
    rw [hnl]; omega
  ·exact ⟨rfl, rfl, rfl, by simp, fun k _ hk => setRow_other w b k _ (fun e => hk (by simp [e]))⟩
namespace Hp
variable {S : List Nat} {w0 w : World} {its : List Thing}
end Hp
end
def tAny (k : Nat) : Thing :=
  { holds := fun w O => O = [k] ∧ k < w.heap.size
    fr := fun h hf _ => ⟨h.1, Nat.lt_of_lt_of_le h.2 hf.size⟩
    lt := fun h j hj => by rw [h.1] at hj; simp only [List.mem_singleton] at hj; subst hj; exact h.2 }
def tObj (k : Nat) (o : Obj) : Thing :=
  { holds := fun w O => O = [k] ∧ w.heap[k]? = some o
    fr := fun {S w w' O} h hf hn => by
      have hlt := (Array.getElem?_eq_some_iff.1 h.2).1
      exact ⟨h.1, (hf.block k hlt (hn k (by rw [h.1]; simp))).trans h.2⟩
    lt := fun h j hj => by rw [h.1] at hj; simp only [List.mem_singleton] at hj; subst hj; exact (Array.getElem?_eq_some_iff.1 h.2).1 }
namespace Hp
variable {S : List Nat} {w0 w : World} {its : List Thing}
theorem dropMid {mid : List Thing} {t : Thing} (h : Hp S w0 w (its ++ mid ++ [t])) : Hp S w0 w (its ++ [t]) := by
 refine h.sel (List.range its.length ++ [its.length + mid.length]) ?_ (by simp) (fun n j hn => ?_)
 ·rw [List.nodup_append]
  refine ⟨List.nodup_range, by simp, fun a ha b hb => ?_⟩
  simp only [List.mem_range, List.mem_singleton] at ha hb
  omega
 ·by_cases hlt : n < its.length
  ·rw [List.getElem?_append_left (by simpa using hlt)] at hn
   rw [List.getElem?_range hlt] at hn
   simp only [Option.some.injEq] at hn
   subst hn
   rw [List.append_assoc, List.getElem?_append_left hlt, List.getElem?_append_left hlt]
  ·rw [List.getElem?_append_right (by simpa using hlt)] at hn
   have hz : n - (List.range its.length).length = 0 := by
    rcases Nat.eq_zero_or_pos (n - (List.range its.length).length) with h | h
    ·exact h
    ·rw [List.getElem?_eq_none (by simp only [List.length_cons, List.length_nil]; omega)] at hn; cases hn
   rw [hz] at hn
   simp only [List.getElem?_cons_zero, Option.some.injEq] at hn
   subst hn
   simp only [List.length_range] at hz
   have hn : n = its.length := by omega
   subst hn
   rw [List.getElem?_append_right (by simp), List.getElem?_append_right (by omega)]
   simp
end Hp
end Go.Den
end
