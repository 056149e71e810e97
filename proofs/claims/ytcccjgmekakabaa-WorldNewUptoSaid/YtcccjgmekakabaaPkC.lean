/-
  Part 3 of the proof: WorldNew of layer 6 is true of the given program for every input that its guards let in (of bulk at most 1048576).
-/
import Derived.Test.YtcccjgmekakabaaPkB
import Derived.Test.YtcccjgmekakabaaProg
set_option linter.unusedSimpArgs false
set_option linter.unusedVariables false
set_option maxRecDepth 100000
section
namespace Go.Proofs.Ytcccjgmekakabaa.F
open Go Go.Den Go.Proofs
theorem okP : OkP Try.prog := ⟨by kernel_rfl, by kernel_rfl⟩
def c2 (w : World) (R : World → Prop) : Prop :=
 CallK Try.prog 2 [] [] w R
def c3 (kinds : Sl) (w : World) (R : Bool → World → Prop) : Prop :=
 CallK Try.prog 3 [.slice kinds.a kinds.len kinds.cap] [.one .b] w R
def c4 (sets : Sl) (order : Sl) (between : Sl) (w : World) (R : Bool → World → Prop) : Prop :=
 CallK Try.prog 4 [.slice sets.a sets.len sets.cap, .slice order.a order.len order.cap, .slice between.a between.len between.cap] [.one .b] w R
def c5 (deeds : Sl) (w : World) (R : Bool → World → Prop) : Prop :=
 CallK Try.prog 5 [.slice deeds.a deeds.len deeds.cap] [.one .b] w R
def c6 (deeds : Sl) (more : Sl) (w : World) (R : Bool → World → Prop) : Prop :=
 CallK Try.prog 6 [.slice deeds.a deeds.len deeds.cap, .slice more.a more.len more.cap] [.one .b] w R
def c7 (w : World) (R : Bool → World → Prop) : Prop :=
 CallK Try.prog 7 [] [.one .b] w R
def c8 (kinds : Sl) (w : World) (R : Option Addr → Bool → World → Prop) : Prop :=
 CallK Try.prog 8 [.slice kinds.a kinds.len kinds.cap] [.one .p, .one .b] w R
def c9 (p : Option Addr) (w : World) (R : Bool → World → Prop) : Prop :=
 CallK Try.prog 9 [.pointer p] [.one .b] w R
def c10 (kinds : Sl) (w : World) (R : Option Addr → Int → World → Prop) : Prop :=
 CallK Try.prog 10 [.slice kinds.a kinds.len kinds.cap] [.one .p, .one (.i .i64)] w R
def c11 (w : World) (R : Sl → World → Prop) : Prop :=
 CallK Try.prog 11 [] [.one .sl] w R
def c12 (c : Int) (n_ : Int) (w : World) (R : Int → World → Prop) : Prop :=
 CallK Try.prog 12 [.int .i64 c, .int .i64 n_] [.one (.i .i64)] w R
def c13 (what : Int) (v : Int) (w : World) (R : Int → Sl → World → Prop) : Prop :=
 CallK Try.prog 13 [.int .i64 what, .int .i64 v] [.agg [.i .i64, .sl]] w R
def c14 (w_ : Option Addr) (parts : Sl) (w : World) (R : Int → Int → Int → World → Prop) : Prop :=
 CallK Try.prog 14 [.pointer w_, .slice parts.a parts.len parts.cap] [.agg [.i .i64, .i .i64], .one (.i .i64)] w R
def c15 (w_ : Option Addr) (all : Sl) (d_Kind : Int) (d_Who : Int) (d_What : Int) (d_V : Int) (w : World) (R : Sl → Int → World → Prop) : Prop :=
 CallK Try.prog 15 [.pointer w_, .slice all.a all.len all.cap, .agg #[.int .i64 d_Kind, .int .i64 d_Who, .int .i64 d_What, .int .i64 d_V]] [.one .sl, .one (.i .i64)] w R
def c16 (w_ : Option Addr) (w : World) (R : Sl → World → Prop) : Prop :=
 CallK Try.prog 16 [.pointer w_] [.one .sl] w R
def c17 (w : World) (R : Option Addr → World → Prop) : Prop :=
 CallK Try.prog 17 [] [.one .p] w R
def c18 (w_ : Option Addr) (e_Index : Int) (e_Gen : Int) (kind : Int) (w : World) (R : Int → World → Prop) : Prop :=
 CallK Try.prog 18 [.pointer w_, .agg #[.int .i64 e_Index, .int .i64 e_Gen], .int .i64 kind] [.one (.i .i64)] w R
def c19 (w_ : Option Addr) (e_Index : Int) (e_Gen : Int) (p_Kind : Int) (p_Values : Sl) (w : World) (R : Int → World → Prop) : Prop :=
 CallK Try.prog 19 [.pointer w_, .agg #[.int .i64 e_Index, .int .i64 e_Gen], .agg #[.int .i64 p_Kind, .slice p_Values.a p_Values.len p_Values.cap]] [.one (.i .i64)] w R
def c20 (a : Sl) (b : Sl) (w : World) (R : Bool → World → Prop) : Prop :=
 CallK Try.prog 20 [.slice a.a a.len a.cap, .slice b.a b.len b.cap] [.one .b] w R
def c21 (w_ : Option Addr) (w : World) (R : Sl → World → Prop) : Prop :=
 CallK Try.prog 21 [.pointer w_] [.one .sl] w R
def c22 (w_ : Option Addr) (w : World) (R : Option Nat → World → Prop) : Prop :=
 CallK Try.prog 22 [.pointer w_] [.one .m] w R
def c23 (w_ : Option Addr) (e_Index : Int) (e_Gen : Int) (w : World) (R : Int → World → Prop) : Prop :=
 CallK Try.prog 23 [.pointer w_, .agg #[.int .i64 e_Index, .int .i64 e_Gen]] [.one (.i .i64)] w R
def c24 (w_ : Option Addr) (e_Index : Int) (e_Gen : Int) (w : World) (R : Bool → World → Prop) : Prop :=
 CallK Try.prog 24 [.pointer w_, .agg #[.int .i64 e_Index, .int .i64 e_Gen]] [.one .b] w R
def c25 (w_ : Option Addr) (e_Index : Int) (e_Gen : Int) (w : World) (R : Int → Int → Sl → Int → World → Prop) : Prop :=
 CallK Try.prog 25 [.pointer w_, .agg #[.int .i64 e_Index, .int .i64 e_Gen]] [.agg [.i .i64, .i .i64, .sl], .one (.i .i64)] w R
def c26 (w_ : Option Addr) (e_Index : Int) (e_Gen : Int) (kind : Int) (w : World) (R : Int → Sl → Int → World → Prop) : Prop :=
 CallK Try.prog 26 [.pointer w_, .agg #[.int .i64 e_Index, .int .i64 e_Gen], .int .i64 kind] [.agg [.i .i64, .sl], .one (.i .i64)] w R
def c27 (w_ : Option Addr) (e_Index : Int) (e_Gen : Int) (p_Kind : Int) (p_Values : Sl) (w : World) (R : Int → World → Prop) : Prop :=
 CallK Try.prog 27 [.pointer w_, .agg #[.int .i64 e_Index, .int .i64 e_Gen], .agg #[.int .i64 p_Kind, .slice p_Values.a p_Values.len p_Values.cap]] [.one (.i .i64)] w R
def c31 (l : Sl) (w : World) (R : Sl → World → Prop) : Prop :=
 CallK Try.prog 31 [.slice l.a l.len l.cap] [.one .sl] w R
def c32 (l : Sl) (was : Sl) (w : World) (R : Bool → World → Prop) : Prop :=
 CallK Try.prog 32 [.slice l.a l.len l.cap, .slice was.a was.len was.cap] [.one .b] w R
def c33 (kinds : Sl) (w : World) (R : Option Addr → Int → World → Prop) : Prop :=
 CallK Try.prog 33 [.slice kinds.a kinds.len kinds.cap] [.one .p, .one (.i .i64)] w R
def c34 (w_ : Option Addr) (w : World) (R : Sl → World → Prop) : Prop :=
 CallK Try.prog 34 [.pointer w_] [.one .sl] w R
def c35 (w_ : Option Addr) (w : World) (R : Sl → World → Prop) : Prop :=
 CallK Try.prog 35 [.pointer w_] [.one .sl] w R
def c36 (w_ : Option Addr) (w : World) (R : Sl → World → Prop) : Prop :=
 CallK Try.prog 36 [.pointer w_] [.one .sl] w R
def c37 (w_ : Option Addr) (w : World) (R : Sl → World → Prop) : Prop :=
 CallK Try.prog 37 [.pointer w_] [.one .sl] w R
def c38 (a : Option Nat) (b : Sl) (w : World) (R : Bool → World → Prop) : Prop :=
 CallK Try.prog 38 [.map a, .slice b.a b.len b.cap] [.one .b] w R
def c39 (a : Sl) (b : Sl) (w : World) (R : Bool → World → Prop) : Prop :=
 CallK Try.prog 39 [.slice a.a a.len a.cap, .slice b.a b.len b.cap] [.one .b] w R
def c40 (b : Option Addr) (l : Sl) (w : World) (R : World → Prop) : Prop :=
 CallK Try.prog 40 [.pointer b, .slice l.a l.len l.cap] [] w R
def c41 (b : Option Addr) (w : World) (R : World → Prop) : Prop :=
 CallK Try.prog 41 [.pointer b] [] w R
def c42 (kinds : Sl) (w : World) (R : Bool → World → Prop) : Prop :=
 CallK Try.prog 42 [.slice kinds.a kinds.len kinds.cap] [.one .b] w R
def c43 (most : Int) (w : World) (R : Option Addr → Int → World → Prop) : Prop :=
 CallK Try.prog 43 [.int .i64 most] [.one .p, .one (.i .i64)] w R
def c44 (kinds : Sl) (w : World) (R : Sl → World → Prop) : Prop :=
 CallK Try.prog 44 [.slice kinds.a kinds.len kinds.cap] [.one .sl] w R
def c45 (w_ : Option Addr) (kind : Int) (w : World) (R : Int → Bool → World → Prop) : Prop :=
 CallK Try.prog 45 [.pointer w_, .int .i64 kind] [.one (.i .i64), .one .b] w R
def c46 (s : Sl) (i : Int) (v : Sl) (w : World) (R : Sl → World → Prop) : Prop :=
 CallK Try.prog 46 [.slice s.a s.len s.cap, .int .i64 i, .slice v.a v.len v.cap] [.one .sl] w R
def c47 (w_ : Option Addr) (set : Int) (kind : Int) (w : World) (R : Int → World → Prop) : Prop :=
 CallK Try.prog 47 [.pointer w_, .int .i64 set, .int .i64 kind] [.one (.i .i64)] w R
def c48 (p : Option Addr) (w : World) (R : Int → Int → Int → World → Prop) : Prop :=
 CallK Try.prog 48 [.pointer p] [.agg [.i .i64, .i .i64], .one (.i .i64)] w R
def c49 (w_ : Option Addr) (e_Index : Int) (e_Gen : Int) (set : Int) (values : Sl) (w : World) (R : World → Prop) : Prop :=
 CallK Try.prog 49 [.pointer w_, .agg #[.int .i64 e_Index, .int .i64 e_Gen], .int .i64 set, .slice values.a values.len values.cap] [] w R
def c50 (p : Option Addr) (w : World) (R : Sl → Sl → World → Prop) : Prop :=
 CallK Try.prog 50 [.pointer p] [.one .sl, .one .sl] w R
def c51 (b : Sl) (l : Sl) (w : World) (R : Sl → World → Prop) : Prop :=
 CallK Try.prog 51 [.slice b.a b.len b.cap, .slice l.a l.len l.cap] [.one .sl] w R
def c52 (l : Sl) (w : World) (R : Sl → World → Prop) : Prop :=
 CallK Try.prog 52 [.slice l.a l.len l.cap] [.one .sl] w R
def c53 (b : Sl) (n_ : Int) (w : World) (R : Sl → World → Prop) : Prop :=
 CallK Try.prog 53 [.slice b.a b.len b.cap, .int .u64 n_] [.one .sl] w R
def c54 (b : Sl) (n_ : Int) (w : World) (R : Sl → World → Prop) : Prop :=
 CallK Try.prog 54 [.slice b.a b.len b.cap, .int .i64 n_] [.one .sl] w R
def c55 (w_ : Option Addr) (e_Index : Int) (e_Gen : Int) (kind : Int) (w : World) (R : Int → Bool → Int → Int → World → Prop) : Prop :=
 CallK Try.prog 55 [.pointer w_, .agg #[.int .i64 e_Index, .int .i64 e_Gen], .int .i64 kind] [.one (.i .i64), .one .b, .one (.i .i64), .one (.i .i64)] w R
def c57 (w_ : Option Addr) (e_Index : Int) (e_Gen : Int) (w : World) (R : Sl → World → Prop) : Prop :=
 CallK Try.prog 57 [.pointer w_, .agg #[.int .i64 e_Index, .int .i64 e_Gen]] [.one .sl] w R
def c58 (a : Sl) (b : Sl) (w : World) (R : Bool → World → Prop) : Prop :=
 CallK Try.prog 58 [.slice a.a a.len a.cap, .slice b.a b.len b.cap] [.one .b] w R
def c59 (p : Option Addr) (w : World) (R : Sl → World → Prop) : Prop :=
 CallK Try.prog 59 [.pointer p] [.one .sl] w R
def c60 (w_ : Option Addr) (e_Index : Int) (e_Gen : Int) (w : World) (R : Int → Int → Sl → World → Prop) : Prop :=
 CallK Try.prog 60 [.pointer w_, .agg #[.int .i64 e_Index, .int .i64 e_Gen]] [.agg [.i .i64, .i .i64, .sl]] w R
def c61 (t : Option Addr) (w : World) (R : Int → World → Prop) : Prop :=
 CallK Try.prog 61 [.pointer t] [.one (.i .i64)] w R
def c62 (p : Option Addr) (e_Index : Int) (e_Gen : Int) (w : World) (R : Int → World → Prop) : Prop :=
 CallK Try.prog 62 [.pointer p, .agg #[.int .i64 e_Index, .int .i64 e_Gen]] [.one (.i .i64)] w R
def c63 (p : Option Addr) (e_Index : Int) (e_Gen : Int) (w : World) (R : Bool → World → Prop) : Prop :=
 CallK Try.prog 63 [.pointer p, .agg #[.int .i64 e_Index, .int .i64 e_Gen]] [.one .b] w R
def c64 (w_ : Option Addr) (e_Index : Int) (e_Gen : Int) (set : Int) (kind : Int) (w : World) (R : Int → Sl → World → Prop) : Prop :=
 CallK Try.prog 64 [.pointer w_, .agg #[.int .i64 e_Index, .int .i64 e_Gen], .int .i64 set, .int .i64 kind] [.agg [.i .i64, .sl]] w R
def c66 (t : Option Addr) (e_Index : Int) (e_Gen : Int) (w : World) (R : Int → World → Prop) : Prop :=
 CallK Try.prog 66 [.pointer t, .agg #[.int .i64 e_Index, .int .i64 e_Gen]] [.one (.i .i64)] w R
def c73 (kinds : Sl) (w : World) (R : Bool → World → Prop) : Prop :=
 CallK Try.prog 73 [.slice kinds.a kinds.len kinds.cap] [.one .b] w R
def c74 (most : Int) (w : World) (R : Option Addr → Int → World → Prop) : Prop :=
 CallK Try.prog 74 [.int .i64 most] [.one .p, .one (.i .i64)] w R
def c75 (kinds : Sl) (w : World) (R : Sl → World → Prop) : Prop :=
 CallK Try.prog 75 [.slice kinds.a kinds.len kinds.cap] [.one .sl] w R
def c76 (l : Sl) (w : World) (R : Sl → World → Prop) : Prop :=
 CallK Try.prog 76 [.slice l.a l.len l.cap] [.one .sl] w R
def c77 (l : Sl) (w : World) (R : Int → World → Prop) : Prop :=
 CallK Try.prog 77 [.slice l.a l.len l.cap] [.one (.i .i64)] w R
def c78 (w_ : Option Addr) (w : World) (R : Sl → World → Prop) : Prop :=
 CallK Try.prog 78 [.pointer w_] [.one .sl] w R
def c79 (b : Sl) (n_ : Int) (w : World) (R : Sl → World → Prop) : Prop :=
 CallK Try.prog 79 [.slice b.a b.len b.cap, .int .u64 n_] [.one .sl] w R
def c80 (b : Sl) (n_ : Int) (w : World) (R : Sl → World → Prop) : Prop :=
 CallK Try.prog 80 [.slice b.a b.len b.cap, .int .i64 n_] [.one .sl] w R
def c81 (b : Option Addr) (l : Sl) (w : World) (R : World → Prop) : Prop :=
 CallK Try.prog 81 [.pointer b, .slice l.a l.len l.cap] [] w R
def c82 (n_ : Int) (w : World) (R : Int → World → Prop) : Prop :=
 CallK Try.prog 82 [.int .i64 n_] [.one (.i .i64)] w R
def c83 (l : Sl) (w : World) (R : Bool → World → Prop) : Prop :=
 CallK Try.prog 83 [.slice l.a l.len l.cap] [.one .b] w R
def c84 (s : Sl) (w : World) (R : Sl → World → Prop) : Prop :=
 CallK Try.prog 84 [.slice s.a s.len s.cap] [.one .sl] w R
def c85 (s : Sl) (w : World) (R : Sl → World → Prop) : Prop :=
 CallK Try.prog 85 [.slice s.a s.len s.cap] [.one .sl] w R
def c87 (s : Sl) (r : Int) (w : World) (R : World → Prop) : Prop :=
 CallK Try.prog 87 [.slice s.a s.len s.cap, .int .i64 r] [] w R
def c88 (w_ : Option Addr) (set : Int) (w : World) (R : Option Addr → World → Prop) : Prop :=
 CallK Try.prog 88 [.pointer w_, .int .i64 set] [.one .p] w R
def c89 (t : Option Addr) (e_Index : Int) (e_Gen : Int) (values : Sl) (w : World) (R : Int → Int → World → Prop) : Prop :=
 CallK Try.prog 89 [.pointer t, .agg #[.int .i64 e_Index, .int .i64 e_Gen], .slice values.a values.len values.cap] [.one (.i .i64), .one (.i .i64)] w R
def c90 (s : Sl) (w : World) (R : Sl → World → Prop) : Prop :=
 CallK Try.prog 90 [.slice s.a s.len s.cap] [.one .sl] w R
def c91 (b : Sl) (w : World) (R : Sl → World → Prop) : Prop :=
 CallK Try.prog 91 [.slice b.a b.len b.cap] [.one .sl] w R
def c92 (l : Sl) (w : World) (R : Sl → World → Prop) : Prop :=
 CallK Try.prog 92 [.slice l.a l.len l.cap] [.one .sl] w R
def c93 (b : Sl) (n_ : Int) (w : World) (R : Sl → World → Prop) : Prop :=
 CallK Try.prog 93 [.slice b.a b.len b.cap, .int .u64 n_] [.one .sl] w R
def c94 (n_ : Int) (w : World) (R : Int → World → Prop) : Prop :=
 CallK Try.prog 94 [.int .i64 n_] [.one (.i .u64)] w R
def c95 (t : Option Addr) (row : Int) (w : World) (R : Int → Int → Sl → Int → World → Prop) : Prop :=
 CallK Try.prog 95 [.pointer t, .int .i64 row] [.agg [.i .i64, .i .i64], .one .sl, .one (.i .i64)] w R
def c96 (t : Option Addr) (row : Int) (w : World) (R : Int → Int → Bool → Int → World → Prop) : Prop :=
 CallK Try.prog 96 [.pointer t, .int .i64 row] [.agg [.i .i64, .i .i64], .one .b, .one (.i .i64)] w R
def c97 (a : Sl) (b : Sl) (w : World) (R : Bool → World → Prop) : Prop :=
 CallK Try.prog 97 [.slice a.a a.len a.cap, .slice b.a b.len b.cap] [.one .b] w R
def c98 (p : Option Addr) (index : Int) (w : World) (R : Int → Int → Int → World → Prop) : Prop :=
 CallK Try.prog 98 [.pointer p, .int .i64 index] [.agg [.i .i64, .i .i64], .one (.i .i64)] w R
def c99 (s : Sl) (w : World) (R : Sl → World → Prop) : Prop :=
 CallK Try.prog 99 [.slice s.a s.len s.cap] [.one .sl] w R
def c106 (l : Sl) (w : World) (R : Bool → World → Prop) : Prop :=
 CallK Try.prog 106 [.slice l.a l.len l.cap] [.one .b] w R
def c107 (l : Sl) (w : World) (R : Sl → World → Prop) : Prop :=
 CallK Try.prog 107 [.slice l.a l.len l.cap] [.one .sl] w R
def c108 (p : Option Addr) (w : World) (R : Sl → Sl → World → Prop) : Prop :=
 CallK Try.prog 108 [.pointer p] [.one .sl, .one .sl] w R
def c109 (b : Sl) (l : Sl) (w : World) (R : Sl → World → Prop) : Prop :=
 CallK Try.prog 109 [.slice b.a b.len b.cap, .slice l.a l.len l.cap] [.one .sl] w R
def c110 (l : Sl) (w : World) (R : Sl → World → Prop) : Prop :=
 CallK Try.prog 110 [.slice l.a l.len l.cap] [.one .sl] w R
def c111 (n_ : Int) (w : World) (R : Int → World → Prop) : Prop :=
 CallK Try.prog 111 [.int .i64 n_] [.one (.i .u64)] w R
def c112 (b : Option Addr) (l : Sl) (w : World) (R : World → Prop) : Prop :=
 CallK Try.prog 112 [.pointer b, .slice l.a l.len l.cap] [] w R
def c113 (s : ByteArray) (w : World) (R : Bool → World → Prop) : Prop :=
 CallK Try.prog 113 [.string s] [.one .b] w R
def c114 (s : Sl) (v : ByteArray) (w : World) (R : Bool → World → Prop) : Prop :=
 CallK Try.prog 114 [.slice s.a s.len s.cap, .string v] [.one .b] w R
def c116 (columns : Int) (w : World) (R : Option Addr → Int → World → Prop) : Prop :=
 CallK Try.prog 116 [.int .i64 columns] [.one .p, .one (.i .i64)] w R
def c117 (form : Int) (t1 : Option Addr) (t2 : Option Addr) (w : World) (R : Sl → World → Prop) : Prop :=
 CallK Try.prog 117 [.int .u8 form, .pointer t1, .pointer t2] [.one .sl] w R
def c118 (form : Int) (b : Sl) (l : Sl) (w : World) (R : Sl → World → Prop) : Prop :=
 CallK Try.prog 118 [.int .u8 form, .slice b.a b.len b.cap, .slice l.a l.len l.cap] [.one .sl] w R
def c119 (t : Option Addr) (row : Int) (w : World) (R : Bool → World → Prop) : Prop :=
 CallK Try.prog 119 [.pointer t, .int .i64 row] [.one .b] w R
def c123 (s : ByteArray) (w : World) (R : Bool → World → Prop) : Prop :=
 CallK Try.prog 123 [.string s] [.one .b] w R
def c124 (p : Option Addr) (i : Int) (w : World) (R : Bool → World → Prop) : Prop :=
 CallK Try.prog 124 [.pointer p, .int .i64 i] [.one .b] w R
def c125 (l : Sl) (w : World) (R : Sl → World → Prop) : Prop :=
 CallK Try.prog 125 [.slice l.a l.len l.cap] [.one .sl] w R
def c126 (s : Sl) (v : ByteArray) (w : World) (R : Int → World → Prop) : Prop :=
 CallK Try.prog 126 [.slice s.a s.len s.cap, .string v] [.one (.i .i64)] w R
def c128 (l : Sl) (w : World) (R : Sl → World → Prop) : Prop :=
 CallK Try.prog 128 [.slice l.a l.len l.cap] [.one .sl] w R
def c129 (l : Sl) (w : World) (R : Sl → Sl → Sl → World → Prop) : Prop :=
 CallK Try.prog 129 [.slice l.a l.len l.cap] [.agg [.sl, .sl, .sl]] w R
def f2 (w : World) (R : World → Prop) : Prop :=
 CallX Try.prog 1 [] [] w fun  (w : World) =>
 R w
def f3 (kinds : Sl) (w : World) (R : Bool → World → Prop) : Prop :=
 c7  w fun (head : Bool) (w : World) =>
 c8 kinds w fun (p : Option Addr) (ok : Bool) (w : World) =>
 if (cond (!head) true (!ok)) = true then (R false w) else (if p.isNone = true then (R true w) else (c9 p w fun (r : Bool) (w : World) =>
 R r w))
theorem f3_eq (kinds : Sl) (w : World) (R : Bool → World → Prop) :
  f3 kinds w R = dFunc Try.prog ⟨[], []⟩ Try.f3 [.slice kinds.a kinds.len kinds.cap] (fun v w' => viewRet [.one .b] v R w') w := by kernel_rfl
theorem c3_of {kinds : Sl} {w : World} {R : Bool → World → Prop} (h : f3 kinds w R) : c3 kinds w R :=
 callK_of okP Try.func3 (by rw [← f3_eq]; exact h)
def f4 (sets : Sl) (order : Sl) (between : Sl) (w : World) (R : Bool → World → Prop) : Prop :=
 c7  w fun (head : Bool) (w : World) =>
 c11  w fun (r : Sl) (w : World) =>
 c10 r w fun (a : Option Addr) (e : Int) (w : World) =>
 c11  w fun (r2 : Sl) (w : World) =>
 c10 r2 w fun (b : Option Addr) (f : Int) (w : World) =>
 if (cond (cond (cond (cond (!head) true a.isNone) true b.isNone) true (e != 0)) true (f != 0)) = true then (R false w) else (∃ Inv_ : Sl → Int → Nat → World → Prop, (∃ n : Nat, Inv_ ⟨none, 0, 0⟩ 0 n w) ∧ ∀ all : Sl, ∀ i : Int, ∀ m : Nat, ∀ w : World, Inv_ all i m w → (if (cond (decide (i < (sets.len : Int))) (decide (i < 40)) false) = true then (∃ Inv_2 : Sl → Int → Nat → World → Prop, (∃ n : Nat, Inv_2 ⟨none, 0, 0⟩ 0 n w) ∧ ∀ l : Sl, ∀ k : Int, ∀ m3 : Nat, ∀ w : World, Inv_2 l k m3 w → (if (decide (k < 4)) = true then (Ix sets.a sets.len i 1 fun (a2 : Addr) =>
 Ld (.i .i64) w a2 fun (x : Int) =>
 c12 x 16 w fun (r3 : Int) (w : World) =>
 (0 : Int) ≤ k ∧ (if ((IntKind.i64.wrap ((BitVec.ofInt 64 (Int.fdiv r3 (2 ^ (min (Int.toNat k) 64))) &&& BitVec.ofInt 64 1).toNat : Nat)) == 1) = true then (c13 k i w fun (r_Kind : Int) (r_Values : Sl) (w : World) =>
 Nw (.cells #[.int .i64 r_Kind, .slice r_Values.a r_Values.len r_Values.cap] 40) w fun (b2 : Addr) (w : World) =>
 Run .sl Try.prog (Builtin.append_ #[36, 36] 36 #[.slice l.a l.len l.cap, .slice (some b2) 1 1]) w fun (l2 : Sl) (w : World) =>
 ∃ m4 : Nat, m4 < m3 ∧ Inv_2 l2 (IntKind.i64.wrap (k + 1)) m4 w) else (∃ m4 : Nat, m4 < m3 ∧ Inv_2 l (IntKind.i64.wrap (k + 1)) m4 w))) else (c14 a l w fun (x_Index : Int) (x_Gen : Int) (g : Int) (w : World) =>
 Nw (.cells #[.int .i64 0, .int .i64 0] 43) w fun (x2 : Addr) (w : World) =>
 St x2 (.int .i64 x_Index) w fun (w : World) =>
 St (x2.add 1) (.int .i64 x_Gen) w fun (w : World) =>
 c14 b ⟨none, 0, 0⟩ w fun (y_Index : Int) (y_Gen : Int) (h : Int) (w : World) =>
 Nw (.cells #[.int .i64 0, .int .i64 0] 43) w fun (y : Addr) (w : World) =>
 St y (.int .i64 y_Index) w fun (w : World) =>
 St (y.add 1) (.int .i64 y_Gen) w fun (w : World) =>
 Ld (.i .i64) w x2 fun (x_Index2 : Int) => Ld (.i .i64) w (x2.add 1) fun (x_Gen2 : Int) =>
 Ld (.i .i64) w y fun (y_Index2 : Int) => Ld (.i .i64) w (y.add 1) fun (y_Gen2 : Int) =>
 RunRo .b Try.prog (binSem .neq 43 (.tmp 100) (.tmp 101) (.agg #[.int .i64 x_Index2, .int .i64 x_Gen2]) (.agg #[.int .i64 y_Index2, .int .i64 y_Gen2])) w fun (eq : Bool) =>
 if (cond (cond eq true (g != 0)) true (h != 0)) = true then (R false w) else (Ld (.i .i64) w y fun (y_Index3 : Int) => Ld (.i .i64) w (y.add 1) fun (y_Gen3 : Int) =>
 Nw (.cells #[.int .i64 y_Index3, .int .i64 y_Gen3] 43) w fun (b3 : Addr) (w : World) =>
 Run .sl Try.prog (Builtin.append_ #[35, 35] 35 #[.slice all.a all.len all.cap, .slice (some b3) 1 1]) w fun (all2 : Sl) (w : World) =>
 ∃ m2 : Nat, m2 < m ∧ Inv_ all2 (IntKind.i64.wrap (i + 1)) m2 w)))) else (∃ Inv_3 : Sl → Int → Nat → World → Prop, (∃ n : Nat, Inv_3 all 0 n w) ∧ ∀ all3 : Sl, ∀ i2 : Int, ∀ m5 : Nat, ∀ w : World, Inv_3 all3 i2 m5 w → (if (cond (decide (i2 < (between.len : Int))) (decide (i2 < 200)) false) = true then (Ix between.a between.len i2 4 fun (a3 : Addr) =>
 Ld (.i .i64) w a3 fun (d_Kind : Int) => Ld (.i .i64) w (a3.add 1) fun (d_Who : Int) => Ld (.i .i64) w (a3.add 2) fun (d_What : Int) => Ld (.i .i64) w (a3.add 3) fun (d_V : Int) =>
 Nw (.cells #[.int .i64 0, .int .i64 0, .int .i64 0, .int .i64 0] 47) w fun (d : Addr) (w : World) =>
 St d (.int .i64 d_Kind) w fun (w : World) =>
 St (d.add 1) (.int .i64 d_Who) w fun (w : World) =>
 St (d.add 2) (.int .i64 d_What) w fun (w : World) =>
 St (d.add 3) (.int .i64 d_V) w fun (w : World) =>
 Ld (.i .i64) w d fun (Kind : Int) =>
 c12 Kind 3 w fun (r4 : Int) (w : World) =>
 St d (.int .i64 (IntKind.i64.wrap (2 + r4))) w fun (w : World) =>
 Ld (.i .i64) w d fun (d_Kind2 : Int) => Ld (.i .i64) w (d.add 1) fun (d_Who2 : Int) => Ld (.i .i64) w (d.add 2) fun (d_What2 : Int) => Ld (.i .i64) w (d.add 3) fun (d_V2 : Int) =>
 c15 b all3 d_Kind2 d_Who2 d_What2 d_V2 w fun (all4 : Sl) (r5 : Int) (w : World) =>
 if (decide ((all4.len : Int) > 40)) = true then (R false w) else (∃ m6 : Nat, m6 < m5 ∧ Inv_3 all4 (IntKind.i64.wrap (i2 + 1)) m6 w)) else (if ((sets.len : Int) == 0) = true then (Dr w fun (w : World) =>
 c16 a w fun (r6 : Sl) (w : World) =>
 RdB w ⟨r6.a, r6.len, r6.cap⟩ fun (x3 : ByteArray) =>
 c17  w fun (r7 : Option Addr) (w : World) =>
 BytesAt w ⟨r6.a, r6.len, r6.cap⟩ x3 ∧ (c16 r7 w fun (r8 : Sl) (w : World) =>
 BytesAt w ⟨r6.a, r6.len, r6.cap⟩ x3 ∧ (RdB w ⟨r8.a, r8.len, r8.cap⟩ fun (x4 : ByteArray) =>
 R (x3.toList == x4.toList) w))) else (∃ Inv_4 : Int → Nat → World → Prop, (∃ n : Nat, Inv_4 0 n w) ∧ ∀ n_ : Int, ∀ m7 : Nat, ∀ w : World, Inv_4 n_ m7 w → (if (decide (n_ < (IntKind.i64.wrap (8 * (all3.len : Int))))) = true then (((all3.len : Int) : Int) ≠ 0 ∧ (((all3.len : Int) : Int) ≠ 0 ∧ ((4 : Int) ≠ 0 ∧ (∃ J_ : Int → World → Prop, (if (cond (decide (n_ ≥ (IntKind.i64.wrap (4 * (all3.len : Int))))) (decide ((order.len : Int) > 0)) false) = true then (((order.len : Int) : Int) ≠ 0 ∧ (Ix order.a order.len (Int.tmod (Int.tmod n_ (all3.len : Int)) (order.len : Int)) 1 fun (a4 : Addr) =>
 Ld (.i .i64) w a4 fun (x5 : Int) =>
 c12 x5 4 w fun (r9 : Int) (w : World) =>
 (4 : Int) ≠ 0 ∧ (J_ (Int.tmod (IntKind.i64.wrap ((Int.tmod (IntKind.i64.wrap (Int.tdiv n_ (all3.len : Int))) 4) + r9)) 4) w))) else (J_ (Int.tmod (IntKind.i64.wrap (Int.tdiv n_ (all3.len : Int))) 4) w)) ∧ ∀ k2 : Int, ∀ w : World, J_ k2 w → (if (decide (n_ < (IntKind.i64.wrap (4 * (all3.len : Int))))) = true then (Ix all3.a all3.len (Int.tmod n_ (all3.len : Int)) 2 fun (a5 : Addr) =>
 Ld (.i .i64) w a5 fun (x_Index3 : Int) => Ld (.i .i64) w (a5.add 1) fun (x_Gen3 : Int) =>
 c18 b x_Index3 x_Gen3 (IntKind.i64.wrap (k2 + 1)) w fun (r10 : Int) (w : World) =>
 ∃ m8 : Nat, m8 < m7 ∧ Inv_4 (IntKind.i64.wrap (n_ + 1)) m8 w) else (Ix sets.a sets.len (Int.tmod n_ (all3.len : Int)) 1 fun (a6 : Addr) =>
 Ld (.i .i64) w a6 fun (x6 : Int) =>
 c12 x6 16 w fun (r11 : Int) (w : World) =>
 (0 : Int) ≤ k2 ∧ (if ((IntKind.i64.wrap ((BitVec.ofInt 64 (Int.fdiv r11 (2 ^ (min (Int.toNat k2) 64))) &&& BitVec.ofInt 64 1).toNat : Nat)) == 1) = true then (Dr w fun (w : World) =>
 Ix all3.a all3.len (Int.tmod n_ (all3.len : Int)) 2 fun (a7 : Addr) =>
 Ld (.i .i64) w a7 fun (x_Index4 : Int) => Ld (.i .i64) w (a7.add 1) fun (x_Gen4 : Int) =>
 c13 k2 (Int.tmod n_ (all3.len : Int)) w fun (r_Kind2 : Int) (r_Values2 : Sl) (w : World) =>
 w.cell? a7 = some (.int .i64 x_Index4) ∧ w.cell? (a7.add 1) = some (.int .i64 x_Gen4) ∧ (c19 b x_Index4 x_Gen4 r_Kind2 r_Values2 w fun (g2 : Int) (w : World) =>
 if (g2 != 0) = true then (R false w) else (∃ m8 : Nat, m8 < m7 ∧ Inv_4 (IntKind.i64.wrap (n_ + 1)) m8 w))) else (∃ m8 : Nat, m8 < m7 ∧ Inv_4 (IntKind.i64.wrap (n_ + 1)) m8 w)))))))) else (c21 a w fun (r12 : Sl) (w : World) =>
 c21 b w fun (r13 : Sl) (w : World) =>
 c20 r12 r13 w fun (rows : Bool) (w : World) =>
 c22 a w fun (x7 : Option Nat) (w : World) =>
 c22 b w fun (y2 : Option Nat) (w : World) =>
 Run .p Try.prog (Instr.range 58 (.map x7)) w fun (it : Option Addr) (w : World) =>
 ∃ Inv_5 : Nat → World → Prop, (∃ n : Nat, Inv_5  n w) ∧ ∀ m9 : Nat, ∀ w : World, Inv_5  m9 w → (NxM Try.prog (.pointer it) 0 w (fun (w : World) =>
 Dr w fun (w : World) =>
 if rows = true then (RunRo (.i .i64) Try.prog (Builtin.len_ #[58] 3 #[.map x7]) w fun (n_2 : Int) =>
 RunRo (.i .i64) Try.prog (Builtin.len_ #[58] 3 #[.map y2]) w fun (n_3 : Int) =>
 if (n_2 == n_3) = true then (c16 a w fun (r14 : Sl) (w : World) =>
 RdB w ⟨r14.a, r14.len, r14.cap⟩ fun (x8 : ByteArray) =>
 c16 b w fun (r15 : Sl) (w : World) =>
 BytesAt w ⟨r14.a, r14.len, r14.cap⟩ x8 ∧ (RdB w ⟨r15.a, r15.len, r15.cap⟩ fun (x9 : ByteArray) =>
 R (x8.toList == x9.toList) w)) else (R false w)) else (R false w)) fun (key elem : Value) (w : World) =>
 EnM Try.prog (.pointer it) w fun (key2 elem2 : Value) (w : World) =>
 viewRet [.one (.i .i64)] (key2) (fun (set : Int) (_ : World) =>
 viewRet [.one (.i .i64)] (elem2) (fun (n_4 : Int) (_ : World) =>
 RunRoL [.one (.i .i64)] Try.prog (Instr.lookup 58 (.map y2) (.int .i64 set) false) w fun (e2 : Int) (_ : World) =>
 if (e2 != n_4) = true then (R false w) else (∃ m10 : Nat, m10 < m9 ∧ Inv_5  m10 w)) w) w)))))))))
def f5 (deeds : Sl) (w : World) (R : Bool → World → Prop) : Prop :=
 c7  w fun (head : Bool) (w : World) =>
 c11  w fun (r : Sl) (w : World) =>
 c10 r w fun (w_ : Option Addr) (e : Int) (w : World) =>
 if (cond (cond (!head) true w_.isNone) true (e != 0)) = true then (R false w) else (∃ Inv_ : Sl → Sl → Int → Int → Nat → World → Prop, (∃ n : Nat, Inv_ ⟨none, 0, 0⟩ ⟨none, 0, 0⟩ 0 0 n w) ∧ ∀ all : Sl, ∀ on : Sl, ∀ living : Int, ∀ i : Int, ∀ m : Nat, ∀ w : World, Inv_ all on living i m w → (if (cond (decide (i < (deeds.len : Int))) (decide (i < 300)) false) = true then (Ix deeds.a deeds.len i 4 fun (a : Addr) =>
 Ld (.i .i64) w a fun (d_Kind : Int) => Ld (.i .i64) w (a.add 1) fun (d_Who : Int) => Ld (.i .i64) w (a.add 2) fun (d_What : Int) => Ld (.i .i64) w (a.add 3) fun (d_V : Int) =>
 Nw (.cells #[.int .i64 0, .int .i64 0, .int .i64 0, .int .i64 0] 47) w fun (d : Addr) (w : World) =>
 St d (.int .i64 d_Kind) w fun (w : World) =>
 St (d.add 1) (.int .i64 d_Who) w fun (w : World) =>
 St (d.add 2) (.int .i64 d_What) w fun (w : World) =>
 St (d.add 3) (.int .i64 d_V) w fun (w : World) =>
 Ld (.i .i64) w d fun (Kind : Int) =>
 c12 Kind 3 w fun (r2 : Int) (w : World) =>
 if (cond (decide (r2 > 0)) true ((all.len : Int) == 0)) = true then (Ld (.i .i64) w (d.add 2) fun (What : Int) =>
 Ld (.i .i64) w (d.add 3) fun (V : Int) =>
 c13 What V w fun (r_Kind : Int) (r_Values : Sl) (w : World) =>
 Nw (.cells #[.int .i64 r_Kind, .slice r_Values.a r_Values.len r_Values.cap] 40) w fun (b : Addr) (w : World) =>
 c14 w_ ⟨some b, 1, 1⟩ w fun (x_Index : Int) (x_Gen : Int) (f : Int) (w : World) =>
 Nw (.cells #[.int .i64 0, .int .i64 0] 43) w fun (x : Addr) (w : World) =>
 St x (.int .i64 x_Index) w fun (w : World) =>
 St (x.add 1) (.int .i64 x_Gen) w fun (w : World) =>
 if (cond (!((f == 0) == (decide (living < 200)))) true (cond (f != 0) (f != 40) false)) = true then (R false w) else (if (f == 0) = true then (∃ Inv_2 : Int → Nat → World → Prop, (∃ n : Nat, Inv_2 0 n w) ∧ ∀ k : Int, ∀ m3 : Nat, ∀ w : World, Inv_2 k m3 w → (if (decide (k < (all.len : Int))) = true then (Dr w fun (w : World) =>
 Ix all.a all.len k 2 fun (a2 : Addr) =>
 Ld (.i .i64) w a2 fun (x_Index2 : Int) => Ld (.i .i64) w (a2.add 1) fun (x_Gen2 : Int) =>
 Ld (.i .i64) w x fun (x_Index3 : Int) => Ld (.i .i64) w (x.add 1) fun (x_Gen3 : Int) =>
 RunRo .b Try.prog (binSem .eql 43 (.tmp 100) (.tmp 101) (.agg #[.int .i64 x_Index2, .int .i64 x_Gen2]) (.agg #[.int .i64 x_Index3, .int .i64 x_Gen3])) w fun (eq : Bool) =>
 if eq = true then (R false w) else (∃ m4 : Nat, m4 < m3 ∧ Inv_2 (IntKind.i64.wrap (k + 1)) m4 w)) else (Ld (.i .i64) w x fun (x_Index4 : Int) => Ld (.i .i64) w (x.add 1) fun (x_Gen4 : Int) =>
 Nw (.cells #[.int .i64 x_Index4, .int .i64 x_Gen4] 43) w fun (b2 : Addr) (w : World) =>
 Run .sl Try.prog (Builtin.append_ #[35, 35] 35 #[.slice all.a all.len all.cap, .slice (some b2) 1 1]) w fun (all2 : Sl) (w : World) =>
 Nw (.cells #[.bool true] 4) w fun (b3 : Addr) (w : World) =>
 Run .sl Try.prog (Builtin.append_ #[61, 61] 61 #[.slice on.a on.len on.cap, .slice (some b3) 1 1]) w fun (on2 : Sl) (w : World) =>
 ∃ m2 : Nat, m2 < m ∧ Inv_ all2 on2 (IntKind.i64.wrap (living + 1)) (IntKind.i64.wrap (i + 1)) m2 w))) else (∃ m2 : Nat, m2 < m ∧ Inv_ all on living (IntKind.i64.wrap (i + 1)) m2 w))) else (Ld (.i .i64) w (d.add 1) fun (Who : Int) =>
 c12 Who (all.len : Int) w fun (k2 : Int) (w : World) =>
 Ix all.a all.len k2 2 fun (a3 : Addr) =>
 Ld (.i .i64) w a3 fun (x_Index5 : Int) => Ld (.i .i64) w (a3.add 1) fun (x_Gen5 : Int) =>
 c23 w_ x_Index5 x_Gen5 w fun (f2 : Int) (w : World) =>
 Ix on.a on.len k2 1 fun (a4 : Addr) =>
 Ld .b w a4 fun (x2 : Bool) =>
 if (cond (!((f2 == 0) == x2)) true (cond (f2 != 0) (f2 != 41) false)) = true then (R false w) else (Ix on.a on.len k2 1 fun (a5 : Addr) =>
 Ld .b w a5 fun (x3 : Bool) =>
 if x3 = true then (Ix on.a on.len k2 1 fun (a6 : Addr) =>
 St a6 (.bool false) w fun (w : World) =>
 ∃ m2 : Nat, m2 < m ∧ Inv_ all on (IntKind.i64.wrap (living - 1)) (IntKind.i64.wrap (i + 1)) m2 w) else (∃ m2 : Nat, m2 < m ∧ Inv_ all on living (IntKind.i64.wrap (i + 1)) m2 w)))) else (∃ Inv_3 : Int → Nat → World → Prop, (∃ n : Nat, Inv_3 0 n w) ∧ ∀ k3 : Int, ∀ m5 : Nat, ∀ w : World, Inv_3 k3 m5 w → (if (decide (k3 < (all.len : Int))) = true then (Ix all.a all.len k3 2 fun (a7 : Addr) =>
 Ld (.i .i64) w a7 fun (x_Index6 : Int) => Ld (.i .i64) w (a7.add 1) fun (x_Gen6 : Int) =>
 c24 w_ x_Index6 x_Gen6 w fun (is : Bool) (w : World) =>
 Ix all.a all.len k3 2 fun (a8 : Addr) =>
 Ld (.i .i64) w a8 fun (x_Index7 : Int) => Ld (.i .i64) w (a8.add 1) fun (x_Gen7 : Int) =>
 c25 w_ x_Index7 x_Gen7 w fun (x__E_Index : Int) (x__E_Gen : Int) (x__Parts : Sl) (f3 : Int) (w : World) =>
 Nw (.cells #[.int .i64 0, .int .i64 0, .slice none 0 0] 65) w fun (x_ : Addr) (w : World) =>
 St x_ (.int .i64 x__E_Index) w fun (w : World) =>
 St (x_.add 1) (.int .i64 x__E_Gen) w fun (w : World) =>
 St (x_.add 2) (.slice x__Parts.a x__Parts.len x__Parts.cap) w fun (w : World) =>
 Ix all.a all.len k3 2 fun (a9 : Addr) =>
 Ld (.i .i64) w a9 fun (x_Index8 : Int) => Ld (.i .i64) w (a9.add 1) fun (x_Gen8 : Int) =>
 c26 w_ x_Index8 x_Gen8 9 w fun (x__Kind : Int) (x__Values : Sl) (g : Int) (w : World) =>
 Nw (.cells #[.int .i64 0, .slice none 0 0] 40) w fun (x_2 : Addr) (w : World) =>
 St x_2 (.int .i64 x__Kind) w fun (w : World) =>
 St (x_2.add 1) (.slice x__Values.a x__Values.len x__Values.cap) w fun (w : World) =>
 Ix all.a all.len k3 2 fun (a10 : Addr) =>
 Ld (.i .i64) w a10 fun (x_Index9 : Int) => Ld (.i .i64) w (a10.add 1) fun (x_Gen9 : Int) =>
 c27 w_ x_Index9 x_Gen9 9 ⟨none, 0, 0⟩ w fun (h : Int) (w : World) =>
 Ix all.a all.len k3 2 fun (a11 : Addr) =>
 Ld (.i .i64) w a11 fun (x_Index10 : Int) => Ld (.i .i64) w (a11.add 1) fun (x_Gen10 : Int) =>
 c18 w_ x_Index10 x_Gen10 9 w fun (i2 : Int) (w : World) =>
 Ix all.a all.len k3 2 fun (a12 : Addr) =>
 Ld (.i .i64) w a12 fun (x_Index11 : Int) => Ld (.i .i64) w (a12.add 1) fun (x_Gen11 : Int) =>
 c19 w_ x_Index11 x_Gen11 9 ⟨none, 0, 0⟩ w fun (j : Int) (w : World) =>
 ∃ J_ : Int → World → Prop, (Ix on.a on.len k3 1 fun (a13 : Addr) =>
 Ld .b w a13 fun (x4 : Bool) =>
 if (!x4) = true then (J_ 41 w) else (J_ 60 w)) ∧ ∀ want : Int, ∀ w : World, J_ want w → (Ix on.a on.len k3 1 fun (a14 : Addr) =>
 Ld .b w a14 fun (x5 : Bool) =>
 if (!(is == x5)) = true then (R false w) else (Ix on.a on.len k3 1 fun (a15 : Addr) =>
 Ld .b w a15 fun (x6 : Bool) =>
 if (!((f3 == 0) == x6)) = true then (R false w) else (if (g != want) = true then (R false w) else (if (h != want) = true then (R false w) else (if (i2 != want) = true then (R false w) else (if (j != want) = true then (R false w) else (∃ m6 : Nat, m6 < m5 ∧ Inv_3 (IntKind.i64.wrap (k3 + 1)) m6 w)))))))) else (c21 w_ w fun (r3 : Sl) (w : World) =>
 R ((r3.len : Int) == living) w)))))
def f7 (w : World) (R : Bool → World → Prop) : Prop :=
 c11  w fun (r : Sl) (w : World) =>
 c10 r w fun (w_ : Option Addr) (e : Int) (w : World) =>
 if (cond w_.isNone true (e != 0)) = true then (R false w) else (Nw (.cells #[.int .i64 7] 2) w fun (b : Addr) (w : World) =>
 Nw (.cells #[.int .i64 1, .int .i64 2] 2) w fun (b2 : Addr) (w : World) =>
 Nw (.cells #[.int .i64 2, .slice (some b) 1 1, .int .i64 1, .slice (some b2) 2 2] 40) w fun (b3 : Addr) (w : World) =>
 c14 w_ ⟨some b3, 2, 2⟩ w fun (a_Index : Int) (a_Gen : Int) (f : Int) (w : World) =>
 Nw (.cells #[.int .i64 0, .int .i64 0] 43) w fun (a : Addr) (w : World) =>
 St a (.int .i64 a_Index) w fun (w : World) =>
 St (a.add 1) (.int .i64 a_Gen) w fun (w : World) =>
 c14 w_ ⟨none, 0, 0⟩ w fun (b_Index : Int) (b_Gen : Int) (g : Int) (w : World) =>
 Nw (.cells #[.int .i64 0, .int .i64 0] 43) w fun (b4 : Addr) (w : World) =>
 St b4 (.int .i64 b_Index) w fun (w : World) =>
 St (b4.add 1) (.int .i64 b_Gen) w fun (w : World) =>
 Ld (.i .i64) w b4 fun (b_Index2 : Int) => Ld (.i .i64) w (b4.add 1) fun (b_Gen2 : Int) =>
 c19 w_ b_Index2 b_Gen2 3 ⟨none, 0, 0⟩ w fun (h : Int) (w : World) =>
 Ld (.i .i64) w b4 fun (b_Index3 : Int) => Ld (.i .i64) w (b4.add 1) fun (b_Gen3 : Int) =>
 c19 w_ b_Index3 b_Gen3 3 ⟨none, 0, 0⟩ w fun (i : Int) (w : World) =>
 Ld (.i .i64) w a fun (a_Index2 : Int) => Ld (.i .i64) w (a.add 1) fun (a_Gen2 : Int) =>
 c23 w_ a_Index2 a_Gen2 w fun (j : Int) (w : World) =>
 if (f == 0) = true then (if (g == 0) = true then (Ld (.i .i64) w a fun (a_Index3 : Int) => Ld (.i .i64) w (a.add 1) fun (a_Gen3 : Int) =>
 RunRo .b Try.prog (binSem .eql 43 (.tmp 54) (.tmp 55) (.agg #[.int .i64 a_Index3, .int .i64 a_Gen3]) (.agg #[.int .i64 0, .int .i64 1])) w fun (eq : Bool) =>
 if eq = true then (Ld (.i .i64) w b4 fun (b_Index4 : Int) => Ld (.i .i64) w (b4.add 1) fun (b_Gen4 : Int) =>
 RunRo .b Try.prog (binSem .eql 43 (.tmp 59) (.tmp 60) (.agg #[.int .i64 b_Index4, .int .i64 b_Gen4]) (.agg #[.int .i64 1, .int .i64 1])) w fun (eq2 : Bool) =>
 if eq2 = true then (if (h == 0) = true then (if (i == 61) = true then (if (j == 0) = true then (c16 w_ w fun (r2 : Sl) (w : World) =>
 RdB w ⟨r2.a, r2.len, r2.cap⟩ fun (x : ByteArray) =>
 R (x.toList == (⟨#[2, 0, 2, 2, 1, 0, 0, 8]⟩ : ByteArray).toList) w) else (R false w)) else (R false w)) else (R false w)) else (R false w)) else (R false w)) else (R false w)) else (R false w))
theorem f7_eq (w : World) (R : Bool → World → Prop) :
  f7  w R = dFunc Try.prog ⟨[], []⟩ Try.f7 [] (fun v w' => viewRet [.one .b] v R w') w := by kernel_rfl
theorem c7_of {w : World} {R : Bool → World → Prop} (h : f7  w R) : c7  w R :=
 callK_of okP Try.func7 (by rw [← f7_eq]; exact h)
def f8 (kinds : Sl) (w : World) (R : Option Addr → Bool → World → Prop) : Prop :=
 c31 kinds w fun (l : Sl) (w : World) =>
 c10 l w fun (a : Option Addr) (e : Int) (w : World) =>
 c32 l kinds w fun (whole : Bool) (w : World) =>
 c33 kinds w fun (b : Option Addr) (f : Int) (w : World) =>
 if (cond (cond (!whole) true (e != f)) true (!(a.isNone == b.isNone))) = true then (R none false w) else (if a.isNone = true then (R none true w) else (Nw (.cells #[.pointer a, .pointer b, .slice kinds.a kinds.len kinds.cap, .slice none 0 0, .slice none 0 0, .slice none 0 0, .slice none 0 0, .slice none 0 0, .slice none 0 0, .slice none 0 0, .slice none 0 0, .slice none 0 0, .int .i64 0, .int .i64 0, .int .i64 0] 88) w fun (a2 : Addr) (w : World) =>
 R (some a2) true w))
theorem f8_eq (kinds : Sl) (w : World) (R : Option Addr → Bool → World → Prop) :
  f8 kinds w R = dFunc Try.prog ⟨[], []⟩ Try.f8 [.slice kinds.a kinds.len kinds.cap] (fun v w' => viewRet [.one .p, .one .b] v R w') w := by kernel_rfl
theorem c8_of {kinds : Sl} {w : World} {R : Option Addr → Bool → World → Prop} (h : f8 kinds w R) : c8 kinds w R :=
 callK_of okP Try.func8 (by rw [← f8_eq]; exact h)
def f9 (p : Option Addr) (w : World) (R : Bool → World → Prop) : Prop :=
 NN p fun (p_ : Addr) =>
 Ld .p w p_ fun (a : Option Addr) =>
 c21 a w fun (r : Sl) (w : World) =>
 NN p fun (p_2 : Addr) =>
 Ld .p w p_2 fun (a2 : Option Addr) =>
 c21 a2 w fun (s : Sl) (w : World) =>
 NN p fun (p_3 : Addr) =>
 Ld .p w (p_3.add 1) fun (b : Option Addr) =>
 c34 b w fun (t : Sl) (w : World) =>
 NN p fun (p_4 : Addr) =>
 Ld .p w p_4 fun (a3 : Option Addr) =>
 c22 a3 w fun (x : Option Nat) (w : World) =>
 NN p fun (p_5 : Addr) =>
 Ld .p w p_5 fun (a4 : Option Addr) =>
 c22 a4 w fun (y : Option Nat) (w : World) =>
 NN p fun (p_6 : Addr) =>
 Ld .p w (p_6.add 1) fun (b2 : Option Addr) =>
 c35 b2 w fun (z : Sl) (w : World) =>
 NN p fun (p_7 : Addr) =>
 Ld .p w p_7 fun (a5 : Option Addr) =>
 c36 a5 w fun (k : Sl) (w : World) =>
 NN p fun (p_8 : Addr) =>
 Ld .p w p_8 fun (a6 : Option Addr) =>
 c36 a6 w fun (l : Sl) (w : World) =>
 NN p fun (p_9 : Addr) =>
 Ld .p w p_9 fun (a7 : Option Addr) =>
 c16 a7 w fun (m : Sl) (w : World) =>
 NN p fun (p_10 : Addr) =>
 Ld .p w p_10 fun (a8 : Option Addr) =>
 c16 a8 w fun (n_ : Sl) (w : World) =>
 NN p fun (p_11 : Addr) =>
 Ld .p w (p_11.add 1) fun (b3 : Option Addr) =>
 c37 b3 w fun (r2 : Sl) (w : World) =>
 RdB w ⟨r2.a, r2.len, r2.cap⟩ fun (o : ByteArray) =>
 c20 r t w fun (one : Bool) (w : World) =>
 c38 x z w fun (two : Bool) (w : World) =>
 NN p fun (p_12 : Addr) =>
 Ld .sl w (p_12.add 2) fun (kinds : Sl) =>
 c39 k kinds w fun (three : Bool) (w : World) =>
 ∃ J_ : World → Prop, (if (!one) = true then (R false w) else (if (!two) = true then (R false w) else (if (!three) = true then (R false w) else (RdB w ⟨m.a, m.len, m.cap⟩ fun (x2 : ByteArray) =>
 if (!(x2.toList == o.toList)) = true then (R false w) else (J_  w))))) ∧ ∀ w : World, J_  w → (NN p fun (p_13 : Addr) =>
 c40 (some (p_13.add 6)) r w fun  (w : World) =>
 NN p fun (p_14 : Addr) =>
 c41 (some (p_14.add 6)) w fun  (w : World) =>
 ∃ J_2 : World → Prop, (if (!x.isNone) = true then (RunU Try.prog (Instr.mapUpdate 58 (.map x) (.int .i64 (-1)) (.int .i64 7)) w fun (w : World) =>
 RunU Try.prog (Instr.mapUpdate 58 (.map x) (.int .i64 2) (.int .i64 1000)) w fun (w : World) =>
 J_2  w) else (J_2  w)) ∧ ∀ w : World, J_2  w → (∃ Inv_ : Int → Nat → World → Prop, (∃ n : Nat, Inv_ 0 n w) ∧ ∀ i : Int, ∀ m2 : Nat, ∀ w : World, Inv_ i m2 w → (if (decide (i < (k.len : Int))) = true then (Ix k.a k.len i 2 fun (a9 : Addr) =>
 Ld .sl w (a9.add 1) fun (Fields : Sl) =>
 ∃ Inv_2 : Int → Nat → World → Prop, (∃ n : Nat, Inv_2 0 n w) ∧ ∀ j : Int, ∀ m4 : Nat, ∀ w : World, Inv_2 j m4 w → (if (decide (j < (Fields.len : Int))) = true then (Ix Fields.a Fields.len j 1 fun (a10 : Addr) =>
 St a10 (.string (⟨#[111, 118, 101, 114]⟩ : ByteArray)) w fun (w : World) =>
 ∃ m5 : Nat, m5 < m4 ∧ Inv_2 (IntKind.i64.wrap (j + 1)) m5 w) else (Nw (.cells #[.string (⟨#[111, 118, 101, 114]⟩ : ByteArray), .string (⟨#[111, 118, 101, 114]⟩ : ByteArray), .string (⟨#[111, 118, 101, 114]⟩ : ByteArray), .string (⟨#[111, 118, 101, 114]⟩ : ByteArray), .string (⟨#[111, 118, 101, 114]⟩ : ByteArray)] 9) w fun (b4 : Addr) (w : World) =>
 Run .sl Try.prog (Builtin.append_ #[81, 81] 81 #[.slice Fields.a Fields.len Fields.cap, .slice (some b4) 5 5]) w fun (f : Sl) (w : World) =>
 Ix k.a k.len i 2 fun (a11 : Addr) =>
 St a11 (.string (⟨#[111, 118, 101, 114]⟩ : ByteArray)) w fun (w : World) =>
 St (a11.add 1) (.slice f.a f.len f.cap) w fun (w : World) =>
 ∃ m3 : Nat, m3 < m2 ∧ Inv_ (IntKind.i64.wrap (i + 1)) m3 w))) else (Nw (.cells #[.string (⟨#[111, 118, 101, 114]⟩ : ByteArray), .slice none 0 0, .string (⟨#[111, 118, 101, 114]⟩ : ByteArray), .slice none 0 0] 94) w fun (b5 : Addr) (w : World) =>
 Run .sl Try.prog (Builtin.append_ #[22, 22] 22 #[.slice k.a k.len k.cap, .slice (some b5) 2 2]) w fun (k2 : Sl) (w : World) =>
 ∃ Inv_3 : Int → Nat → World → Prop, (∃ n : Nat, Inv_3 0 n w) ∧ ∀ i2 : Int, ∀ m6 : Nat, ∀ w : World, Inv_3 i2 m6 w → (if (decide (i2 < (m.len : Int))) = true then (Ix m.a m.len i2 1 fun (a12 : Addr) =>
 St a12 (.int .u8 201) w fun (w : World) =>
 ∃ m7 : Nat, m7 < m6 ∧ Inv_3 (IntKind.i64.wrap (i2 + 1)) m7 w) else (∃ Inv_4 : Sl → Int → Nat → World → Prop, (∃ n : Nat, Inv_4 m 0 n w) ∧ ∀ m9 : Sl, ∀ i3 : Int, ∀ m8 : Nat, ∀ w : World, Inv_4 m9 i3 m8 w → (if (decide (i3 < 70)) = true then (Nw (.cells #[.int .u8 201] 5) w fun (b6 : Addr) (w : World) =>
 Run .sl Try.prog (Builtin.append_ #[50, 50] 50 #[.slice m9.a m9.len m9.cap, .slice (some b6) 1 1]) w fun (m11 : Sl) (w : World) =>
 ∃ m10 : Nat, m10 < m8 ∧ Inv_4 m11 (IntKind.i64.wrap (i3 + 1)) m10 w) else (c20 s t w fun (one2 : Bool) (w : World) =>
 c38 y z w fun (two2 : Bool) (w : World) =>
 NN p fun (p_15 : Addr) =>
 Ld .sl w (p_15.add 2) fun (kinds2 : Sl) =>
 c39 l kinds2 w fun (three2 : Bool) (w : World) =>
 NN p fun (p_16 : Addr) =>
 c40 (some (p_16.add 6)) s w fun  (w : World) =>
 NN p fun (p_17 : Addr) =>
 c41 (some (p_17.add 6)) w fun  (w : World) =>
 ∃ J_3 : World → Prop, (if (!y.isNone) = true then (RunU Try.prog (Instr.mapUpdate 58 (.map y) (.int .i64 (-2)) (.int .i64 8)) w fun (w : World) =>
 J_3  w) else (J_3  w)) ∧ ∀ w : World, J_3  w → (if one2 = true then (if two2 = true then (if three2 = true then (RdB w ⟨n_.a, n_.len, n_.cap⟩ fun (x3 : ByteArray) =>
 if (x3.toList == o.toList) = true then (NN p fun (p_18 : Addr) =>
 Ld .sl w (p_18.add 2) fun (kinds3 : Sl) =>
 R ((k2.len : Int) == (IntKind.i64.wrap ((kinds3.len : Int) + 2))) w) else (R false w)) else (R false w)) else (R false w)) else (R false w))))))))))
theorem f9_eq (p : Option Addr) (w : World) (R : Bool → World → Prop) :
  f9 p w R = dFunc Try.prog ⟨[(23, ⟨[(17, .i .i64)], [0, 4, 5, 7, 8, 9, 10, 11, 12, 13]⟩), (27, ⟨[(19, .i .i64)], [0, 4, 5, 7, 8, 9, 10, 11, 12, 13, 17, 18]⟩), (34, ⟨[(20, .i .i64)], [0, 4, 5, 7, 8, 9, 10, 11, 12, 13]⟩), (38, ⟨[(11, .sl), (21, .i .i64)], [0, 4, 5, 7, 8, 9, 10, 12, 13]⟩)], [(17, ⟨[], [0, 3, 4, 5, 6, 7, 8, 9, 10, 11, 12, 13]⟩), (22, ⟨[], [0, 4, 5, 7, 8, 9, 10, 11, 12, 13]⟩), (48, ⟨[], [0, 9, 12, 13, 14, 15, 16]⟩)]⟩ Try.f9 [.pointer p] (fun v w' => viewRet [.one .b] v R w') w := by kernel_rfl
theorem c9_of {p : Option Addr} {w : World} {R : Bool → World → Prop} (h : f9 p w R) : c9 p w R :=
 callK_of okP Try.func9 (by rw [← f9_eq]; exact h)
def f10 (kinds : Sl) (w : World) (R : Option Addr → Int → World → Prop) : Prop :=
 c42 kinds w fun (r : Bool) (w : World) =>
 if (!r) = true then (R none 65 w) else (c43 200 w fun (p : Option Addr) (e : Int) (w : World) =>
 if (e != 0) = true then (R none e w) else (c44 kinds w fun (r2 : Sl) (w : World) =>
 Nw (.map #[] 0) w fun (m : Addr) (w : World) =>
 Nw (.map #[] 0) w fun (m2 : Addr) (w : World) =>
 Nw (.cells #[.slice r2.a r2.len r2.cap, .pointer p, .map (some m.block), .map (some m2.block)] 101) w fun (a : Addr) (w : World) =>
 R (some a) 0 w))
theorem f10_eq (kinds : Sl) (w : World) (R : Option Addr → Int → World → Prop) :
  f10 kinds w R = dFunc Try.prog ⟨[], []⟩ Try.f10 [.slice kinds.a kinds.len kinds.cap] (fun v w' => viewRet [.one .p, .one (.i .i64)] v R w') w := by kernel_rfl
theorem c10_of {kinds : Sl} {w : World} {R : Option Addr → Int → World → Prop} (h : f10 kinds w R) : c10 kinds w R :=
 callK_of okP Try.func10 (by rw [← f10_eq]; exact h)
def f11 (w : World) (R : Sl → World → Prop) : Prop :=
 Nw (.cells #[.string (⟨#[120]⟩ : ByteArray), .string (⟨#[121]⟩ : ByteArray)] 9) w fun (b : Addr) (w : World) =>
 Nw (.cells #[.string (⟨#[120]⟩ : ByteArray)] 9) w fun (b2 : Addr) (w : World) =>
 Nw (.cells #[.string (⟨#[97]⟩ : ByteArray), .string (⟨#[98]⟩ : ByteArray), .string (⟨#[99]⟩ : ByteArray), .string (⟨#[100]⟩ : ByteArray)] 9) w fun (b3 : Addr) (w : World) =>
 Nw (.cells #[.string (⟨#[80, 111, 115]⟩ : ByteArray), .slice (some b) 2 2, .string (⟨#[86, 101, 108]⟩ : ByteArray), .slice (some b2) 1 1, .string (⟨#[68, 101, 97, 100]⟩ : ByteArray), .slice none 0 0, .string (⟨#[66, 111, 120]⟩ : ByteArray), .slice (some b3) 4 4] 94) w fun (b4 : Addr) (w : World) =>
 R ⟨some b4, 4, 4⟩ w
theorem f11_eq (w : World) (R : Sl → World → Prop) :
  f11  w R = dFunc Try.prog ⟨[], []⟩ Try.f11 [] (fun v w' => viewRet [.one .sl] v R w') w := by kernel_rfl
theorem c11_of {w : World} {R : Sl → World → Prop} (h : f11  w R) : c11  w R :=
 callK_of okP Try.func11 (by rw [← f11_eq]; exact h)
def f12 (c : Int) (n_ : Int) (w : World) (R : Int → World → Prop) : Prop :=
 if (decide (c < 0)) = true then ((n_ : Int) ≠ 0 ∧ (R (Int.tmod (IntKind.i64.wrap (0 - (IntKind.i64.wrap (c + 1)))) n_) w)) else ((n_ : Int) ≠ 0 ∧ (R (Int.tmod c n_) w))
def f14 (w_ : Option Addr) (parts : Sl) (w : World) (R : Int → Int → Int → World → Prop) : Prop :=
 Nw (.cells #[.int .i64 0, .int .i64 0] 43) w fun (a : Addr) (w : World) =>
 ∃ Inv_ : Int → Sl → Int → Nat → World → Prop, (∃ n : Nat, Inv_ 0 ⟨none, 0, 0⟩ 0 n w) ∧ ∀ set : Int, ∀ values : Sl, ∀ t16 : Int, ∀ m : Nat, ∀ w : World, Inv_ set values t16 m w → (if (decide (t16 < (parts.len : Int))) = true then (Ix parts.a parts.len t16 2 fun (a2 : Addr) =>
 Ld (.i .i64) w a2 fun (p_Kind : Int) => Ld .sl w (a2.add 1) fun (p_Values : Sl) =>
 Nw (.cells #[.int .i64 0, .slice none 0 0] 40) w fun (p : Addr) (w : World) =>
 St p (.int .i64 p_Kind) w fun (w : World) =>
 St (p.add 1) (.slice p_Values.a p_Values.len p_Values.cap) w fun (w : World) =>
 Ld (.i .i64) w p fun (Kind : Int) =>
 c45 w_ Kind w fun (n_ : Int) (ok : Bool) (w : World) =>
 if (!ok) = true then (St a (.int .i64 0) w fun (w : World) =>
 St (a.add 1) (.int .i64 0) w fun (w : World) =>
 Ld (.i .i64) w a fun (r_Index : Int) => Ld (.i .i64) w (a.add 1) fun (r_Gen : Int) =>
 R r_Index r_Gen 60 w) else (Ld (.i .i64) w p fun (Kind2 : Int) =>
 (0 : Int) ≤ Kind2 ∧ (if ((IntKind.i64.wrap ((BitVec.ofInt 64 (Int.fdiv set (2 ^ (min (Int.toNat Kind2) 64))) &&& BitVec.ofInt 64 1).toNat : Nat)) == 1) = true then (St a (.int .i64 0) w fun (w : World) =>
 St (a.add 1) (.int .i64 0) w fun (w : World) =>
 Ld (.i .i64) w a fun (r_Index2 : Int) => Ld (.i .i64) w (a.add 1) fun (r_Gen2 : Int) =>
 R r_Index2 r_Gen2 61 w) else (Ld .sl w (p.add 1) fun (Values : Sl) =>
 if ((Values.len : Int) != n_) = true then (St a (.int .i64 0) w fun (w : World) =>
 St (a.add 1) (.int .i64 0) w fun (w : World) =>
 Ld (.i .i64) w a fun (r_Index3 : Int) => Ld (.i .i64) w (a.add 1) fun (r_Gen3 : Int) =>
 R r_Index3 r_Gen3 63 w) else (Dr w fun (w : World) =>
 Ld (.i .i64) w p fun (Kind3 : Int) =>
 Ld .sl w (p.add 1) fun (Values2 : Sl) =>
 c47 w_ set Kind3 w fun (r : Int) (w : World) =>
 w.cell? (p.add 1) = some (.slice Values2.a Values2.len Values2.cap) ∧ (c46 values r Values2 w fun (values2 : Sl) (w : World) =>
 Ld (.i .i64) w p fun (Kind4 : Int) =>
 (0 : Int) ≤ Kind4 ∧ (∃ m2 : Nat, m2 < m ∧ Inv_ (IntKind.i64.wrap ((BitVec.ofInt 64 set ||| BitVec.ofInt 64 (IntKind.i64.wrap (1 * 2 ^ (min (Int.toNat Kind4) 64)))).toNat : Nat)) values2 (IntKind.i64.wrap (t16 + 1)) m2 w))))))) else (NN w_ fun (w_2 : Addr) =>
 Ld .p w (w_2.add 1) fun (pool : Option Addr) =>
 c48 pool w fun (e_Index : Int) (e_Gen : Int) (bad : Int) (w : World) =>
 Nw (.cells #[.int .i64 0, .int .i64 0] 43) w fun (e : Addr) (w : World) =>
 St e (.int .i64 e_Index) w fun (w : World) =>
 St (e.add 1) (.int .i64 e_Gen) w fun (w : World) =>
 if (bad != 0) = true then (St a (.int .i64 0) w fun (w : World) =>
 St (a.add 1) (.int .i64 0) w fun (w : World) =>
 Ld (.i .i64) w a fun (r_Index4 : Int) => Ld (.i .i64) w (a.add 1) fun (r_Gen4 : Int) =>
 R r_Index4 r_Gen4 bad w) else (Ld (.i .i64) w e fun (e_Index2 : Int) => Ld (.i .i64) w (e.add 1) fun (e_Gen2 : Int) =>
 c49 w_ e_Index2 e_Gen2 set values w fun  (w : World) =>
 Ld (.i .i64) w e fun (e_Index3 : Int) => Ld (.i .i64) w (e.add 1) fun (e_Gen3 : Int) =>
 St a (.int .i64 e_Index3) w fun (w : World) =>
 St (a.add 1) (.int .i64 e_Gen3) w fun (w : World) =>
 Ld (.i .i64) w a fun (r_Index5 : Int) => Ld (.i .i64) w (a.add 1) fun (r_Gen5 : Int) =>
 R r_Index5 r_Gen5 0 w)))
theorem f14_eq (w_ : Option Addr) (parts : Sl) (w : World) (R : Int → Int → Int → World → Prop) :
  f14 w_ parts w R = dFunc Try.prog ⟨[(4, ⟨[(6, .i .i64), (7, .sl), (16, .i .i64)], [0, 4, 14, 15]⟩)], []⟩ Try.f14 [.pointer w_, .slice parts.a parts.len parts.cap] (fun v w' => viewRet [.agg [.i .i64, .i .i64], .one (.i .i64)] v R w') w := by kernel_rfl
theorem c14_of {w_ : Option Addr} {parts : Sl} {w : World} {R : Int → Int → Int → World → Prop} (h : f14 w_ parts w R) : c14 w_ parts w R :=
 callK_of okP Try.func14 (by rw [← f14_eq]; exact h)
def f16 (w_ : Option Addr) (w : World) (R : Sl → World → Prop) : Prop :=
 NN w_ fun (w_2 : Addr) =>
 Ld .p w (w_2.add 1) fun (pool : Option Addr) =>
 c50 pool w fun (gens : Sl) (free : Sl) (w : World) =>
 c52 gens w fun (r : Sl) (w : World) =>
 c51 ⟨none, 0, 0⟩ r w fun (r2 : Sl) (w : World) =>
 c52 free w fun (r3 : Sl) (w : World) =>
 c51 r2 r3 w fun (b : Sl) (w : World) =>
 c21 w_ w fun (r4 : Sl) (w : World) =>
 ∃ Inv_ : Sl → Int → Nat → World → Prop, (∃ n : Nat, Inv_ b 0 n w) ∧ ∀ b2 : Sl, ∀ t29 : Int, ∀ m : Nat, ∀ w : World, Inv_ b2 t29 m w → (if (decide (t29 < (r4.len : Int))) = true then (Ix r4.a r4.len t29 3 fun (a : Addr) =>
 Ld (.i .i64) w a fun (r_E_Index : Int) => Ld (.i .i64) w (a.add 1) fun (r_E_Gen : Int) => Ld .sl w (a.add 2) fun (r_Parts : Sl) =>
 Nw (.cells #[.int .i64 0, .int .i64 0, .slice none 0 0] 65) w fun (r5 : Addr) (w : World) =>
 St r5 (.int .i64 r_E_Index) w fun (w : World) =>
 St (r5.add 1) (.int .i64 r_E_Gen) w fun (w : World) =>
 St (r5.add 2) (.slice r_Parts.a r_Parts.len r_Parts.cap) w fun (w : World) =>
 Dr w fun (w : World) =>
 NN w_ fun (w_3 : Addr) =>
 Ld .m w (w_3.add 2) fun (sets : Option Nat) =>
 Ld (.i .i64) w r5 fun (E_Index : Int) => Ld (.i .i64) w (r5.add 1) fun (E_Gen : Int) =>
 RunRoL [.one (.i .i64)] Try.prog (Instr.lookup 98 (.map sets) (.agg #[.int .i64 E_Index, .int .i64 E_Gen]) false) w fun (e : Int) (_ : World) =>
 c53 b2 (IntKind.u64.wrap e) w fun (b3 : Sl) (w : World) =>
 Ld .sl w (r5.add 2) fun (Parts : Sl) =>
 ∃ Inv_2 : Sl → Int → Nat → World → Prop, (∃ n : Nat, Inv_2 b3 0 n w) ∧ ∀ b4 : Sl, ∀ t46 : Int, ∀ m3 : Nat, ∀ w : World, Inv_2 b4 t46 m3 w → (if (decide (t46 < (Parts.len : Int))) = true then (Ix Parts.a Parts.len t46 2 fun (a2 : Addr) =>
 Ld (.i .i64) w a2 fun (p_Kind : Int) => Ld .sl w (a2.add 1) fun (p_Values : Sl) =>
 Nw (.cells #[.int .i64 0, .slice none 0 0] 40) w fun (p : Addr) (w : World) =>
 St p (.int .i64 p_Kind) w fun (w : World) =>
 St (p.add 1) (.slice p_Values.a p_Values.len p_Values.cap) w fun (w : World) =>
 Ld .sl w (p.add 1) fun (Values : Sl) =>
 ∃ Inv_3 : Sl → Int → Nat → World → Prop, (∃ n : Nat, Inv_3 b4 0 n w) ∧ ∀ b5 : Sl, ∀ t53 : Int, ∀ m5 : Nat, ∀ w : World, Inv_3 b5 t53 m5 w → (if (decide (t53 < (Values.len : Int))) = true then (Ix Values.a Values.len t53 1 fun (a3 : Addr) =>
 Ld (.i .i64) w a3 fun (x : Int) =>
 c54 b5 x w fun (b6 : Sl) (w : World) =>
 ∃ m6 : Nat, m6 < m5 ∧ Inv_3 b6 (IntKind.i64.wrap (t53 + 1)) m6 w) else (∃ m4 : Nat, m4 < m3 ∧ Inv_2 b5 (IntKind.i64.wrap (t46 + 1)) m4 w))) else (∃ m2 : Nat, m2 < m ∧ Inv_ b4 (IntKind.i64.wrap (t29 + 1)) m2 w))) else (R b2 w))
theorem f16_eq (w_ : Option Addr) (w : World) (R : Sl → World → Prop) :
  f16 w_ w R = dFunc Try.prog ⟨[(4, ⟨[(5, .sl), (29, .i .i64)], [0, 27, 28]⟩), (8, ⟨[(5, .sl), (46, .i .i64)], [0, 27, 28, 29, 44, 45]⟩), (11, ⟨[(5, .sl), (53, .i .i64)], [0, 27, 28, 29, 44, 45, 46, 51, 52]⟩)], []⟩ Try.f16 [.pointer w_] (fun v w' => viewRet [.one .sl] v R w') w := by kernel_rfl
theorem c16_of {w_ : Option Addr} {w : World} {R : Sl → World → Prop} (h : f16 w_ w R) : c16 w_ w R :=
 callK_of okP Try.func16 (by rw [← f16_eq]; exact h)
def f19 (w_ : Option Addr) (e_Index : Int) (e_Gen : Int) (p_Kind : Int) (p_Values : Sl) (w : World) (R : Int → World → Prop) : Prop :=
 Nw (.cells #[.int .i64 e_Index, .int .i64 e_Gen] 43) w fun (e : Addr) (w : World) =>
 Nw (.cells #[.int .i64 p_Kind, .slice p_Values.a p_Values.len p_Values.cap] 40) w fun (p : Addr) (w : World) =>
 Ld (.i .i64) w e fun (e_Index2 : Int) => Ld (.i .i64) w (e.add 1) fun (e_Gen2 : Int) =>
 Ld (.i .i64) w p fun (Kind : Int) =>
 c55 w_ e_Index2 e_Gen2 Kind w fun (set : Int) (has : Bool) (n_ : Int) (bad : Int) (w : World) =>
 if (bad != 0) = true then (R bad w) else (if has = true then (R 61 w) else (Ld .sl w (p.add 1) fun (Values : Sl) =>
 if ((Values.len : Int) != n_) = true then (R 63 w) else (Dr w fun (w : World) =>
 Ld (.i .i64) w e fun (e_Index3 : Int) => Ld (.i .i64) w (e.add 1) fun (e_Gen3 : Int) =>
 Ld (.i .i64) w p fun (Kind2 : Int) =>
 Ld .sl w (p.add 1) fun (Values2 : Sl) =>
 c57 w_ e_Index3 e_Gen3 w fun (r : Sl) (w : World) =>
 w.cell? (p.add 1) = some (.slice Values2.a Values2.len Values2.cap) ∧ w.cell? p = some (.int .i64 Kind2) ∧ (c47 w_ set Kind2 w fun (r2 : Int) (w : World) =>
 w.cell? (p.add 1) = some (.slice Values2.a Values2.len Values2.cap) ∧ (c46 r r2 Values2 w fun (values : Sl) (w : World) =>
 Dr w fun (w : World) =>
 Ld (.i .i64) w e fun (e_Index4 : Int) => Ld (.i .i64) w (e.add 1) fun (e_Gen4 : Int) =>
 Ld (.i .i64) w p fun (Kind3 : Int) =>
 (0 : Int) ≤ Kind3 ∧ (c49 w_ e_Index4 e_Gen4 (IntKind.i64.wrap ((BitVec.ofInt 64 set ||| BitVec.ofInt 64 (IntKind.i64.wrap (1 * 2 ^ (min (Int.toNat Kind3) 64)))).toNat : Nat)) values w fun  (w : World) =>
 R 0 w))))))
theorem f19_eq (w_ : Option Addr) (e_Index : Int) (e_Gen : Int) (p_Kind : Int) (p_Values : Sl) (w : World) (R : Int → World → Prop) :
  f19 w_ e_Index e_Gen p_Kind p_Values w R = dFunc Try.prog ⟨[], []⟩ Try.f19 [.pointer w_, .agg #[.int .i64 e_Index, .int .i64 e_Gen], .agg #[.int .i64 p_Kind, .slice p_Values.a p_Values.len p_Values.cap]] (fun v w' => viewRet [.one (.i .i64)] v R w') w := by kernel_rfl
theorem c19_of {w_ : Option Addr} {e_Index : Int} {e_Gen : Int} {p_Kind : Int} {p_Values : Sl} {w : World} {R : Int → World → Prop} (h : f19 w_ e_Index e_Gen p_Kind p_Values w R) : c19 w_ e_Index e_Gen p_Kind p_Values w R :=
 callK_of okP Try.func19 (by rw [← f19_eq]; exact h)
def f20 (a : Sl) (b : Sl) (w : World) (R : Bool → World → Prop) : Prop :=
 if ((a.len : Int) != (b.len : Int)) = true then (R false w) else (∃ Inv_ : Int → Nat → World → Prop, (∃ n : Nat, Inv_ 0 n w) ∧ ∀ i : Int, ∀ m : Nat, ∀ w : World, Inv_ i m w → (if (decide (i < (a.len : Int))) = true then (Dr w fun (w : World) =>
 Ix a.a a.len i 3 fun (a2 : Addr) =>
 Ld .sl w (a2.add 2) fun (Parts : Sl) =>
 Ix b.a b.len i 3 fun (a3 : Addr) =>
 Ld .sl w (a3.add 2) fun (Parts2 : Sl) =>
 c58 Parts Parts2 w fun (ok : Bool) (w : World) =>
 Dr w fun (w : World) =>
 if (!ok) = true then (R false w) else (Ix a.a a.len i 3 fun (a4 : Addr) =>
 Ld (.i .i64) w a4 fun (E_Index : Int) => Ld (.i .i64) w (a4.add 1) fun (E_Gen : Int) =>
 Ix b.a b.len i 3 fun (a5 : Addr) =>
 Ld (.i .i64) w a5 fun (E_Index2 : Int) => Ld (.i .i64) w (a5.add 1) fun (E_Gen2 : Int) =>
 RunRo .b Try.prog (binSem .neq 43 (.tmp 36) (.tmp 41) (.agg #[.int .i64 E_Index, .int .i64 E_Gen]) (.agg #[.int .i64 E_Index2, .int .i64 E_Gen2])) w fun (eq : Bool) =>
 if eq = true then (R false w) else (∃ m2 : Nat, m2 < m ∧ Inv_ (IntKind.i64.wrap (i + 1)) m2 w))) else (R true w)))
theorem f20_eq (a : Sl) (b : Sl) (w : World) (R : Bool → World → Prop) :
  f20 a b w R = dFunc Try.prog ⟨[(4, ⟨[(5, .i .i64)], [0, 1]⟩)], []⟩ Try.f20 [.slice a.a a.len a.cap, .slice b.a b.len b.cap] (fun v w' => viewRet [.one .b] v R w') w := by kernel_rfl
theorem c20_of {a : Sl} {b : Sl} {w : World} {R : Bool → World → Prop} (h : f20 a b w R) : c20 a b w R :=
 callK_of okP Try.func20 (by rw [← f20_eq]; exact h)
def f21 (w_ : Option Addr) (w : World) (R : Sl → World → Prop) : Prop :=
 NN w_ fun (w_2 : Addr) =>
 Ld .p w (w_2.add 1) fun (pool : Option Addr) =>
 c59 pool w fun (r : Sl) (w : World) =>
 ∃ Inv_ : Sl → Int → Nat → World → Prop, (∃ n : Nat, Inv_ ⟨none, 0, 0⟩ 0 n w) ∧ ∀ out : Sl, ∀ t12 : Int, ∀ m : Nat, ∀ w : World, Inv_ out t12 m w → (if (decide (t12 < (r.len : Int))) = true then (Ix r.a r.len t12 2 fun (a : Addr) =>
 Ld (.i .i64) w a fun (e_Index : Int) => Ld (.i .i64) w (a.add 1) fun (e_Gen : Int) =>
 Nw (.cells #[.int .i64 0, .int .i64 0] 43) w fun (e : Addr) (w : World) =>
 St e (.int .i64 e_Index) w fun (w : World) =>
 St (e.add 1) (.int .i64 e_Gen) w fun (w : World) =>
 Ld (.i .i64) w e fun (e_Index2 : Int) => Ld (.i .i64) w (e.add 1) fun (e_Gen2 : Int) =>
 c60 w_ e_Index2 e_Gen2 w fun (r_E_Index : Int) (r_E_Gen : Int) (r_Parts : Sl) (w : World) =>
 Nw (.cells #[.int .i64 r_E_Index, .int .i64 r_E_Gen, .slice r_Parts.a r_Parts.len r_Parts.cap] 65) w fun (b : Addr) (w : World) =>
 Run .sl Try.prog (Builtin.append_ #[56, 56] 56 #[.slice out.a out.len out.cap, .slice (some b) 1 1]) w fun (out2 : Sl) (w : World) =>
 ∃ m2 : Nat, m2 < m ∧ Inv_ out2 (IntKind.i64.wrap (t12 + 1)) m2 w) else (R out w))
theorem f21_eq (w_ : Option Addr) (w : World) (R : Sl → World → Prop) :
  f21 w_ w R = dFunc Try.prog ⟨[(3, ⟨[(3, .sl), (12, .i .i64)], [0, 10, 11]⟩)], []⟩ Try.f21 [.pointer w_] (fun v w' => viewRet [.one .sl] v R w') w := by kernel_rfl
theorem c21_of {w_ : Option Addr} {w : World} {R : Sl → World → Prop} (h : f21 w_ w R) : c21 w_ w R :=
 callK_of okP Try.func21 (by rw [← f21_eq]; exact h)
def f22 (w_ : Option Addr) (w : World) (R : Option Nat → World → Prop) : Prop :=
 Nw (.map #[] 0) w fun (out : Addr) (w : World) =>
 NN w_ fun (w_2 : Addr) =>
 Ld .m w (w_2.add 3) fun (tables : Option Nat) =>
 Run .p Try.prog (Instr.range 99 (.map tables)) w fun (it : Option Addr) (w : World) =>
 ∃ Inv_ : Nat → World → Prop, (∃ n : Nat, Inv_  n w) ∧ ∀ m : Nat, ∀ w : World, Inv_  m w → (NxM Try.prog (.pointer it) 0 w (fun (w : World) =>
 R (some out.block) w) fun (key elem : Value) (w : World) =>
 EnM Try.prog (.pointer it) w fun (key2 elem2 : Value) (w : World) =>
 viewRet [.one (.i .i64)] (key2) (fun (set : Int) (_ : World) =>
 viewRet [.one .p] (elem2) (fun (t : Option Addr) (_ : World) =>
 c61 t w fun (r : Int) (w : World) =>
 RunU Try.prog (Instr.mapUpdate 58 (.map (some out.block)) (.int .i64 set) (.int .i64 r)) w fun (w : World) =>
 ∃ m2 : Nat, m2 < m ∧ Inv_  m2 w) w) w)
theorem f22_eq (w_ : Option Addr) (w : World) (R : Option Nat → World → Prop) :
  f22 w_ w R = dFunc Try.prog ⟨[(3, ⟨[], [3, 11]⟩)], []⟩ Try.f22 [.pointer w_] (fun v w' => viewRet [.one .m] v R w') w := by kernel_rfl
theorem c22_of {w_ : Option Addr} {w : World} {R : Option Nat → World → Prop} (h : f22 w_ w R) : c22 w_ w R :=
 callK_of okP Try.func22 (by rw [← f22_eq]; exact h)
def f23 (w_ : Option Addr) (e_Index : Int) (e_Gen : Int) (w : World) (R : Int → World → Prop) : Prop :=
 Nw (.cells #[.int .i64 e_Index, .int .i64 e_Gen] 43) w fun (e : Addr) (w : World) =>
 Dr w fun (w : World) =>
 NN w_ fun (w_2 : Addr) =>
 Ld .p w (w_2.add 1) fun (pool : Option Addr) =>
 Ld (.i .i64) w e fun (e_Index2 : Int) => Ld (.i .i64) w (e.add 1) fun (e_Gen2 : Int) =>
 c62 pool e_Index2 e_Gen2 w fun (bad : Int) (w : World) =>
 if (bad != 0) = true then (R bad w) else (Ld (.i .i64) w e fun (e_Index3 : Int) => Ld (.i .i64) w (e.add 1) fun (e_Gen3 : Int) =>
 c57 w_ e_Index3 e_Gen3 w fun (r : Sl) (w : World) =>
 R 0 w)
theorem f23_eq (w_ : Option Addr) (e_Index : Int) (e_Gen : Int) (w : World) (R : Int → World → Prop) :
  f23 w_ e_Index e_Gen w R = dFunc Try.prog ⟨[], []⟩ Try.f23 [.pointer w_, .agg #[.int .i64 e_Index, .int .i64 e_Gen]] (fun v w' => viewRet [.one (.i .i64)] v R w') w := by kernel_rfl
theorem c23_of {w_ : Option Addr} {e_Index : Int} {e_Gen : Int} {w : World} {R : Int → World → Prop} (h : f23 w_ e_Index e_Gen w R) : c23 w_ e_Index e_Gen w R :=
 callK_of okP Try.func23 (by rw [← f23_eq]; exact h)
def f24 (w_ : Option Addr) (e_Index : Int) (e_Gen : Int) (w : World) (R : Bool → World → Prop) : Prop :=
 Nw (.cells #[.int .i64 e_Index, .int .i64 e_Gen] 43) w fun (e : Addr) (w : World) =>
 Dr w fun (w : World) =>
 NN w_ fun (w_2 : Addr) =>
 Ld .p w (w_2.add 1) fun (pool : Option Addr) =>
 Ld (.i .i64) w e fun (e_Index2 : Int) => Ld (.i .i64) w (e.add 1) fun (e_Gen2 : Int) =>
 c63 pool e_Index2 e_Gen2 w fun (r : Bool) (w : World) =>
 R r w
theorem f24_eq (w_ : Option Addr) (e_Index : Int) (e_Gen : Int) (w : World) (R : Bool → World → Prop) :
  f24 w_ e_Index e_Gen w R = dFunc Try.prog ⟨[], []⟩ Try.f24 [.pointer w_, .agg #[.int .i64 e_Index, .int .i64 e_Gen]] (fun v w' => viewRet [.one .b] v R w') w := by kernel_rfl
theorem c24_of {w_ : Option Addr} {e_Index : Int} {e_Gen : Int} {w : World} {R : Bool → World → Prop} (h : f24 w_ e_Index e_Gen w R) : c24 w_ e_Index e_Gen w R :=
 callK_of okP Try.func24 (by rw [← f24_eq]; exact h)
def f31 (l : Sl) (w : World) (R : Sl → World → Prop) : Prop :=
 ∃ Inv_ : Sl → Int → Nat → World → Prop, (∃ n : Nat, Inv_ ⟨none, 0, 0⟩ 0 n w) ∧ ∀ out : Sl, ∀ i : Int, ∀ m : Nat, ∀ w : World, Inv_ out i m w → (if (decide (i < (l.len : Int))) = true then (Ix l.a l.len i 2 fun (a : Addr) =>
 Ld .sl w (a.add 1) fun (Fields : Sl) =>
 Run .sl Try.prog (Builtin.append_ #[81, 81] 81 #[.slice none 0 0, .slice Fields.a Fields.len Fields.cap]) w fun (f : Sl) (w : World) =>
 Nw (.cells #[.string (⟨#[98, 101, 104, 105, 110, 100]⟩ : ByteArray), .string (⟨#[98, 101, 104, 105, 110, 100]⟩ : ByteArray)] 9) w fun (b : Addr) (w : World) =>
 Run .sl Try.prog (Builtin.append_ #[81, 81] 81 #[.slice f.a f.len f.cap, .slice (some b) 2 2]) w fun (f2 : Sl) (w : World) =>
 Dr w fun (w : World) =>
 Ix l.a l.len i 2 fun (a2 : Addr) =>
 Ld .s w a2 fun (Name : ByteArray) =>
 Ix l.a l.len i 2 fun (a3 : Addr) =>
 Ld .sl w (a3.add 1) fun (Fields2 : Sl) =>
 Cut ⟨f2.a, f2.len, f2.cap⟩ 0 (Fields2.len : Int) (f2.cap : Int) 1 fun (s : Sl) =>
 Nw (.cells #[.string Name, .slice s.a s.len s.cap] 94) w fun (b2 : Addr) (w : World) =>
 Run .sl Try.prog (Builtin.append_ #[22, 22] 22 #[.slice out.a out.len out.cap, .slice (some b2) 1 1]) w fun (out2 : Sl) (w : World) =>
 ∃ m2 : Nat, m2 < m ∧ Inv_ out2 (IntKind.i64.wrap (i + 1)) m2 w) else (Nw (.cells #[.string (⟨#[98, 101, 104, 105, 110, 100]⟩ : ByteArray), .slice none 0 0, .string (⟨#[98, 101, 104, 105, 110, 100]⟩ : ByteArray), .slice none 0 0] 94) w fun (b3 : Addr) (w : World) =>
 Run .sl Try.prog (Builtin.append_ #[22, 22] 22 #[.slice out.a out.len out.cap, .slice (some b3) 2 2]) w fun (out3 : Sl) (w : World) =>
 Cut ⟨out3.a, out3.len, out3.cap⟩ 0 (l.len : Int) (out3.cap : Int) 2 fun (s2 : Sl) =>
 R s2 w))
theorem f31_eq (l : Sl) (w : World) (R : Sl → World → Prop) :
  f31 l w R = dFunc Try.prog ⟨[(3, ⟨[(3, .sl), (4, .i .i64)], [0]⟩)], []⟩ Try.f31 [.slice l.a l.len l.cap] (fun v w' => viewRet [.one .sl] v R w') w := by kernel_rfl
theorem c31_of {l : Sl} {w : World} {R : Sl → World → Prop} (h : f31 l w R) : c31 l w R :=
 callK_of okP Try.func31 (by rw [← f31_eq]; exact h)
def f32 (l : Sl) (was : Sl) (w : World) (R : Bool → World → Prop) : Prop :=
 c39 l was w fun (ok : Bool) (w : World) =>
 Cut ⟨l.a, l.len, l.cap⟩ 0 (IntKind.i64.wrap ((was.len : Int) + 2)) (l.cap : Int) 2 fun (all : Sl) =>
 ∃ Inv_ : Bool → Int → Nat → World → Prop, (∃ n : Nat, Inv_ ok 0 n w) ∧ ∀ ok2 : Bool, ∀ i : Int, ∀ m : Nat, ∀ w : World, Inv_ ok2 i m w → (if (decide (i < (all.len : Int))) = true then (if (decide (i ≥ (was.len : Int))) = true then (if ok2 = true then (Ix all.a all.len i 2 fun (a : Addr) =>
 Ld .s w a fun (Name : ByteArray) =>
 ∃ m2 : Nat, m2 < m ∧ Inv_ (Name.toList == (⟨#[98, 101, 104, 105, 110, 100]⟩ : ByteArray).toList) (IntKind.i64.wrap (i + 1)) m2 w) else (∃ m2 : Nat, m2 < m ∧ Inv_ false (IntKind.i64.wrap (i + 1)) m2 w)) else (Dr w fun (w : World) =>
 Ix all.a all.len i 2 fun (a2 : Addr) =>
 Ld .sl w (a2.add 1) fun (Fields : Sl) =>
 Ix was.a was.len i 2 fun (a3 : Addr) =>
 Ld .sl w (a3.add 1) fun (Fields2 : Sl) =>
 if (decide ((Fields.cap : Int) < (IntKind.i64.wrap ((Fields2.len : Int) + 2)))) = true then (R false w) else (Dr w fun (w : World) =>
 Ix all.a all.len i 2 fun (a4 : Addr) =>
 Ld .sl w (a4.add 1) fun (Fields3 : Sl) =>
 Ix was.a was.len i 2 fun (a5 : Addr) =>
 Ld .sl w (a5.add 1) fun (Fields4 : Sl) =>
 Cut ⟨Fields3.a, Fields3.len, Fields3.cap⟩ 0 (IntKind.i64.wrap ((Fields4.len : Int) + 2)) (Fields3.cap : Int) 1 fun (f : Sl) =>
 ∃ J_ : Bool → World → Prop, (if ok2 = true then (Ix was.a was.len i 2 fun (a6 : Addr) =>
 Ld .sl w (a6.add 1) fun (Fields5 : Sl) =>
 Ix f.a f.len (Fields5.len : Int) 1 fun (a7 : Addr) =>
 Ld .s w a7 fun (x : ByteArray) =>
 if (x.toList == (⟨#[98, 101, 104, 105, 110, 100]⟩ : ByteArray).toList) = true then (Ix was.a was.len i 2 fun (a8 : Addr) =>
 Ld .sl w (a8.add 1) fun (Fields6 : Sl) =>
 Ix f.a f.len (IntKind.i64.wrap ((Fields6.len : Int) + 1)) 1 fun (a9 : Addr) =>
 Ld .s w a9 fun (x2 : ByteArray) =>
 J_ (x2.toList == (⟨#[98, 101, 104, 105, 110, 100]⟩ : ByteArray).toList) w) else (J_ false w)) else (J_ false w)) ∧ ∀ ok3 : Bool, ∀ w : World, J_ ok3 w → (∃ Inv_2 : Int → Nat → World → Prop, (∃ n : Nat, Inv_2 0 n w) ∧ ∀ k : Int, ∀ m3 : Nat, ∀ w : World, Inv_2 k m3 w → (if (decide (k < (f.len : Int))) = true then (Ix f.a f.len k 1 fun (a10 : Addr) =>
 St a10 (.string (⟨#[79, 118, 101, 114]⟩ : ByteArray)) w fun (w : World) =>
 ∃ m4 : Nat, m4 < m3 ∧ Inv_2 (IntKind.i64.wrap (k + 1)) m4 w) else (Ix all.a all.len i 2 fun (a11 : Addr) =>
 St a11 (.string (⟨#[79, 118, 101, 114]⟩ : ByteArray)) w fun (w : World) =>
 St (a11.add 1) (.slice none 0 0) w fun (w : World) =>
 ∃ m2 : Nat, m2 < m ∧ Inv_ ok3 (IntKind.i64.wrap (i + 1)) m2 w)))))) else (R ok2 w))
theorem f32_eq (l : Sl) (was : Sl) (w : World) (R : Bool → World → Prop) :
  f32 l was w R = dFunc Try.prog ⟨[(4, ⟨[(5, .b), (7, .i .i64)], [1, 6]⟩), (13, ⟨[(9, .i .i64)], [1, 5, 6, 7, 8]⟩)], [(12, ⟨[(5, .b)], [1, 6, 7, 8]⟩)]⟩ Try.f32 [.slice l.a l.len l.cap, .slice was.a was.len was.cap] (fun v w' => viewRet [.one .b] v R w') w := by kernel_rfl
theorem c32_of {l : Sl} {was : Sl} {w : World} {R : Bool → World → Prop} (h : f32 l was w R) : c32 l was w R :=
 callK_of okP Try.func32 (by rw [← f32_eq]; exact h)
def f33 (kinds : Sl) (w : World) (R : Option Addr → Int → World → Prop) : Prop :=
 c73 kinds w fun (fine : Bool) (w : World) =>
 if (!fine) = true then (R none 65 w) else (c74 200 w fun (p : Option Addr) (x_ : Int) (w : World) =>
 c75 kinds w fun (r : Sl) (w : World) =>
 Nw (.cells #[.slice r.a r.len r.cap, .pointer p, .slice none 0 0] 139) w fun (a : Addr) (w : World) =>
 R (some a) 0 w)
theorem f33_eq (kinds : Sl) (w : World) (R : Option Addr → Int → World → Prop) :
  f33 kinds w R = dFunc Try.prog ⟨[], []⟩ Try.f33 [.slice kinds.a kinds.len kinds.cap] (fun v w' => viewRet [.one .p, .one (.i .i64)] v R w') w := by kernel_rfl
theorem c33_of {kinds : Sl} {w : World} {R : Option Addr → Int → World → Prop} (h : f33 kinds w R) : c33 kinds w R :=
 callK_of okP Try.func33 (by rw [← f33_eq]; exact h)
def f34 (w_ : Option Addr) (w : World) (R : Sl → World → Prop) : Prop :=
 ∃ Inv_ : Sl → Int → Nat → World → Prop, (∃ n : Nat, Inv_ ⟨none, 0, 0⟩ 0 n w) ∧ ∀ out : Sl, ∀ i : Int, ∀ m : Nat, ∀ w : World, Inv_ out i m w → (NN w_ fun (w_2 : Addr) =>
 Ld .sl w (w_2.add 2) fun (L : Sl) =>
 if (decide (i < (L.len : Int))) = true then (Dr w fun (w : World) =>
 NN w_ fun (w_3 : Addr) =>
 Ld .sl w (w_3.add 2) fun (L2 : Sl) =>
 Ix L2.a L2.len i 3 fun (a : Addr) =>
 Ld (.i .i64) w a fun (E_Index : Int) => Ld (.i .i64) w (a.add 1) fun (E_Gen : Int) =>
 NN w_ fun (w_4 : Addr) =>
 Ld .sl w (w_4.add 2) fun (L3 : Sl) =>
 Ix L3.a L3.len i 3 fun (a2 : Addr) =>
 Ld .sl w (a2.add 2) fun (Parts : Sl) =>
 c76 Parts w fun (r : Sl) (w : World) =>
 w.cell? a = some (.int .i64 E_Index) ∧ w.cell? (a.add 1) = some (.int .i64 E_Gen) ∧ w.cell? (w_3.add 2) = some (.slice L2.a L2.len L2.cap) ∧ (Nw (.cells #[.int .i64 E_Index, .int .i64 E_Gen, .slice r.a r.len r.cap] 65) w fun (b : Addr) (w : World) =>
 Run .sl Try.prog (Builtin.append_ #[56, 56] 56 #[.slice out.a out.len out.cap, .slice (some b) 1 1]) w fun (out2 : Sl) (w : World) =>
 ∃ m2 : Nat, m2 < m ∧ Inv_ out2 (IntKind.i64.wrap (i + 1)) m2 w)) else (R out w))
theorem f34_eq (w_ : Option Addr) (w : World) (R : Sl → World → Prop) :
  f34 w_ w R = dFunc Try.prog ⟨[(3, ⟨[(3, .sl), (4, .i .i64)], [0]⟩)], []⟩ Try.f34 [.pointer w_] (fun v w' => viewRet [.one .sl] v R w') w := by kernel_rfl
theorem c34_of {w_ : Option Addr} {w : World} {R : Sl → World → Prop} (h : f34 w_ w R) : c34 w_ w R :=
 callK_of okP Try.func34 (by rw [← f34_eq]; exact h)
def f35 (w_ : Option Addr) (w : World) (R : Sl → World → Prop) : Prop :=
 ∃ Inv_ : Sl → Int → Nat → World → Prop, (∃ n : Nat, Inv_ ⟨none, 0, 0⟩ 0 n w) ∧ ∀ out : Sl, ∀ i : Int, ∀ m : Nat, ∀ w : World, Inv_ out i m w → (NN w_ fun (w_2 : Addr) =>
 Ld .sl w (w_2.add 2) fun (L : Sl) =>
 if (decide (i < (L.len : Int))) = true then (NN w_ fun (w_3 : Addr) =>
 Ld .sl w (w_3.add 2) fun (L2 : Sl) =>
 Ix L2.a L2.len i 3 fun (a : Addr) =>
 Ld .sl w (a.add 2) fun (Parts : Sl) =>
 c77 Parts w fun (set : Int) (w : World) =>
 ∃ J_ : Int → World → Prop, (∃ Inv_2 : Int → Nat → World → Prop, (∃ n : Nat, Inv_2 0 n w) ∧ ∀ k : Int, ∀ m3 : Nat, ∀ w : World, Inv_2 k m3 w → (if (decide (k < (out.len : Int))) = true then (Ix out.a out.len k 2 fun (a2 : Addr) =>
 Ld (.i .i64) w a2 fun (Set : Int) =>
 if (Set != set) = true then (∃ m4 : Nat, m4 < m3 ∧ Inv_2 (IntKind.i64.wrap (k + 1)) m4 w) else (J_ k w)) else (J_ k w))) ∧ ∀ k2 : Int, ∀ w : World, J_ k2 w → (∃ J_2 : Sl → World → Prop, (if (k2 == (out.len : Int)) = true then (Nw (.cells #[.int .i64 set, .int .i64 0] 143) w fun (b : Addr) (w : World) =>
 Run .sl Try.prog (Builtin.append_ #[89, 89] 89 #[.slice out.a out.len out.cap, .slice (some b) 1 1]) w fun (out2 : Sl) (w : World) =>
 J_2 out2 w) else (J_2 out w)) ∧ ∀ out3 : Sl, ∀ w : World, J_2 out3 w → (Ix out3.a out3.len k2 2 fun (a3 : Addr) =>
 Ld (.i .i64) w (a3.add 1) fun (N : Int) =>
 Ix out3.a out3.len k2 2 fun (a4 : Addr) =>
 St (a4.add 1) (.int .i64 (IntKind.i64.wrap (N + 1))) w fun (w : World) =>
 ∃ m2 : Nat, m2 < m ∧ Inv_ out3 (IntKind.i64.wrap (i + 1)) m2 w))) else (R out w))
theorem f35_eq (w_ : Option Addr) (w : World) (R : Sl → World → Prop) :
  f35 w_ w R = dFunc Try.prog ⟨[(3, ⟨[(3, .sl), (4, .i .i64)], [0]⟩), (7, ⟨[(6, .i .i64)], [0, 3, 4, 5]⟩)], [(9, ⟨[(6, .i .i64)], [0, 3, 4, 5]⟩), (11, ⟨[(3, .sl)], [0, 4, 6]⟩)]⟩ Try.f35 [.pointer w_] (fun v w' => viewRet [.one .sl] v R w') w := by kernel_rfl
theorem c35_of {w_ : Option Addr} {w : World} {R : Sl → World → Prop} (h : f35 w_ w R) : c35 w_ w R :=
 callK_of okP Try.func35 (by rw [← f35_eq]; exact h)
def f36 (w_ : Option Addr) (w : World) (R : Sl → World → Prop) : Prop :=
 NN w_ fun (w_2 : Addr) =>
 Ld .sl w w_2 fun (kinds : Sl) =>
 c44 kinds w fun (r : Sl) (w : World) =>
 R r w
theorem f36_eq (w_ : Option Addr) (w : World) (R : Sl → World → Prop) :
  f36 w_ w R = dFunc Try.prog ⟨[], []⟩ Try.f36 [.pointer w_] (fun v w' => viewRet [.one .sl] v R w') w := by kernel_rfl
theorem c36_of {w_ : Option Addr} {w : World} {R : Sl → World → Prop} (h : f36 w_ w R) : c36 w_ w R :=
 callK_of okP Try.func36 (by rw [← f36_eq]; exact h)
def f37 (w_ : Option Addr) (w : World) (R : Sl → World → Prop) : Prop :=
 c78 w_ w fun (b : Sl) (w : World) =>
 ∃ Inv_ : Sl → Int → Nat → World → Prop, (∃ n : Nat, Inv_ b 0 n w) ∧ ∀ b2 : Sl, ∀ i : Int, ∀ m : Nat, ∀ w : World, Inv_ b2 i m w → (NN w_ fun (w_2 : Addr) =>
 Ld .sl w (w_2.add 2) fun (L : Sl) =>
 if (decide (i < (L.len : Int))) = true then (NN w_ fun (w_3 : Addr) =>
 Ld .sl w (w_3.add 2) fun (L2 : Sl) =>
 Ix L2.a L2.len i 3 fun (a : Addr) =>
 Ld .sl w (a.add 2) fun (Parts : Sl) =>
 c77 Parts w fun (r : Int) (w : World) =>
 c79 b2 (IntKind.u64.wrap r) w fun (b3 : Sl) (w : World) =>
 ∃ Inv_2 : Sl → Int → Nat → World → Prop, (∃ n : Nat, Inv_2 b3 0 n w) ∧ ∀ b4 : Sl, ∀ k : Int, ∀ m3 : Nat, ∀ w : World, Inv_2 b4 k m3 w → (if (decide (k < (Parts.len : Int))) = true then (∃ Inv_3 : Sl → Int → Nat → World → Prop, (∃ n : Nat, Inv_3 b4 0 n w) ∧ ∀ b5 : Sl, ∀ j : Int, ∀ m5 : Nat, ∀ w : World, Inv_3 b5 j m5 w → (Ix Parts.a Parts.len k 2 fun (a2 : Addr) =>
 Ld .sl w (a2.add 1) fun (Values : Sl) =>
 if (decide (j < (Values.len : Int))) = true then (Ix Parts.a Parts.len k 2 fun (a3 : Addr) =>
 Ld .sl w (a3.add 1) fun (Values2 : Sl) =>
 Ix Values2.a Values2.len j 1 fun (a4 : Addr) =>
 Ld (.i .i64) w a4 fun (x : Int) =>
 c80 b5 x w fun (b6 : Sl) (w : World) =>
 ∃ m6 : Nat, m6 < m5 ∧ Inv_3 b6 (IntKind.i64.wrap (j + 1)) m6 w) else (∃ m4 : Nat, m4 < m3 ∧ Inv_2 b5 (IntKind.i64.wrap (k + 1)) m4 w))) else (∃ m2 : Nat, m2 < m ∧ Inv_ b4 (IntKind.i64.wrap (i + 1)) m2 w))) else (R b2 w))
theorem f37_eq (w_ : Option Addr) (w : World) (R : Sl → World → Prop) :
  f37 w_ w R = dFunc Try.prog ⟨[(3, ⟨[(3, .sl), (4, .i .i64)], [0]⟩), (8, ⟨[(3, .sl), (6, .i .i64)], [0, 4, 5]⟩), (11, ⟨[(3, .sl), (7, .i .i64)], [0, 4, 5, 6]⟩)], []⟩ Try.f37 [.pointer w_] (fun v w' => viewRet [.one .sl] v R w') w := by kernel_rfl
theorem c37_of {w_ : Option Addr} {w : World} {R : Sl → World → Prop} (h : f37 w_ w R) : c37 w_ w R :=
 callK_of okP Try.func37 (by rw [← f37_eq]; exact h)
def f38 (a : Option Nat) (b : Sl) (w : World) (R : Bool → World → Prop) : Prop :=
 RunRo (.i .i64) Try.prog (Builtin.len_ #[58] 3 #[.map a]) w fun (n_ : Int) =>
 if (n_ != (b.len : Int)) = true then (R false w) else (∃ Inv_ : Int → Nat → World → Prop, (∃ n : Nat, Inv_ 0 n w) ∧ ∀ i : Int, ∀ m : Nat, ∀ w : World, Inv_ i m w → (if (decide (i < (b.len : Int))) = true then (Ix b.a b.len i 2 fun (a2 : Addr) =>
 Ld (.i .i64) w a2 fun (Set : Int) =>
 RunRoL [.one (.i .i64), .one .b] Try.prog (Instr.lookup 58 (.map a) (.int .i64 Set) true) w fun (e : Int) (ok : Bool) (_ : World) =>
 if (!ok) = true then (R false w) else (Ix b.a b.len i 2 fun (a3 : Addr) =>
 Ld (.i .i64) w (a3.add 1) fun (N : Int) =>
 if (e != N) = true then (R false w) else (∃ m2 : Nat, m2 < m ∧ Inv_ (IntKind.i64.wrap (i + 1)) m2 w))) else (R true w)))
theorem f38_eq (a : Option Nat) (b : Sl) (w : World) (R : Bool → World → Prop) :
  f38 a b w R = dFunc Try.prog ⟨[(4, ⟨[(5, .i .i64)], [0, 1]⟩)], []⟩ Try.f38 [.map a, .slice b.a b.len b.cap] (fun v w' => viewRet [.one .b] v R w') w := by kernel_rfl
theorem c38_of {a : Option Nat} {b : Sl} {w : World} {R : Bool → World → Prop} (h : f38 a b w R) : c38 a b w R :=
 callK_of okP Try.func38 (by rw [← f38_eq]; exact h)
def f39 (a : Sl) (b : Sl) (w : World) (R : Bool → World → Prop) : Prop :=
 if ((a.len : Int) != (b.len : Int)) = true then (R false w) else (∃ Inv_ : Int → Nat → World → Prop, (∃ n : Nat, Inv_ 0 n w) ∧ ∀ i : Int, ∀ m : Nat, ∀ w : World, Inv_ i m w → (if (decide (i < (a.len : Int))) = true then (∃ J_ : World → Prop, (Dr w fun (w : World) =>
 Ix a.a a.len i 2 fun (a2 : Addr) =>
 Ld .s w a2 fun (Name : ByteArray) =>
 Ix b.a b.len i 2 fun (a3 : Addr) =>
 Ld .s w a3 fun (Name2 : ByteArray) =>
 if (!(Name.toList == Name2.toList)) = true then (R false w) else (Ix a.a a.len i 2 fun (a4 : Addr) =>
 Ld .sl w (a4.add 1) fun (Fields : Sl) =>
 Ix b.a b.len i 2 fun (a5 : Addr) =>
 Ld .sl w (a5.add 1) fun (Fields2 : Sl) =>
 if ((Fields.len : Int) != (Fields2.len : Int)) = true then (R false w) else (J_  w))) ∧ ∀ w : World, J_  w → (∃ Inv_2 : Int → Nat → World → Prop, (∃ n : Nat, Inv_2 0 n w) ∧ ∀ k : Int, ∀ m3 : Nat, ∀ w : World, Inv_2 k m3 w → (Ix a.a a.len i 2 fun (a6 : Addr) =>
 Ld .sl w (a6.add 1) fun (Fields3 : Sl) =>
 if (decide (k < (Fields3.len : Int))) = true then (Dr w fun (w : World) =>
 Ix a.a a.len i 2 fun (a7 : Addr) =>
 Ld .sl w (a7.add 1) fun (Fields4 : Sl) =>
 Ix Fields4.a Fields4.len k 1 fun (a8 : Addr) =>
 Ld .s w a8 fun (x : ByteArray) =>
 Ix b.a b.len i 2 fun (a9 : Addr) =>
 Ld .sl w (a9.add 1) fun (Fields5 : Sl) =>
 Ix Fields5.a Fields5.len k 1 fun (a10 : Addr) =>
 Ld .s w a10 fun (x2 : ByteArray) =>
 if (!(x.toList == x2.toList)) = true then (R false w) else (∃ m4 : Nat, m4 < m3 ∧ Inv_2 (IntKind.i64.wrap (k + 1)) m4 w)) else (∃ m2 : Nat, m2 < m ∧ Inv_ (IntKind.i64.wrap (i + 1)) m2 w)))) else (R true w)))
theorem f39_eq (a : Sl) (b : Sl) (w : World) (R : Bool → World → Prop) :
  f39 a b w R = dFunc Try.prog ⟨[(4, ⟨[(5, .i .i64)], [0, 1]⟩), (9, ⟨[(6, .i .i64)], [0, 1, 5]⟩)], [(8, ⟨[], [0, 1, 5]⟩)]⟩ Try.f39 [.slice a.a a.len a.cap, .slice b.a b.len b.cap] (fun v w' => viewRet [.one .b] v R w') w := by kernel_rfl
theorem c39_of {a : Sl} {b : Sl} {w : World} {R : Bool → World → Prop} (h : f39 a b w R) : c39 a b w R :=
 callK_of okP Try.func39 (by rw [← f39_eq]; exact h)
def f40 (b : Option Addr) (l : Sl) (w : World) (R : World → Prop) : Prop :=
 NN b fun (b_ : Addr) =>
 Ld .sl w (b_.add 2) fun (r : Sl) =>
 ∃ Inv_ : Int → Nat → World → Prop, (∃ n : Nat, Inv_ 0 n w) ∧ ∀ i : Int, ∀ m : Nat, ∀ w : World, Inv_ i m w → (if (decide (i < (l.len : Int))) = true then (Ix l.a l.len i 3 fun (a : Addr) =>
 Ld .sl w (a.add 2) fun (Parts : Sl) =>
 c81 b Parts w fun  (w : World) =>
 Ix l.a l.len i 3 fun (a2 : Addr) =>
 St a2 (.int .i64 (IntKind.i64.wrap (1000000 + (r.len : Int)))) w fun (w : World) =>
 St (a2.add 1) (.int .i64 0) w fun (w : World) =>
 St (a2.add 2) (.slice none 0 0) w fun (w : World) =>
 ∃ m2 : Nat, m2 < m ∧ Inv_ (IntKind.i64.wrap (i + 1)) m2 w) else (NN b fun (b_2 : Addr) =>
 Ld .sl w (b_2.add 2) fun (r2 : Sl) =>
 Nw (.cells #[.slice l.a l.len l.cap] 56) w fun (b2 : Addr) (w : World) =>
 Run .sl Try.prog (Builtin.append_ #[84, 84] 84 #[.slice r2.a r2.len r2.cap, .slice (some b2) 1 1]) w fun (s : Sl) (w : World) =>
 NN b fun (b_3 : Addr) =>
 St (b_3.add 2) (.slice s.a s.len s.cap) w fun (w : World) =>
 NN b fun (b_4 : Addr) =>
 Ld .sl w (b_4.add 5) fun (z : Sl) =>
 Nw (.cells #[.int .i64 (IntKind.i64.wrap (1000000 + (r.len : Int)))] 3) w fun (b3 : Addr) (w : World) =>
 Run .sl Try.prog (Builtin.append_ #[28, 28] 28 #[.slice z.a z.len z.cap, .slice (some b3) 1 1]) w fun (s2 : Sl) (w : World) =>
 NN b fun (b_5 : Addr) =>
 St (b_5.add 5) (.slice s2.a s2.len s2.cap) w fun (w : World) =>
 R w))
theorem f40_eq (b : Option Addr) (l : Sl) (w : World) (R : World → Prop) :
  f40 b l w R = dFunc Try.prog ⟨[(2, ⟨[(5, .i .i64)], [0, 1, 4]⟩)], []⟩ Try.f40 [.pointer b, .slice l.a l.len l.cap] (fun v w' => viewRet [] v R w') w := by kernel_rfl
theorem c40_of {b : Option Addr} {l : Sl} {w : World} {R : World → Prop} (h : f40 b l w R) : c40 b l w R :=
 callK_of okP Try.func40 (by rw [← f40_eq]; exact h)
def f41 (b : Option Addr) (w : World) (R : World → Prop) : Prop :=
 NN b fun (b_ : Addr) =>
 Ld .sl w b_ fun (v : Sl) =>
 NN b fun (b_2 : Addr) =>
 Ld (.i .i64) w (b_2.add 6) fun (i : Int) =>
 ∃ Inv_ : Int → Nat → World → Prop, (∃ n : Nat, Inv_ i n w) ∧ ∀ i2 : Int, ∀ m : Nat, ∀ w : World, Inv_ i2 m w → (if (decide (i2 < (v.len : Int))) = true then (NN b fun (b_3 : Addr) =>
 Ld .sl w b_3 fun (v2 : Sl) =>
 Ix v2.a v2.len i2 1 fun (a : Addr) =>
 Ld .sl w a fun (l : Sl) =>
 ∃ Inv_2 : Sl → Int → Nat → World → Prop, (∃ n : Nat, Inv_2 l 0 n w) ∧ ∀ l2 : Sl, ∀ k : Int, ∀ m3 : Nat, ∀ w : World, Inv_2 l2 k m3 w → (NN b fun (b_4 : Addr) =>
 Ld (.i .i64) w (b_4.add 6) fun (i3 : Int) =>
 c82 (IntKind.i64.wrap (i2 - i3)) w fun (r : Int) (w : World) =>
 if (decide (k < r)) = true then (NN b fun (b_5 : Addr) =>
 Ld .sl w (b_5.add 3) fun (x : Sl) =>
 Ix x.a x.len i2 1 fun (a2 : Addr) =>
 Ld (.i .i64) w a2 fun (x2 : Int) =>
 Nw (.cells #[.int .i64 x2] 2) w fun (b2 : Addr) (w : World) =>
 Run .sl Try.prog (Builtin.append_ #[38, 38] 38 #[.slice l2.a l2.len l2.cap, .slice (some b2) 1 1]) w fun (l3 : Sl) (w : World) =>
 ∃ m4 : Nat, m4 < m3 ∧ Inv_2 l3 (IntKind.i64.wrap (k + 1)) m4 w) else (NN b fun (b_6 : Addr) =>
 Ld .sl w b_6 fun (v3 : Sl) =>
 Nw (.cells #[.slice l2.a l2.len l2.cap] 38) w fun (b3 : Addr) (w : World) =>
 Run .sl Try.prog (Builtin.append_ #[82, 82] 82 #[.slice v3.a v3.len v3.cap, .slice (some b3) 1 1]) w fun (s : Sl) (w : World) =>
 NN b fun (b_7 : Addr) =>
 St b_7 (.slice s.a s.len s.cap) w fun (w : World) =>
 Dr w fun (w : World) =>
 NN b fun (b_8 : Addr) =>
 Ld .sl w (b_8.add 3) fun (x3 : Sl) =>
 NN b fun (b_9 : Addr) =>
 Ld .sl w (b_9.add 3) fun (x4 : Sl) =>
 Ix x4.a x4.len i2 1 fun (a3 : Addr) =>
 Ld (.i .i64) w a3 fun (x5 : Int) =>
 Nw (.cells #[.int .i64 x5] 2) w fun (b4 : Addr) (w : World) =>
 Run .sl Try.prog (Builtin.append_ #[38, 38] 38 #[.slice x3.a x3.len x3.cap, .slice (some b4) 1 1]) w fun (s2 : Sl) (w : World) =>
 NN b fun (b_10 : Addr) =>
 St (b_10.add 3) (.slice s2.a s2.len s2.cap) w fun (w : World) =>
 ∃ m2 : Nat, m2 < m ∧ Inv_ (IntKind.i64.wrap (i2 + 1)) m2 w))) else (NN b fun (b_11 : Addr) =>
 Ld .sl w b_11 fun (v4 : Sl) =>
 NN b fun (b_12 : Addr) =>
 St (b_12.add 6) (.int .i64 (v4.len : Int)) w fun (w : World) =>
 NN b fun (b_13 : Addr) =>
 Ld .sl w (b_13.add 1) fun (p : Sl) =>
 NN b fun (b_14 : Addr) =>
 Ld (.i .i64) w (b_14.add 7) fun (j : Int) =>
 ∃ Inv_3 : Int → Nat → World → Prop, (∃ n : Nat, Inv_3 j n w) ∧ ∀ i4 : Int, ∀ m5 : Nat, ∀ w : World, Inv_3 i4 m5 w → (if (decide (i4 < (p.len : Int))) = true then (NN b fun (b_15 : Addr) =>
 Ld .sl w (b_15.add 1) fun (p2 : Sl) =>
 Ix p2.a p2.len i4 1 fun (a4 : Addr) =>
 Ld .sl w a4 fun (l4 : Sl) =>
 ∃ Inv_4 : Sl → Int → Nat → World → Prop, (∃ n : Nat, Inv_4 l4 0 n w) ∧ ∀ l5 : Sl, ∀ k2 : Int, ∀ m7 : Nat, ∀ w : World, Inv_4 l5 k2 m7 w → (NN b fun (b_16 : Addr) =>
 Ld (.i .i64) w (b_16.add 7) fun (j2 : Int) =>
 c82 (IntKind.i64.wrap (i4 - j2)) w fun (r2 : Int) (w : World) =>
 if (decide (k2 < r2)) = true then (NN b fun (b_17 : Addr) =>
 Ld .sl w (b_17.add 4) fun (y : Sl) =>
 Ix y.a y.len i4 1 fun (a5 : Addr) =>
 Ld (.i .i64) w a5 fun (x6 : Int) =>
 Nw (.cells #[.int .i64 x6, .slice none 0 0] 40) w fun (b5 : Addr) (w : World) =>
 Run .sl Try.prog (Builtin.append_ #[36, 36] 36 #[.slice l5.a l5.len l5.cap, .slice (some b5) 1 1]) w fun (l6 : Sl) (w : World) =>
 ∃ m8 : Nat, m8 < m7 ∧ Inv_4 l6 (IntKind.i64.wrap (k2 + 1)) m8 w) else (NN b fun (b_18 : Addr) =>
 Ld .sl w (b_18.add 1) fun (p3 : Sl) =>
 Nw (.cells #[.slice l5.a l5.len l5.cap] 36) w fun (b6 : Addr) (w : World) =>
 Run .sl Try.prog (Builtin.append_ #[83, 83] 83 #[.slice p3.a p3.len p3.cap, .slice (some b6) 1 1]) w fun (s3 : Sl) (w : World) =>
 NN b fun (b_19 : Addr) =>
 St (b_19.add 1) (.slice s3.a s3.len s3.cap) w fun (w : World) =>
 Dr w fun (w : World) =>
 NN b fun (b_20 : Addr) =>
 Ld .sl w (b_20.add 4) fun (y2 : Sl) =>
 NN b fun (b_21 : Addr) =>
 Ld .sl w (b_21.add 4) fun (y3 : Sl) =>
 Ix y3.a y3.len i4 1 fun (a6 : Addr) =>
 Ld (.i .i64) w a6 fun (x7 : Int) =>
 Nw (.cells #[.int .i64 x7] 3) w fun (b7 : Addr) (w : World) =>
 Run .sl Try.prog (Builtin.append_ #[28, 28] 28 #[.slice y2.a y2.len y2.cap, .slice (some b7) 1 1]) w fun (s4 : Sl) (w : World) =>
 NN b fun (b_22 : Addr) =>
 St (b_22.add 4) (.slice s4.a s4.len s4.cap) w fun (w : World) =>
 ∃ m6 : Nat, m6 < m5 ∧ Inv_3 (IntKind.i64.wrap (i4 + 1)) m6 w))) else (NN b fun (b_23 : Addr) =>
 Ld .sl w (b_23.add 1) fun (p4 : Sl) =>
 NN b fun (b_24 : Addr) =>
 St (b_24.add 7) (.int .i64 (p4.len : Int)) w fun (w : World) =>
 NN b fun (b_25 : Addr) =>
 Ld .sl w (b_25.add 2) fun (r3 : Sl) =>
 NN b fun (b_26 : Addr) =>
 Ld (.i .i64) w (b_26.add 8) fun (k3 : Int) =>
 ∃ Inv_5 : Int → Nat → World → Prop, (∃ n : Nat, Inv_5 k3 n w) ∧ ∀ i5 : Int, ∀ m9 : Nat, ∀ w : World, Inv_5 i5 m9 w → (if (decide (i5 < (r3.len : Int))) = true then (NN b fun (b_27 : Addr) =>
 Ld .sl w (b_27.add 2) fun (r4 : Sl) =>
 Ix r4.a r4.len i5 1 fun (a7 : Addr) =>
 Ld .sl w a7 fun (l7 : Sl) =>
 ∃ Inv_6 : Sl → Int → Nat → World → Prop, (∃ n : Nat, Inv_6 l7 0 n w) ∧ ∀ l8 : Sl, ∀ k4 : Int, ∀ m11 : Nat, ∀ w : World, Inv_6 l8 k4 m11 w → (if (decide (k4 < 70)) = true then (NN b fun (b_28 : Addr) =>
 Ld .sl w (b_28.add 5) fun (z : Sl) =>
 Ix z.a z.len i5 1 fun (a8 : Addr) =>
 Ld (.i .i64) w a8 fun (x8 : Int) =>
 Nw (.cells #[.int .i64 x8, .int .i64 0, .slice none 0 0] 65) w fun (b8 : Addr) (w : World) =>
 Run .sl Try.prog (Builtin.append_ #[56, 56] 56 #[.slice l8.a l8.len l8.cap, .slice (some b8) 1 1]) w fun (l9 : Sl) (w : World) =>
 ∃ m12 : Nat, m12 < m11 ∧ Inv_6 l9 (IntKind.i64.wrap (k4 + 1)) m12 w) else (NN b fun (b_29 : Addr) =>
 Ld .sl w (b_29.add 2) fun (r5 : Sl) =>
 Nw (.cells #[.slice l8.a l8.len l8.cap] 56) w fun (b9 : Addr) (w : World) =>
 Run .sl Try.prog (Builtin.append_ #[84, 84] 84 #[.slice r5.a r5.len r5.cap, .slice (some b9) 1 1]) w fun (s5 : Sl) (w : World) =>
 NN b fun (b_30 : Addr) =>
 St (b_30.add 2) (.slice s5.a s5.len s5.cap) w fun (w : World) =>
 Dr w fun (w : World) =>
 NN b fun (b_31 : Addr) =>
 Ld .sl w (b_31.add 5) fun (z2 : Sl) =>
 NN b fun (b_32 : Addr) =>
 Ld .sl w (b_32.add 5) fun (z3 : Sl) =>
 Ix z3.a z3.len i5 1 fun (a9 : Addr) =>
 Ld (.i .i64) w a9 fun (x9 : Int) =>
 Nw (.cells #[.int .i64 x9] 3) w fun (b10 : Addr) (w : World) =>
 Run .sl Try.prog (Builtin.append_ #[28, 28] 28 #[.slice z2.a z2.len z2.cap, .slice (some b10) 1 1]) w fun (s6 : Sl) (w : World) =>
 NN b fun (b_33 : Addr) =>
 St (b_33.add 5) (.slice s6.a s6.len s6.cap) w fun (w : World) =>
 ∃ m10 : Nat, m10 < m9 ∧ Inv_5 (IntKind.i64.wrap (i5 + 1)) m10 w))) else (NN b fun (b_34 : Addr) =>
 Ld .sl w (b_34.add 2) fun (r6 : Sl) =>
 NN b fun (b_35 : Addr) =>
 St (b_35.add 8) (.int .i64 (r6.len : Int)) w fun (w : World) =>
 R w))))))
theorem f41_eq (b : Option Addr) (w : World) (R : World → Prop) :
  f41 b w R = dFunc Try.prog ⟨[(2, ⟨[(3, .i .i64)], [0, 2]⟩), (6, ⟨[(4, .sl), (5, .i .i64)], [0, 2, 3]⟩), (14, ⟨[(6, .i .i64)], [0, 2]⟩), (18, ⟨[(7, .sl), (8, .i .i64)], [0, 2, 6]⟩), (26, ⟨[(9, .i .i64)], [0, 2]⟩), (30, ⟨[(10, .sl), (11, .i .i64)], [0, 2, 9]⟩)], []⟩ Try.f41 [.pointer b] (fun v w' => viewRet [] v R w') w := by kernel_rfl
theorem c41_of {b : Option Addr} {w : World} {R : World → Prop} (h : f41 b w R) : c41 b w R :=
 callK_of okP Try.func41 (by rw [← f41_eq]; exact h)
def f42 (kinds : Sl) (w : World) (R : Bool → World → Prop) : Prop :=
 ∃ Inv_ : Sl → Int → Nat → World → Prop, (∃ n : Nat, Inv_ ⟨none, 0, 0⟩ 0 n w) ∧ ∀ names : Sl, ∀ t8 : Int, ∀ m : Nat, ∀ w : World, Inv_ names t8 m w → (if (decide (t8 < (kinds.len : Int))) = true then (Ix kinds.a kinds.len t8 2 fun (a : Addr) =>
 Ld .s w a fun (k_Name : ByteArray) => Ld .sl w (a.add 1) fun (k_Fields : Sl) =>
 Nw (.cells #[.string (⟨#[]⟩ : ByteArray), .slice none 0 0] 94) w fun (k : Addr) (w : World) =>
 St k (.string k_Name) w fun (w : World) =>
 St (k.add 1) (.slice k_Fields.a k_Fields.len k_Fields.cap) w fun (w : World) =>
 ∃ J_ : World → Prop, (Ld .sl w (k.add 1) fun (Fields : Sl) =>
 if (decide ((Fields.len : Int) > 4)) = true then (R false w) else (Ld .sl w (k.add 1) fun (Fields2 : Sl) =>
 c83 Fields2 w fun (r : Bool) (w : World) =>
 if (!r) = true then (R false w) else (J_  w))) ∧ ∀ w : World, J_  w → (Ld .s w k fun (Name : ByteArray) =>
 Nw (.cells #[.string Name] 9) w fun (b : Addr) (w : World) =>
 Run .sl Try.prog (Builtin.append_ #[81, 81] 81 #[.slice names.a names.len names.cap, .slice (some b) 1 1]) w fun (names2 : Sl) (w : World) =>
 ∃ m2 : Nat, m2 < m ∧ Inv_ names2 (IntKind.i64.wrap (t8 + 1)) m2 w)) else (if (decide ((kinds.len : Int) ≥ 1)) = true then (if (decide ((kinds.len : Int) ≤ 12)) = true then (c83 names w fun (r2 : Bool) (w : World) =>
 R r2 w) else (R false w)) else (R false w)))
theorem f42_eq (kinds : Sl) (w : World) (R : Bool → World → Prop) :
  f42 kinds w R = dFunc Try.prog ⟨[(3, ⟨[(3, .sl), (8, .i .i64)], [0, 6, 7]⟩)], [(7, ⟨[], [0, 3, 5, 6, 7, 8]⟩)]⟩ Try.f42 [.slice kinds.a kinds.len kinds.cap] (fun v w' => viewRet [.one .b] v R w') w := by kernel_rfl
theorem c42_of {kinds : Sl} {w : World} {R : Bool → World → Prop} (h : f42 kinds w R) : c42 kinds w R :=
 callK_of okP Try.func42 (by rw [← f42_eq]; exact h)
def f43 (most : Int) (w : World) (R : Option Addr → Int → World → Prop) : Prop :=
 if (cond (decide (most < 1)) true (decide (most > 200))) = true then (R none 1 w) else (Nw (.cells #[.int .i64 most, .slice none 0 0, .slice none 0 0, .slice none 0 0] 149) w fun (a : Addr) (w : World) =>
 R (some a) 0 w)
theorem f43_eq (most : Int) (w : World) (R : Option Addr → Int → World → Prop) :
  f43 most w R = dFunc Try.prog ⟨[], []⟩ Try.f43 [.int .i64 most] (fun v w' => viewRet [.one .p, .one (.i .i64)] v R w') w := by kernel_rfl
theorem c43_of {most : Int} {w : World} {R : Option Addr → Int → World → Prop} (h : f43 most w R) : c43 most w R :=
 callK_of okP Try.func43 (by rw [← f43_eq]; exact h)
def f44 (kinds : Sl) (w : World) (R : Sl → World → Prop) : Prop :=
 c84 kinds w fun (out : Sl) (w : World) =>
 ∃ Inv_ : Int → Nat → World → Prop, (∃ n : Nat, Inv_ 0 n w) ∧ ∀ t9 : Int, ∀ m : Nat, ∀ w : World, Inv_ t9 m w → (if (decide (t9 < (out.len : Int))) = true then (Ix out.a out.len t9 2 fun (a : Addr) =>
 Ld .sl w (a.add 1) fun (Fields : Sl) =>
 c85 Fields w fun (r : Sl) (w : World) =>
 Ix out.a out.len t9 2 fun (a2 : Addr) =>
 St (a2.add 1) (.slice r.a r.len r.cap) w fun (w : World) =>
 ∃ m2 : Nat, m2 < m ∧ Inv_ (IntKind.i64.wrap (t9 + 1)) m2 w) else (R out w))
theorem f44_eq (kinds : Sl) (w : World) (R : Sl → World → Prop) :
  f44 kinds w R = dFunc Try.prog ⟨[(3, ⟨[(9, .i .i64)], [3, 8]⟩)], []⟩ Try.f44 [.slice kinds.a kinds.len kinds.cap] (fun v w' => viewRet [.one .sl] v R w') w := by kernel_rfl
theorem c44_of {kinds : Sl} {w : World} {R : Sl → World → Prop} (h : f44 kinds w R) : c44 kinds w R :=
 callK_of okP Try.func44 (by rw [← f44_eq]; exact h)
def f45 (w_ : Option Addr) (kind : Int) (w : World) (R : Int → Bool → World → Prop) : Prop :=
 ∃ J_ : World → Prop, (if (decide (kind < 1)) = true then (R 0 false w) else (NN w_ fun (w_2 : Addr) =>
 Ld .sl w w_2 fun (kinds : Sl) =>
 if (decide (kind > (kinds.len : Int))) = true then (R 0 false w) else (J_  w))) ∧ ∀ w : World, J_  w → (NN w_ fun (w_3 : Addr) =>
 Ld .sl w w_3 fun (kinds2 : Sl) =>
 Ix kinds2.a kinds2.len (IntKind.i64.wrap (kind - 1)) 2 fun (a : Addr) =>
 Ld .sl w (a.add 1) fun (Fields : Sl) =>
 R (Fields.len : Int) true w)
theorem f45_eq (w_ : Option Addr) (kind : Int) (w : World) (R : Int → Bool → World → Prop) :
  f45 w_ kind w R = dFunc Try.prog ⟨[], [(3, ⟨[], [0, 1]⟩)]⟩ Try.f45 [.pointer w_, .int .i64 kind] (fun v w' => viewRet [.one (.i .i64), .one .b] v R w') w := by kernel_rfl
theorem c45_of {w_ : Option Addr} {kind : Int} {w : World} {R : Int → Bool → World → Prop} (h : f45 w_ kind w R) : c45 w_ kind w R :=
 callK_of okP Try.func45 (by rw [← f45_eq]; exact h)
def f46 (s : Sl) (i : Int) (v : Sl) (w : World) (R : Sl → World → Prop) : Prop :=
 Cut ⟨s.a, s.len, s.cap⟩ i (s.len : Int) (s.cap : Int) 1 fun (s2 : Sl) =>
 if ((v.len : Int) == 0) = true then (R s w) else (if (i == (s.len : Int)) = true then (Run .sl Try.prog (Builtin.append_ #[38, 38] 38 #[.slice s.a s.len s.cap, .slice v.a v.len v.cap]) w fun (s3 : Sl) (w : World) =>
 R s3 w) else (if (decide ((IntKind.i64.wrap ((s.len : Int) + (v.len : Int))) > (s.cap : Int))) = true then (Cut ⟨s.a, s.len, s.cap⟩ 0 i (s.cap : Int) 1 fun (s4 : Sl) =>
 Run .sl Try.prog (Builtin.append_ #[38, 3] 38 #[.slice s4.a s4.len s4.cap, .int .i64 (IntKind.i64.wrap ((IntKind.i64.wrap ((s.len : Int) + (v.len : Int))) - i))]) w fun (s22 : Sl) (w : World) =>
 Cut ⟨s22.a, s22.len, s22.cap⟩ i (s22.len : Int) (s22.cap : Int) 1 fun (s5 : Sl) =>
 Run (.i .i64) Try.prog (Builtin.copy_ #[38, 38] 3 #[.slice s5.a s5.len s5.cap, .slice v.a v.len v.cap]) w fun (n_ : Int) (w : World) =>
 Dr w fun (w : World) =>
 Cut ⟨s22.a, s22.len, s22.cap⟩ (IntKind.i64.wrap (i + (v.len : Int))) (s22.len : Int) (s22.cap : Int) 1 fun (s6 : Sl) =>
 Cut ⟨s.a, s.len, s.cap⟩ i (s.len : Int) (s.cap : Int) 1 fun (s7 : Sl) =>
 Run (.i .i64) Try.prog (Builtin.copy_ #[38, 38] 3 #[.slice s6.a s6.len s6.cap, .slice s7.a s7.len s7.cap]) w fun (n_2 : Int) (w : World) =>
 R s22 w) else (Cut ⟨s.a, s.len, s.cap⟩ 0 (IntKind.i64.wrap ((s.len : Int) + (v.len : Int))) (s.cap : Int) 1 fun (s8 : Sl) =>
 Cut ⟨s8.a, s8.len, s8.cap⟩ (IntKind.i64.wrap (i + (v.len : Int))) (s8.len : Int) (s8.cap : Int) 1 fun (s9 : Sl) =>
 CallX Try.prog 86 [.slice v.a v.len v.cap, .slice s9.a s9.len s9.cap] [.one .b] w fun (r : Bool) (w : World) =>
 if (!r) = true then (Dr w fun (w : World) =>
 Cut ⟨s8.a, s8.len, s8.cap⟩ (IntKind.i64.wrap (i + (v.len : Int))) (s8.len : Int) (s8.cap : Int) 1 fun (s10 : Sl) =>
 Cut ⟨s8.a, s8.len, s8.cap⟩ i (s8.len : Int) (s8.cap : Int) 1 fun (s11 : Sl) =>
 Run (.i .i64) Try.prog (Builtin.copy_ #[38, 38] 3 #[.slice s10.a s10.len s10.cap, .slice s11.a s11.len s11.cap]) w fun (n_3 : Int) (w : World) =>
 Cut ⟨s8.a, s8.len, s8.cap⟩ i (s8.len : Int) (s8.cap : Int) 1 fun (s12 : Sl) =>
 Run (.i .i64) Try.prog (Builtin.copy_ #[38, 38] 3 #[.slice s12.a s12.len s12.cap, .slice v.a v.len v.cap]) w fun (n_4 : Int) (w : World) =>
 R s8 w) else (Cut ⟨s8.a, s8.len, s8.cap⟩ (s.len : Int) (s8.len : Int) (s8.cap : Int) 1 fun (s13 : Sl) =>
 Run (.i .i64) Try.prog (Builtin.copy_ #[38, 38] 3 #[.slice s13.a s13.len s13.cap, .slice v.a v.len v.cap]) w fun (n_5 : Int) (w : World) =>
 Cut ⟨s8.a, s8.len, s8.cap⟩ i (s8.len : Int) (s8.cap : Int) 1 fun (s14 : Sl) =>
 c87 s14 (v.len : Int) w fun  (w : World) =>
 R s8 w))))
theorem f46_eq (s : Sl) (i : Int) (v : Sl) (w : World) (R : Sl → World → Prop) :
  f46 s i v w R = dFunc Try.prog ⟨[], []⟩ Try.f46 [.slice s.a s.len s.cap, .int .i64 i, .slice v.a v.len v.cap] (fun v w' => viewRet [.one .sl] v R w') w := by kernel_rfl
theorem c46_of {s : Sl} {i : Int} {v : Sl} {w : World} {R : Sl → World → Prop} (h : f46 s i v w R) : c46 s i v w R :=
 callK_of okP Try.func46 (by rw [← f46_eq]; exact h)
def f47 (w_ : Option Addr) (set : Int) (kind : Int) (w : World) (R : Int → World → Prop) : Prop :=
 ∃ Inv_ : Int → Int → Nat → World → Prop, (∃ n : Nat, Inv_ 0 1 n w) ∧ ∀ n_ : Int, ∀ k : Int, ∀ m : Nat, ∀ w : World, Inv_ n_ k m w → (if (decide (k < kind)) = true then ((0 : Int) ≤ k ∧ (if ((IntKind.i64.wrap ((BitVec.ofInt 64 (Int.fdiv set (2 ^ (min (Int.toNat k) 64))) &&& BitVec.ofInt 64 1).toNat : Nat)) == 1) = true then (NN w_ fun (w_2 : Addr) =>
 Ld .sl w w_2 fun (kinds : Sl) =>
 Ix kinds.a kinds.len (IntKind.i64.wrap (k - 1)) 2 fun (a : Addr) =>
 Ld .sl w (a.add 1) fun (Fields : Sl) =>
 ∃ m2 : Nat, m2 < m ∧ Inv_ (IntKind.i64.wrap (n_ + (Fields.len : Int))) (IntKind.i64.wrap (k + 1)) m2 w) else (∃ m2 : Nat, m2 < m ∧ Inv_ n_ (IntKind.i64.wrap (k + 1)) m2 w))) else (R n_ w))
theorem f47_eq (w_ : Option Addr) (set : Int) (kind : Int) (w : World) (R : Int → World → Prop) :
  f47 w_ set kind w R = dFunc Try.prog ⟨[(3, ⟨[(7, .i .i64), (8, .i .i64)], [0, 1, 2]⟩)], []⟩ Try.f47 [.pointer w_, .int .i64 set, .int .i64 kind] (fun v w' => viewRet [.one (.i .i64)] v R w') w := by kernel_rfl
theorem c47_of {w_ : Option Addr} {set : Int} {kind : Int} {w : World} {R : Int → World → Prop} (h : f47 w_ set kind w R) : c47 w_ set kind w R :=
 callK_of okP Try.func47 (by rw [← f47_eq]; exact h)
def f48 (p : Option Addr) (w : World) (R : Int → Int → Int → World → Prop) : Prop :=
 Nw (.cells #[.int .i64 0, .int .i64 0] 43) w fun (a : Addr) (w : World) =>
 NN p fun (p_ : Addr) =>
 Ld .sl w (p_.add 3) fun (free : Sl) =>
 if (decide ((free.len : Int) > 0)) = true then (NN p fun (p_2 : Addr) =>
 Ld .sl w (p_2.add 3) fun (free2 : Sl) =>
 Ix free2.a free2.len 0 1 fun (a2 : Addr) =>
 Ld (.i .i64) w a2 fun (i : Int) =>
 NN p fun (p_3 : Addr) =>
 Ld .sl w (p_3.add 3) fun (free3 : Sl) =>
 Cut ⟨free3.a, free3.len, free3.cap⟩ 1 (free3.len : Int) (free3.cap : Int) 1 fun (s : Sl) =>
 NN p fun (p_4 : Addr) =>
 St (p_4.add 3) (.slice s.a s.len s.cap) w fun (w : World) =>
 NN p fun (p_5 : Addr) =>
 Ld .sl w (p_5.add 1) fun (gens : Sl) =>
 Ix gens.a gens.len i 1 fun (a3 : Addr) =>
 Ld (.i .i64) w a3 fun (x : Int) =>
 Ix gens.a gens.len i 1 fun (a4 : Addr) =>
 St a4 (.int .i64 (IntKind.i64.wrap (x + 1))) w fun (w : World) =>
 NN p fun (p_6 : Addr) =>
 Ld .sl w (p_6.add 2) fun (alive : Sl) =>
 Ix alive.a alive.len i 1 fun (a5 : Addr) =>
 St a5 (.bool true) w fun (w : World) =>
 NN p fun (p_7 : Addr) =>
 Ld .sl w (p_7.add 1) fun (gens2 : Sl) =>
 Ix gens2.a gens2.len i 1 fun (a6 : Addr) =>
 Ld (.i .i64) w a6 fun (x2 : Int) =>
 St a (.int .i64 i) w fun (w : World) =>
 St (a.add 1) (.int .i64 x2) w fun (w : World) =>
 Ld (.i .i64) w a fun (r_Index : Int) => Ld (.i .i64) w (a.add 1) fun (r_Gen : Int) =>
 R r_Index r_Gen 0 w) else (Dr w fun (w : World) =>
 NN p fun (p_8 : Addr) =>
 Ld .sl w (p_8.add 1) fun (gens3 : Sl) =>
 NN p fun (p_9 : Addr) =>
 Ld (.i .i64) w p_9 fun (most : Int) =>
 if ((gens3.len : Int) == most) = true then (St a (.int .i64 0) w fun (w : World) =>
 St (a.add 1) (.int .i64 0) w fun (w : World) =>
 Ld (.i .i64) w a fun (r_Index2 : Int) => Ld (.i .i64) w (a.add 1) fun (r_Gen2 : Int) =>
 R r_Index2 r_Gen2 40 w) else (NN p fun (p_10 : Addr) =>
 Ld .sl w (p_10.add 1) fun (gens4 : Sl) =>
 Nw (.cells #[.int .i64 1] 3) w fun (b : Addr) (w : World) =>
 Run .sl Try.prog (Builtin.append_ #[28, 28] 28 #[.slice gens4.a gens4.len gens4.cap, .slice (some b) 1 1]) w fun (s2 : Sl) (w : World) =>
 NN p fun (p_11 : Addr) =>
 St (p_11.add 1) (.slice s2.a s2.len s2.cap) w fun (w : World) =>
 NN p fun (p_12 : Addr) =>
 Ld .sl w (p_12.add 2) fun (alive2 : Sl) =>
 Nw (.cells #[.bool true] 4) w fun (b2 : Addr) (w : World) =>
 Run .sl Try.prog (Builtin.append_ #[61, 61] 61 #[.slice alive2.a alive2.len alive2.cap, .slice (some b2) 1 1]) w fun (s3 : Sl) (w : World) =>
 NN p fun (p_13 : Addr) =>
 St (p_13.add 2) (.slice s3.a s3.len s3.cap) w fun (w : World) =>
 NN p fun (p_14 : Addr) =>
 Ld .sl w (p_14.add 1) fun (gens5 : Sl) =>
 St a (.int .i64 (IntKind.i64.wrap ((gens5.len : Int) - 1))) w fun (w : World) =>
 St (a.add 1) (.int .i64 1) w fun (w : World) =>
 Ld (.i .i64) w a fun (r_Index3 : Int) => Ld (.i .i64) w (a.add 1) fun (r_Gen3 : Int) =>
 R r_Index3 r_Gen3 0 w))
theorem f48_eq (p : Option Addr) (w : World) (R : Int → Int → Int → World → Prop) :
  f48 p w R = dFunc Try.prog ⟨[], []⟩ Try.f48 [.pointer p] (fun v w' => viewRet [.agg [.i .i64, .i .i64], .one (.i .i64)] v R w') w := by kernel_rfl
theorem c48_of {p : Option Addr} {w : World} {R : Int → Int → Int → World → Prop} (h : f48 p w R) : c48 p w R :=
 callK_of okP Try.func48 (by rw [← f48_eq]; exact h)
def f49 (w_ : Option Addr) (e_Index : Int) (e_Gen : Int) (set : Int) (values : Sl) (w : World) (R : World → Prop) : Prop :=
 Nw (.cells #[.int .i64 e_Index, .int .i64 e_Gen] 43) w fun (e : Addr) (w : World) =>
 Dr w fun (w : World) =>
 NN w_ fun (w_2 : Addr) =>
 Ld .m w (w_2.add 2) fun (sets : Option Nat) =>
 Ld (.i .i64) w e fun (e_Index2 : Int) => Ld (.i .i64) w (e.add 1) fun (e_Gen2 : Int) =>
 RunU Try.prog (Instr.mapUpdate 98 (.map sets) (.agg #[.int .i64 e_Index2, .int .i64 e_Gen2]) (.int .i64 set)) w fun (w : World) =>
 Dr w fun (w : World) =>
 Ld (.i .i64) w e fun (e_Index3 : Int) => Ld (.i .i64) w (e.add 1) fun (e_Gen3 : Int) =>
 c88 w_ set w fun (r : Option Addr) (w : World) =>
 w.cell? e = some (.int .i64 e_Index3) ∧ w.cell? (e.add 1) = some (.int .i64 e_Gen3) ∧ (c89 r e_Index3 e_Gen3 values w fun (r2 : Int) (r3 : Int) (w : World) =>
 R w)
theorem f49_eq (w_ : Option Addr) (e_Index : Int) (e_Gen : Int) (set : Int) (values : Sl) (w : World) (R : World → Prop) :
  f49 w_ e_Index e_Gen set values w R = dFunc Try.prog ⟨[], []⟩ Try.f49 [.pointer w_, .agg #[.int .i64 e_Index, .int .i64 e_Gen], .int .i64 set, .slice values.a values.len values.cap] (fun v w' => viewRet [] v R w') w := by kernel_rfl
theorem c49_of {w_ : Option Addr} {e_Index : Int} {e_Gen : Int} {set : Int} {values : Sl} {w : World} {R : World → Prop} (h : f49 w_ e_Index e_Gen set values w R) : c49 w_ e_Index e_Gen set values w R :=
 callK_of okP Try.func49 (by rw [← f49_eq]; exact h)
def f50 (p : Option Addr) (w : World) (R : Sl → Sl → World → Prop) : Prop :=
 NN p fun (p_ : Addr) =>
 Ld .sl w (p_.add 1) fun (gens : Sl) =>
 c90 gens w fun (gens2 : Sl) (w : World) =>
 ∃ Inv_ : Int → Nat → World → Prop, (∃ n : Nat, Inv_ 0 n w) ∧ ∀ t13 : Int, ∀ m : Nat, ∀ w : World, Inv_ t13 m w → (if (decide (t13 < (gens2.len : Int))) = true then (Ix gens2.a gens2.len t13 1 fun (a : Addr) =>
 Ld (.i .i64) w a fun (g : Int) =>
 ∃ J_ : Bool → World → Prop, (if (g == 1000000) = true then (NN p fun (p_2 : Addr) =>
 Ld .sl w (p_2.add 2) fun (alive : Sl) =>
 Ix alive.a alive.len t13 1 fun (a2 : Addr) =>
 Ld .b w a2 fun (x : Bool) =>
 J_ (!x) w) else (J_ false w)) ∧ ∀ t29 : Bool, ∀ w : World, J_ t29 w → (if t29 = true then (Ix gens2.a gens2.len t13 1 fun (a3 : Addr) =>
 Ld (.i .i64) w a3 fun (x2 : Int) =>
 Ix gens2.a gens2.len t13 1 fun (a4 : Addr) =>
 St a4 (.int .i64 (IntKind.i64.wrap (x2 + 1))) w fun (w : World) =>
 ∃ m2 : Nat, m2 < m ∧ Inv_ (IntKind.i64.wrap (t13 + 1)) m2 w) else (∃ m2 : Nat, m2 < m ∧ Inv_ (IntKind.i64.wrap (t13 + 1)) m2 w))) else (NN p fun (p_3 : Addr) =>
 Ld .sl w (p_3.add 3) fun (free : Sl) =>
 c90 free w fun (free2 : Sl) (w : World) =>
 R gens2 free2 w))
theorem f50_eq (p : Option Addr) (w : World) (R : Sl → Sl → World → Prop) :
  f50 p w R = dFunc Try.prog ⟨[(3, ⟨[(13, .i .i64)], [0, 2, 11, 12]⟩)], [(6, ⟨[(29, .b)], [0, 2, 4, 11, 12, 13]⟩)]⟩ Try.f50 [.pointer p] (fun v w' => viewRet [.one .sl, .one .sl] v R w') w := by kernel_rfl
theorem c50_of {p : Option Addr} {w : World} {R : Sl → Sl → World → Prop} (h : f50 p w R) : c50 p w R :=
 callK_of okP Try.func50 (by rw [← f50_eq]; exact h)
def f51 (b : Sl) (l : Sl) (w : World) (R : Sl → World → Prop) : Prop :=
 c91 b w fun (r : Sl) (w : World) =>
 c92 l w fun (r2 : Sl) (w : World) =>
 Run .sl Try.prog (Builtin.append_ #[50, 50] 50 #[.slice r.a r.len r.cap, .slice r2.a r2.len r2.cap]) w fun (s : Sl) (w : World) =>
 R s w
theorem f51_eq (b : Sl) (l : Sl) (w : World) (R : Sl → World → Prop) :
  f51 b l w R = dFunc Try.prog ⟨[], []⟩ Try.f51 [.slice b.a b.len b.cap, .slice l.a l.len l.cap] (fun v w' => viewRet [.one .sl] v R w') w := by kernel_rfl
theorem c51_of {b : Sl} {l : Sl} {w : World} {R : Sl → World → Prop} (h : f51 b l w R) : c51 b l w R :=
 callK_of okP Try.func51 (by rw [← f51_eq]; exact h)
def f52 (l : Sl) (w : World) (R : Sl → World → Prop) : Prop :=
 ∃ Inv_ : Sl → Int → Nat → World → Prop, (∃ n : Nat, Inv_ ⟨none, 0, 0⟩ 0 n w) ∧ ∀ out : Sl, ∀ t8 : Int, ∀ m : Nat, ∀ w : World, Inv_ out t8 m w → (if (decide (t8 < (l.len : Int))) = true then (Ix l.a l.len t8 1 fun (a : Addr) =>
 Ld (.i .i64) w a fun (n_ : Int) =>
 Nw (.cells #[.int .i64 n_] 2) w fun (b : Addr) (w : World) =>
 Run .sl Try.prog (Builtin.append_ #[38, 38] 38 #[.slice out.a out.len out.cap, .slice (some b) 1 1]) w fun (out2 : Sl) (w : World) =>
 ∃ m2 : Nat, m2 < m ∧ Inv_ out2 (IntKind.i64.wrap (t8 + 1)) m2 w) else (R out w))
theorem f52_eq (l : Sl) (w : World) (R : Sl → World → Prop) :
  f52 l w R = dFunc Try.prog ⟨[(3, ⟨[(3, .sl), (8, .i .i64)], [6, 7]⟩)], []⟩ Try.f52 [.slice l.a l.len l.cap] (fun v w' => viewRet [.one .sl] v R w') w := by kernel_rfl
theorem c52_of {l : Sl} {w : World} {R : Sl → World → Prop} (h : f52 l w R) : c52 l w R :=
 callK_of okP Try.func52 (by rw [← f52_eq]; exact h)
def f53 (b : Sl) (n_ : Int) (w : World) (R : Sl → World → Prop) : Prop :=
 c91 b w fun (r : Sl) (w : World) =>
 c93 r n_ w fun (r2 : Sl) (w : World) =>
 R r2 w
theorem f53_eq (b : Sl) (n_ : Int) (w : World) (R : Sl → World → Prop) :
  f53 b n_ w R = dFunc Try.prog ⟨[], []⟩ Try.f53 [.slice b.a b.len b.cap, .int .u64 n_] (fun v w' => viewRet [.one .sl] v R w') w := by kernel_rfl
theorem c53_of {b : Sl} {n_ : Int} {w : World} {R : Sl → World → Prop} (h : f53 b n_ w R) : c53 b n_ w R :=
 callK_of okP Try.func53 (by rw [← f53_eq]; exact h)
def f54 (b : Sl) (n_ : Int) (w : World) (R : Sl → World → Prop) : Prop :=
 c94 n_ w fun (r : Int) (w : World) =>
 c53 b r w fun (r2 : Sl) (w : World) =>
 R r2 w
theorem f54_eq (b : Sl) (n_ : Int) (w : World) (R : Sl → World → Prop) :
  f54 b n_ w R = dFunc Try.prog ⟨[], []⟩ Try.f54 [.slice b.a b.len b.cap, .int .i64 n_] (fun v w' => viewRet [.one .sl] v R w') w := by kernel_rfl
theorem c54_of {b : Sl} {n_ : Int} {w : World} {R : Sl → World → Prop} (h : f54 b n_ w R) : c54 b n_ w R :=
 callK_of okP Try.func54 (by rw [← f54_eq]; exact h)
def f55 (w_ : Option Addr) (e_Index : Int) (e_Gen : Int) (kind : Int) (w : World) (R : Int → Bool → Int → Int → World → Prop) : Prop :=
 Nw (.cells #[.int .i64 e_Index, .int .i64 e_Gen] 43) w fun (e : Addr) (w : World) =>
 Dr w fun (w : World) =>
 NN w_ fun (w_2 : Addr) =>
 Ld .p w (w_2.add 1) fun (pool : Option Addr) =>
 Ld (.i .i64) w e fun (e_Index2 : Int) => Ld (.i .i64) w (e.add 1) fun (e_Gen2 : Int) =>
 c63 pool e_Index2 e_Gen2 w fun (r : Bool) (w : World) =>
 if (!r) = true then (R 0 false 0 41 w) else (c45 w_ kind w fun (fields : Int) (ok : Bool) (w : World) =>
 if (!ok) = true then (R 0 false 0 60 w) else (Dr w fun (w : World) =>
 NN w_ fun (w_3 : Addr) =>
 Ld .m w (w_3.add 2) fun (sets : Option Nat) =>
 Ld (.i .i64) w e fun (e_Index3 : Int) => Ld (.i .i64) w (e.add 1) fun (e_Gen3 : Int) =>
 RunRoL [.one (.i .i64)] Try.prog (Instr.lookup 98 (.map sets) (.agg #[.int .i64 e_Index3, .int .i64 e_Gen3]) false) w fun (set : Int) (_ : World) =>
 Dr w fun (w : World) =>
 (0 : Int) ≤ kind ∧ (R set ((IntKind.i64.wrap ((BitVec.ofInt 64 (Int.fdiv set (2 ^ (min (Int.toNat kind) 64))) &&& BitVec.ofInt 64 1).toNat : Nat)) == 1) fields 0 w)))
theorem f55_eq (w_ : Option Addr) (e_Index : Int) (e_Gen : Int) (kind : Int) (w : World) (R : Int → Bool → Int → Int → World → Prop) :
  f55 w_ e_Index e_Gen kind w R = dFunc Try.prog ⟨[], []⟩ Try.f55 [.pointer w_, .agg #[.int .i64 e_Index, .int .i64 e_Gen], .int .i64 kind] (fun v w' => viewRet [.one (.i .i64), .one .b, .one (.i .i64), .one (.i .i64)] v R w') w := by kernel_rfl
theorem c55_of {w_ : Option Addr} {e_Index : Int} {e_Gen : Int} {kind : Int} {w : World} {R : Int → Bool → Int → Int → World → Prop} (h : f55 w_ e_Index e_Gen kind w R) : c55 w_ e_Index e_Gen kind w R :=
 callK_of okP Try.func55 (by rw [← f55_eq]; exact h)
def f56 (s : Sl) (i : Int) (j : Int) (w : World) (R : Sl → World → Prop) : Prop :=
 Cut ⟨s.a, s.len, s.cap⟩ i j (s.len : Int) 1 fun (s2 : Sl) =>
 if (i == j) = true then (R s w) else (Dr w fun (w : World) =>
 Cut ⟨s.a, s.len, s.cap⟩ 0 i (s.cap : Int) 1 fun (s3 : Sl) =>
 Cut ⟨s.a, s.len, s.cap⟩ j (s.len : Int) (s.cap : Int) 1 fun (s4 : Sl) =>
 Run .sl Try.prog (Builtin.append_ #[38, 38] 38 #[.slice s3.a s3.len s3.cap, .slice s4.a s4.len s4.cap]) w fun (s5 : Sl) (w : World) =>
 Cut ⟨s5.a, s5.len, s5.cap⟩ (s5.len : Int) (s.len : Int) (s5.cap : Int) 1 fun (s6 : Sl) =>
 Run .v Try.prog (Builtin.clear_ #[38] 0 #[.slice s6.a s6.len s6.cap]) w fun (n_ : Value) (w : World) =>
 R s5 w)
def f57 (w_ : Option Addr) (e_Index : Int) (e_Gen : Int) (w : World) (R : Sl → World → Prop) : Prop :=
 Nw (.cells #[.int .i64 e_Index, .int .i64 e_Gen] 43) w fun (e : Addr) (w : World) =>
 Dr w fun (w : World) =>
 NN w_ fun (w_2 : Addr) =>
 Ld .m w (w_2.add 2) fun (sets : Option Nat) =>
 Ld (.i .i64) w e fun (e_Index2 : Int) => Ld (.i .i64) w (e.add 1) fun (e_Gen2 : Int) =>
 RunRoL [.one (.i .i64)] Try.prog (Instr.lookup 98 (.map sets) (.agg #[.int .i64 e_Index2, .int .i64 e_Gen2]) false) w fun (set : Int) (_ : World) =>
 NN w_ fun (w_3 : Addr) =>
 Ld .m w (w_3.add 3) fun (tables : Option Nat) =>
 RunRoL [.one .p] Try.prog (Instr.lookup 99 (.map tables) (.int .i64 set) false) w fun (t : Option Addr) (_ : World) =>
 Ld (.i .i64) w e fun (e_Index3 : Int) => Ld (.i .i64) w (e.add 1) fun (e_Gen3 : Int) =>
 c66 t e_Index3 e_Gen3 w fun (r : Int) (w : World) =>
 c95 t r w fun (x__Index : Int) (x__Gen : Int) (values : Sl) (x_ : Int) (w : World) =>
 Nw (.cells #[.int .i64 0, .int .i64 0] 43) w fun (x_2 : Addr) (w : World) =>
 St x_2 (.int .i64 x__Index) w fun (w : World) =>
 St (x_2.add 1) (.int .i64 x__Gen) w fun (w : World) =>
 Ld (.i .i64) w e fun (e_Index4 : Int) => Ld (.i .i64) w (e.add 1) fun (e_Gen4 : Int) =>
 c66 t e_Index4 e_Gen4 w fun (r2 : Int) (w : World) =>
 c96 t r2 w fun (r_Index : Int) (r_Gen : Int) (r3 : Bool) (r4 : Int) (w : World) =>
 Dr w fun (w : World) =>
 NN w_ fun (w_4 : Addr) =>
 Ld .m w (w_4.add 2) fun (sets2 : Option Nat) =>
 Ld (.i .i64) w e fun (e_Index5 : Int) => Ld (.i .i64) w (e.add 1) fun (e_Gen5 : Int) =>
 Run .v Try.prog (Builtin.delete_ #[98, 43] 0 #[.map sets2, .agg #[.int .i64 e_Index5, .int .i64 e_Gen5]]) w fun (n_ : Value) (w : World) =>
 c61 t w fun (r5 : Int) (w : World) =>
 if (r5 == 0) = true then (NN w_ fun (w_5 : Addr) =>
 Ld .m w (w_5.add 3) fun (tables2 : Option Nat) =>
 Run .v Try.prog (Builtin.delete_ #[99, 3] 0 #[.map tables2, .int .i64 set]) w fun (n_2 : Value) (w : World) =>
 R values w) else (R values w)
theorem f57_eq (w_ : Option Addr) (e_Index : Int) (e_Gen : Int) (w : World) (R : Sl → World → Prop) :
  f57 w_ e_Index e_Gen w R = dFunc Try.prog ⟨[], []⟩ Try.f57 [.pointer w_, .agg #[.int .i64 e_Index, .int .i64 e_Gen]] (fun v w' => viewRet [.one .sl] v R w') w := by kernel_rfl
theorem c57_of {w_ : Option Addr} {e_Index : Int} {e_Gen : Int} {w : World} {R : Sl → World → Prop} (h : f57 w_ e_Index e_Gen w R) : c57 w_ e_Index e_Gen w R :=
 callK_of okP Try.func57 (by rw [← f57_eq]; exact h)
def f58 (a : Sl) (b : Sl) (w : World) (R : Bool → World → Prop) : Prop :=
 if ((a.len : Int) != (b.len : Int)) = true then (R false w) else (∃ Inv_ : Int → Nat → World → Prop, (∃ n : Nat, Inv_ 0 n w) ∧ ∀ i : Int, ∀ m : Nat, ∀ w : World, Inv_ i m w → (if (decide (i < (a.len : Int))) = true then (Dr w fun (w : World) =>
 Ix a.a a.len i 2 fun (a2 : Addr) =>
 Ld .sl w (a2.add 1) fun (Values : Sl) =>
 Ix b.a b.len i 2 fun (a3 : Addr) =>
 Ld .sl w (a3.add 1) fun (Values2 : Sl) =>
 c97 Values Values2 w fun (ok : Bool) (w : World) =>
 Dr w fun (w : World) =>
 if (!ok) = true then (R false w) else (Ix a.a a.len i 2 fun (a4 : Addr) =>
 Ld (.i .i64) w a4 fun (Kind : Int) =>
 Ix b.a b.len i 2 fun (a5 : Addr) =>
 Ld (.i .i64) w a5 fun (Kind2 : Int) =>
 if (Kind != Kind2) = true then (R false w) else (∃ m2 : Nat, m2 < m ∧ Inv_ (IntKind.i64.wrap (i + 1)) m2 w))) else (R true w)))
theorem f58_eq (a : Sl) (b : Sl) (w : World) (R : Bool → World → Prop) :
  f58 a b w R = dFunc Try.prog ⟨[(4, ⟨[(5, .i .i64)], [0, 1]⟩)], []⟩ Try.f58 [.slice a.a a.len a.cap, .slice b.a b.len b.cap] (fun v w' => viewRet [.one .b] v R w') w := by kernel_rfl
theorem c58_of {a : Sl} {b : Sl} {w : World} {R : Bool → World → Prop} (h : f58 a b w R) : c58 a b w R :=
 callK_of okP Try.func58 (by rw [← f58_eq]; exact h)
def f59 (p : Option Addr) (w : World) (R : Sl → World → Prop) : Prop :=
 NN p fun (p_ : Addr) =>
 Ld .sl w (p_.add 1) fun (gens : Sl) =>
 ∃ Inv_ : Sl → Int → Nat → World → Prop, (∃ n : Nat, Inv_ ⟨none, 0, 0⟩ 0 n w) ∧ ∀ out : Sl, ∀ t12 : Int, ∀ m : Nat, ∀ w : World, Inv_ out t12 m w → (if (decide (t12 < (gens.len : Int))) = true then (c98 p t12 w fun (e_Index : Int) (e_Gen : Int) (err : Int) (w : World) =>
 Nw (.cells #[.int .i64 0, .int .i64 0] 43) w fun (e : Addr) (w : World) =>
 St e (.int .i64 e_Index) w fun (w : World) =>
 St (e.add 1) (.int .i64 e_Gen) w fun (w : World) =>
 if (err == 0) = true then (Ld (.i .i64) w e fun (e_Index2 : Int) => Ld (.i .i64) w (e.add 1) fun (e_Gen2 : Int) =>
 Nw (.cells #[.int .i64 e_Index2, .int .i64 e_Gen2] 43) w fun (b : Addr) (w : World) =>
 Run .sl Try.prog (Builtin.append_ #[35, 35] 35 #[.slice out.a out.len out.cap, .slice (some b) 1 1]) w fun (out2 : Sl) (w : World) =>
 ∃ m2 : Nat, m2 < m ∧ Inv_ out2 (IntKind.i64.wrap (t12 + 1)) m2 w) else (∃ m2 : Nat, m2 < m ∧ Inv_ out (IntKind.i64.wrap (t12 + 1)) m2 w)) else (R out w))
theorem f59_eq (p : Option Addr) (w : World) (R : Sl → World → Prop) :
  f59 p w R = dFunc Try.prog ⟨[(3, ⟨[(3, .sl), (12, .i .i64)], [0, 11]⟩)], []⟩ Try.f59 [.pointer p] (fun v w' => viewRet [.one .sl] v R w') w := by kernel_rfl
theorem c59_of {p : Option Addr} {w : World} {R : Sl → World → Prop} (h : f59 p w R) : c59 p w R :=
 callK_of okP Try.func59 (by rw [← f59_eq]; exact h)
def f60 (w_ : Option Addr) (e_Index : Int) (e_Gen : Int) (w : World) (R : Int → Int → Sl → World → Prop) : Prop :=
 Nw (.cells #[.int .i64 e_Index, .int .i64 e_Gen] 43) w fun (e : Addr) (w : World) =>
 Nw (.cells #[.int .i64 0, .int .i64 0, .slice none 0 0] 65) w fun (a : Addr) (w : World) =>
 Ld (.i .i64) w e fun (e_Index2 : Int) => Ld (.i .i64) w (e.add 1) fun (e_Gen2 : Int) =>
 Nw (.cells #[.int .i64 0, .int .i64 0, .slice none 0 0] 65) w fun (r : Addr) (w : World) =>
 St r (.int .i64 e_Index2) w fun (w : World) =>
 St (r.add 1) (.int .i64 e_Gen2) w fun (w : World) =>
 St (r.add 2) (.slice none 0 0) w fun (w : World) =>
 Dr w fun (w : World) =>
 NN w_ fun (w_2 : Addr) =>
 Ld .m w (w_2.add 2) fun (sets : Option Nat) =>
 Ld (.i .i64) w e fun (e_Index3 : Int) => Ld (.i .i64) w (e.add 1) fun (e_Gen3 : Int) =>
 RunRoL [.one (.i .i64)] Try.prog (Instr.lookup 98 (.map sets) (.agg #[.int .i64 e_Index3, .int .i64 e_Gen3]) false) w fun (set : Int) (_ : World) =>
 NN w_ fun (w_3 : Addr) =>
 Ld .sl w w_3 fun (kinds : Sl) =>
 ∃ Inv_ : Int → Nat → World → Prop, (∃ n : Nat, Inv_ 0 n w) ∧ ∀ t21 : Int, ∀ m : Nat, ∀ w : World, Inv_ t21 m w → (if (decide (t21 < (kinds.len : Int))) = true then ((0 : Int) ≤ (IntKind.i64.wrap (t21 + 1)) ∧ (if ((IntKind.i64.wrap ((BitVec.ofInt 64 (Int.fdiv set (2 ^ (min (Int.toNat (IntKind.i64.wrap (t21 + 1))) 64))) &&& BitVec.ofInt 64 1).toNat : Nat)) == 1) = true then (Dr w fun (w : World) =>
 Ld .sl w (r.add 2) fun (Parts : Sl) =>
 Ld (.i .i64) w e fun (e_Index4 : Int) => Ld (.i .i64) w (e.add 1) fun (e_Gen4 : Int) =>
 c64 w_ e_Index4 e_Gen4 set (IntKind.i64.wrap (t21 + 1)) w fun (r_Kind : Int) (r_Values : Sl) (w : World) =>
 w.cell? (r.add 2) = some (.slice Parts.a Parts.len Parts.cap) ∧ (Nw (.cells #[.int .i64 r_Kind, .slice r_Values.a r_Values.len r_Values.cap] 40) w fun (b : Addr) (w : World) =>
 Run .sl Try.prog (Builtin.append_ #[36, 36] 36 #[.slice Parts.a Parts.len Parts.cap, .slice (some b) 1 1]) w fun (s : Sl) (w : World) =>
 St (r.add 2) (.slice s.a s.len s.cap) w fun (w : World) =>
 ∃ m2 : Nat, m2 < m ∧ Inv_ (IntKind.i64.wrap (t21 + 1)) m2 w)) else (∃ m2 : Nat, m2 < m ∧ Inv_ (IntKind.i64.wrap (t21 + 1)) m2 w))) else (Ld (.i .i64) w r fun (r_E_Index : Int) => Ld (.i .i64) w (r.add 1) fun (r_E_Gen : Int) => Ld .sl w (r.add 2) fun (r_Parts : Sl) =>
 St a (.int .i64 r_E_Index) w fun (w : World) =>
 St (a.add 1) (.int .i64 r_E_Gen) w fun (w : World) =>
 St (a.add 2) (.slice r_Parts.a r_Parts.len r_Parts.cap) w fun (w : World) =>
 Ld (.i .i64) w a fun (r_E_Index2 : Int) => Ld (.i .i64) w (a.add 1) fun (r_E_Gen2 : Int) => Ld .sl w (a.add 2) fun (r_Parts2 : Sl) =>
 R r_E_Index2 r_E_Gen2 r_Parts2 w))
theorem f60_eq (w_ : Option Addr) (e_Index : Int) (e_Gen : Int) (w : World) (R : Int → Int → Sl → World → Prop) :
  f60 w_ e_Index e_Gen w R = dFunc Try.prog ⟨[(4, ⟨[(21, .i .i64)], [0, 3, 4, 5, 6, 20]⟩)], []⟩ Try.f60 [.pointer w_, .agg #[.int .i64 e_Index, .int .i64 e_Gen]] (fun v w' => viewRet [.agg [.i .i64, .i .i64, .sl]] v R w') w := by kernel_rfl
theorem c60_of {w_ : Option Addr} {e_Index : Int} {e_Gen : Int} {w : World} {R : Int → Int → Sl → World → Prop} (h : f60 w_ e_Index e_Gen w R) : c60 w_ e_Index e_Gen w R :=
 callK_of okP Try.func60 (by rw [← f60_eq]; exact h)
def f61 (t : Option Addr) (w : World) (R : Int → World → Prop) : Prop :=
 NN t fun (t_ : Addr) =>
 Ld .sl w t_ fun (owners : Sl) =>
 R (owners.len : Int) w
theorem f61_eq (t : Option Addr) (w : World) (R : Int → World → Prop) :
  f61 t w R = dFunc Try.prog ⟨[], []⟩ Try.f61 [.pointer t] (fun v w' => viewRet [.one (.i .i64)] v R w') w := by kernel_rfl
theorem c61_of {t : Option Addr} {w : World} {R : Int → World → Prop} (h : f61 t w R) : c61 t w R :=
 callK_of okP Try.func61 (by rw [← f61_eq]; exact h)
def f62 (p : Option Addr) (e_Index : Int) (e_Gen : Int) (w : World) (R : Int → World → Prop) : Prop :=
 Nw (.cells #[.int .i64 e_Index, .int .i64 e_Gen] 43) w fun (e : Addr) (w : World) =>
 Ld (.i .i64) w e fun (e_Index2 : Int) => Ld (.i .i64) w (e.add 1) fun (e_Gen2 : Int) =>
 c63 p e_Index2 e_Gen2 w fun (r : Bool) (w : World) =>
 if (!r) = true then (R 41 w) else (Dr w fun (w : World) =>
 NN p fun (p_ : Addr) =>
 Ld .sl w (p_.add 2) fun (alive : Sl) =>
 Ld (.i .i64) w e fun (Index : Int) =>
 Ix alive.a alive.len Index 1 fun (a : Addr) =>
 St a (.bool false) w fun (w : World) =>
 Ld (.i .i64) w (e.add 1) fun (Gen : Int) =>
 if (decide (Gen < 1000000)) = true then (Dr w fun (w : World) =>
 NN p fun (p_2 : Addr) =>
 Ld .sl w (p_2.add 3) fun (free : Sl) =>
 Ld (.i .i64) w e fun (Index2 : Int) =>
 Nw (.cells #[.int .i64 Index2] 3) w fun (b : Addr) (w : World) =>
 Run .sl Try.prog (Builtin.append_ #[28, 28] 28 #[.slice free.a free.len free.cap, .slice (some b) 1 1]) w fun (s : Sl) (w : World) =>
 NN p fun (p_3 : Addr) =>
 St (p_3.add 3) (.slice s.a s.len s.cap) w fun (w : World) =>
 R 0 w) else (R 0 w))
theorem f62_eq (p : Option Addr) (e_Index : Int) (e_Gen : Int) (w : World) (R : Int → World → Prop) :
  f62 p e_Index e_Gen w R = dFunc Try.prog ⟨[], []⟩ Try.f62 [.pointer p, .agg #[.int .i64 e_Index, .int .i64 e_Gen]] (fun v w' => viewRet [.one (.i .i64)] v R w') w := by kernel_rfl
theorem c62_of {p : Option Addr} {e_Index : Int} {e_Gen : Int} {w : World} {R : Int → World → Prop} (h : f62 p e_Index e_Gen w R) : c62 p e_Index e_Gen w R :=
 callK_of okP Try.func62 (by rw [← f62_eq]; exact h)
def f63 (p : Option Addr) (e_Index : Int) (e_Gen : Int) (w : World) (R : Bool → World → Prop) : Prop :=
 Nw (.cells #[.int .i64 e_Index, .int .i64 e_Gen] 43) w fun (e : Addr) (w : World) =>
 Ld (.i .i64) w e fun (Index : Int) =>
 c98 p Index w fun (x_Index : Int) (x_Gen : Int) (err : Int) (w : World) =>
 Nw (.cells #[.int .i64 0, .int .i64 0] 43) w fun (x : Addr) (w : World) =>
 St x (.int .i64 x_Index) w fun (w : World) =>
 St (x.add 1) (.int .i64 x_Gen) w fun (w : World) =>
 if (err == 0) = true then (Ld (.i .i64) w x fun (x_Index2 : Int) => Ld (.i .i64) w (x.add 1) fun (x_Gen2 : Int) =>
 Ld (.i .i64) w e fun (e_Index2 : Int) => Ld (.i .i64) w (e.add 1) fun (e_Gen2 : Int) =>
 RunRo .b Try.prog (binSem .eql 43 (.tmp 17) (.tmp 18) (.agg #[.int .i64 x_Index2, .int .i64 x_Gen2]) (.agg #[.int .i64 e_Index2, .int .i64 e_Gen2])) w fun (eq : Bool) =>
 R eq w) else (R false w)
theorem f63_eq (p : Option Addr) (e_Index : Int) (e_Gen : Int) (w : World) (R : Bool → World → Prop) :
  f63 p e_Index e_Gen w R = dFunc Try.prog ⟨[], []⟩ Try.f63 [.pointer p, .agg #[.int .i64 e_Index, .int .i64 e_Gen]] (fun v w' => viewRet [.one .b] v R w') w := by kernel_rfl
theorem c63_of {p : Option Addr} {e_Index : Int} {e_Gen : Int} {w : World} {R : Bool → World → Prop} (h : f63 p e_Index e_Gen w R) : c63 p e_Index e_Gen w R :=
 callK_of okP Try.func63 (by rw [← f63_eq]; exact h)
def f64 (w_ : Option Addr) (e_Index : Int) (e_Gen : Int) (set : Int) (kind : Int) (w : World) (R : Int → Sl → World → Prop) : Prop :=
 Nw (.cells #[.int .i64 e_Index, .int .i64 e_Gen] 43) w fun (e : Addr) (w : World) =>
 Nw (.cells #[.int .i64 0, .slice none 0 0] 40) w fun (a : Addr) (w : World) =>
 NN w_ fun (w_2 : Addr) =>
 Ld .m w (w_2.add 3) fun (tables : Option Nat) =>
 RunRoL [.one .p] Try.prog (Instr.lookup 99 (.map tables) (.int .i64 set) false) w fun (t : Option Addr) (_ : World) =>
 Ld (.i .i64) w e fun (e_Index2 : Int) => Ld (.i .i64) w (e.add 1) fun (e_Gen2 : Int) =>
 c66 t e_Index2 e_Gen2 w fun (r : Int) (w : World) =>
 c95 t r w fun (x__Index : Int) (x__Gen : Int) (values : Sl) (x_ : Int) (w : World) =>
 Nw (.cells #[.int .i64 0, .int .i64 0] 43) w fun (x_2 : Addr) (w : World) =>
 St x_2 (.int .i64 x__Index) w fun (w : World) =>
 St (x_2.add 1) (.int .i64 x__Gen) w fun (w : World) =>
 c47 w_ set kind w fun (at_ : Int) (w : World) =>
 c45 w_ kind w fun (n_ : Int) (x_3 : Bool) (w : World) =>
 Cut ⟨values.a, values.len, values.cap⟩ at_ (IntKind.i64.wrap (at_ + n_)) (values.cap : Int) 1 fun (s : Sl) =>
 c99 s w fun (r2 : Sl) (w : World) =>
 St a (.int .i64 kind) w fun (w : World) =>
 St (a.add 1) (.slice r2.a r2.len r2.cap) w fun (w : World) =>
 Ld (.i .i64) w a fun (r_Kind : Int) => Ld .sl w (a.add 1) fun (r_Values : Sl) =>
 R r_Kind r_Values w
theorem f64_eq (w_ : Option Addr) (e_Index : Int) (e_Gen : Int) (set : Int) (kind : Int) (w : World) (R : Int → Sl → World → Prop) :
  f64 w_ e_Index e_Gen set kind w R = dFunc Try.prog ⟨[], []⟩ Try.f64 [.pointer w_, .agg #[.int .i64 e_Index, .int .i64 e_Gen], .int .i64 set, .int .i64 kind] (fun v w' => viewRet [.agg [.i .i64, .sl]] v R w') w := by kernel_rfl
theorem c64_of {w_ : Option Addr} {e_Index : Int} {e_Gen : Int} {set : Int} {kind : Int} {w : World} {R : Int → Sl → World → Prop} (h : f64 w_ e_Index e_Gen set kind w R) : c64 w_ e_Index e_Gen set kind w R :=
 callK_of okP Try.func64 (by rw [← f64_eq]; exact h)
def f66 (t : Option Addr) (e_Index : Int) (e_Gen : Int) (w : World) (R : Int → World → Prop) : Prop :=
 Nw (.cells #[.int .i64 e_Index, .int .i64 e_Gen] 43) w fun (e : Addr) (w : World) =>
 Dr w fun (w : World) =>
 NN t fun (t_ : Addr) =>
 Ld .m w (t_.add 2) fun (rows : Option Nat) =>
 Ld (.i .i64) w e fun (e_Index2 : Int) => Ld (.i .i64) w (e.add 1) fun (e_Gen2 : Int) =>
 RunRoL [.one (.i .i64), .one .b] Try.prog (Instr.lookup 98 (.map rows) (.agg #[.int .i64 e_Index2, .int .i64 e_Gen2]) true) w fun (e2 : Int) (ok : Bool) (_ : World) =>
 if ok = true then (R e2 w) else (R (-1) w)
theorem f66_eq (t : Option Addr) (e_Index : Int) (e_Gen : Int) (w : World) (R : Int → World → Prop) :
  f66 t e_Index e_Gen w R = dFunc Try.prog ⟨[], []⟩ Try.f66 [.pointer t, .agg #[.int .i64 e_Index, .int .i64 e_Gen]] (fun v w' => viewRet [.one (.i .i64)] v R w') w := by kernel_rfl
theorem c66_of {t : Option Addr} {e_Index : Int} {e_Gen : Int} {w : World} {R : Int → World → Prop} (h : f66 t e_Index e_Gen w R) : c66 t e_Index e_Gen w R :=
 callK_of okP Try.func66 (by rw [← f66_eq]; exact h)
def f68 (most : Int) (gens : Sl) (free : Sl) (w : World) (R : Option Addr → Int → World → Prop) : Prop :=
 c43 most w fun (p : Option Addr) (e : Int) (w : World) =>
 if (cond (e != 0) true (decide ((gens.len : Int) > most))) = true then (R none 1 w) else (∃ Inv_ : Int → Nat → World → Prop, (∃ n : Nat, Inv_ 0 n w) ∧ ∀ t29 : Int, ∀ m : Nat, ∀ w : World, Inv_ t29 m w → (if (decide (t29 < (gens.len : Int))) = true then (Ix gens.a gens.len t29 1 fun (a : Addr) =>
 Ld (.i .i64) w a fun (g : Int) =>
 if (cond (decide (g < 1)) true (decide (g > 1000001))) = true then (R none 1 w) else (NN p fun (p_ : Addr) =>
 Ld .sl w (p_.add 1) fun (gens2 : Sl) =>
 Nw (.cells #[.int .i64 (if 1000000 < g then 1000000 else g)] 3) w fun (b : Addr) (w : World) =>
 Run .sl Try.prog (Builtin.append_ #[28, 28] 28 #[.slice gens2.a gens2.len gens2.cap, .slice (some b) 1 1]) w fun (s : Sl) (w : World) =>
 NN p fun (p_2 : Addr) =>
 St (p_2.add 1) (.slice s.a s.len s.cap) w fun (w : World) =>
 NN p fun (p_3 : Addr) =>
 Ld .sl w (p_3.add 2) fun (alive : Sl) =>
 Nw (.cells #[.bool (decide (g ≤ 1000000))] 4) w fun (b2 : Addr) (w : World) =>
 Run .sl Try.prog (Builtin.append_ #[61, 61] 61 #[.slice alive.a alive.len alive.cap, .slice (some b2) 1 1]) w fun (s2 : Sl) (w : World) =>
 NN p fun (p_4 : Addr) =>
 St (p_4.add 2) (.slice s2.a s2.len s2.cap) w fun (w : World) =>
 ∃ m2 : Nat, m2 < m ∧ Inv_ (IntKind.i64.wrap (t29 + 1)) m2 w)) else (∃ Inv_2 : Int → Nat → World → Prop, (∃ n : Nat, Inv_2 0 n w) ∧ ∀ t64 : Int, ∀ m3 : Nat, ∀ w : World, Inv_2 t64 m3 w → (if (decide (t64 < (free.len : Int))) = true then (Ix free.a free.len t64 1 fun (a2 : Addr) =>
 Ld (.i .i64) w a2 fun (i : Int) =>
 ∃ J_ : World → Prop, (if (decide (i < 0)) = true then (R none 1 w) else (if (decide (i ≥ (gens.len : Int))) = true then (R none 1 w) else (NN p fun (p_5 : Addr) =>
 Ld .sl w (p_5.add 2) fun (alive2 : Sl) =>
 Ix alive2.a alive2.len i 1 fun (a3 : Addr) =>
 Ld .b w a3 fun (x : Bool) =>
 if (!x) = true then (R none 1 w) else (Ix gens.a gens.len i 1 fun (a4 : Addr) =>
 Ld (.i .i64) w a4 fun (x2 : Int) =>
 if (decide (x2 ≥ 1000000)) = true then (R none 1 w) else (J_  w))))) ∧ ∀ w : World, J_  w → (NN p fun (p_6 : Addr) =>
 Ld .sl w (p_6.add 2) fun (alive3 : Sl) =>
 Ix alive3.a alive3.len i 1 fun (a5 : Addr) =>
 St a5 (.bool false) w fun (w : World) =>
 NN p fun (p_7 : Addr) =>
 Ld .sl w (p_7.add 3) fun (free2 : Sl) =>
 Nw (.cells #[.int .i64 i] 3) w fun (b3 : Addr) (w : World) =>
 Run .sl Try.prog (Builtin.append_ #[28, 28] 28 #[.slice free2.a free2.len free2.cap, .slice (some b3) 1 1]) w fun (s3 : Sl) (w : World) =>
 NN p fun (p_8 : Addr) =>
 St (p_8.add 3) (.slice s3.a s3.len s3.cap) w fun (w : World) =>
 ∃ m4 : Nat, m4 < m3 ∧ Inv_2 (IntKind.i64.wrap (t64 + 1)) m4 w)) else (R p 0 w)))))
def f73 (kinds : Sl) (w : World) (R : Bool → World → Prop) : Prop :=
 ∃ Inv_ : Sl → Int → Nat → World → Prop, (∃ n : Nat, Inv_ ⟨none, 0, 0⟩ 0 n w) ∧ ∀ names : Sl, ∀ i : Int, ∀ m : Nat, ∀ w : World, Inv_ names i m w → (if (decide (i < (kinds.len : Int))) = true then (Ix kinds.a kinds.len i 2 fun (a : Addr) =>
 Ld .sl w (a.add 1) fun (Fields : Sl) =>
 c106 Fields w fun (fine : Bool) (w : World) =>
 ∃ J_ : World → Prop, (if (!fine) = true then (R false w) else (Ix kinds.a kinds.len i 2 fun (a2 : Addr) =>
 Ld .sl w (a2.add 1) fun (Fields2 : Sl) =>
 if (decide ((Fields2.len : Int) > 4)) = true then (R false w) else (J_  w))) ∧ ∀ w : World, J_  w → (Ix kinds.a kinds.len i 2 fun (a3 : Addr) =>
 Ld .s w a3 fun (Name : ByteArray) =>
 Nw (.cells #[.string Name] 9) w fun (b : Addr) (w : World) =>
 Run .sl Try.prog (Builtin.append_ #[81, 81] 81 #[.slice names.a names.len names.cap, .slice (some b) 1 1]) w fun (names2 : Sl) (w : World) =>
 ∃ m2 : Nat, m2 < m ∧ Inv_ names2 (IntKind.i64.wrap (i + 1)) m2 w)) else (c106 names w fun (fine2 : Bool) (w : World) =>
 R (cond (cond fine2 (decide ((kinds.len : Int) ≥ 1)) false) (decide ((kinds.len : Int) ≤ 12)) false) w))
theorem f73_eq (kinds : Sl) (w : World) (R : Bool → World → Prop) :
  f73 kinds w R = dFunc Try.prog ⟨[(3, ⟨[(3, .sl), (4, .i .i64)], [0]⟩)], [(8, ⟨[], [0, 3, 4]⟩)]⟩ Try.f73 [.slice kinds.a kinds.len kinds.cap] (fun v w' => viewRet [.one .b] v R w') w := by kernel_rfl
theorem c73_of {kinds : Sl} {w : World} {R : Bool → World → Prop} (h : f73 kinds w R) : c73 kinds w R :=
 callK_of okP Try.func73 (by rw [← f73_eq]; exact h)
def f74 (most : Int) (w : World) (R : Option Addr → Int → World → Prop) : Prop :=
 if (cond (decide (most < 1)) true (decide (most > 200))) = true then (R none 1 w) else (Nw (.cells #[.int .i64 most, .slice none 0 0, .slice none 0 0, .slice none 0 0] 176) w fun (a : Addr) (w : World) =>
 R (some a) 0 w)
theorem f74_eq (most : Int) (w : World) (R : Option Addr → Int → World → Prop) :
  f74 most w R = dFunc Try.prog ⟨[], []⟩ Try.f74 [.int .i64 most] (fun v w' => viewRet [.one .p, .one (.i .i64)] v R w') w := by kernel_rfl
theorem c74_of {most : Int} {w : World} {R : Option Addr → Int → World → Prop} (h : f74 most w R) : c74 most w R :=
 callK_of okP Try.func74 (by rw [← f74_eq]; exact h)
def f75 (kinds : Sl) (w : World) (R : Sl → World → Prop) : Prop :=
 ∃ Inv_ : Sl → Int → Nat → World → Prop, (∃ n : Nat, Inv_ ⟨none, 0, 0⟩ 0 n w) ∧ ∀ out : Sl, ∀ i : Int, ∀ m : Nat, ∀ w : World, Inv_ out i m w → (if (decide (i < (kinds.len : Int))) = true then (Ix kinds.a kinds.len i 2 fun (a : Addr) =>
 Ld .s w a fun (Name : ByteArray) =>
 Nw (.cells #[.string (⟨#[]⟩ : ByteArray), .slice none 0 0] 94) w fun (k : Addr) (w : World) =>
 St k (.string Name) w fun (w : World) =>
 St (k.add 1) (.slice none 0 0) w fun (w : World) =>
 Dr w fun (w : World) =>
 Ld .sl w (k.add 1) fun (Fields : Sl) =>
 Ix kinds.a kinds.len i 2 fun (a2 : Addr) =>
 Ld .sl w (a2.add 1) fun (Fields2 : Sl) =>
 Run .sl Try.prog (Builtin.append_ #[81, 81] 81 #[.slice Fields.a Fields.len Fields.cap, .slice Fields2.a Fields2.len Fields2.cap]) w fun (s : Sl) (w : World) =>
 St (k.add 1) (.slice s.a s.len s.cap) w fun (w : World) =>
 Ld .s w k fun (k_Name : ByteArray) => Ld .sl w (k.add 1) fun (k_Fields : Sl) =>
 Nw (.cells #[.string k_Name, .slice k_Fields.a k_Fields.len k_Fields.cap] 94) w fun (b : Addr) (w : World) =>
 Run .sl Try.prog (Builtin.append_ #[22, 22] 22 #[.slice out.a out.len out.cap, .slice (some b) 1 1]) w fun (out2 : Sl) (w : World) =>
 ∃ m2 : Nat, m2 < m ∧ Inv_ out2 (IntKind.i64.wrap (i + 1)) m2 w) else (R out w))
theorem f75_eq (kinds : Sl) (w : World) (R : Sl → World → Prop) :
  f75 kinds w R = dFunc Try.prog ⟨[(3, ⟨[(3, .sl), (4, .i .i64)], [0]⟩)], []⟩ Try.f75 [.slice kinds.a kinds.len kinds.cap] (fun v w' => viewRet [.one .sl] v R w') w := by kernel_rfl
theorem c75_of {kinds : Sl} {w : World} {R : Sl → World → Prop} (h : f75 kinds w R) : c75 kinds w R :=
 callK_of okP Try.func75 (by rw [← f75_eq]; exact h)
def f76 (l : Sl) (w : World) (R : Sl → World → Prop) : Prop :=
 ∃ Inv_ : Sl → Int → Nat → World → Prop, (∃ n : Nat, Inv_ ⟨none, 0, 0⟩ 0 n w) ∧ ∀ out : Sl, ∀ i : Int, ∀ m : Nat, ∀ w : World, Inv_ out i m w → (if (decide (i < (l.len : Int))) = true then (Dr w fun (w : World) =>
 Ix l.a l.len i 2 fun (a : Addr) =>
 Ld (.i .i64) w a fun (Kind : Int) =>
 Ix l.a l.len i 2 fun (a2 : Addr) =>
 Ld .sl w (a2.add 1) fun (Values : Sl) =>
 c107 Values w fun (r : Sl) (w : World) =>
 w.cell? a = some (.int .i64 Kind) ∧ (Nw (.cells #[.int .i64 Kind, .slice r.a r.len r.cap] 40) w fun (b : Addr) (w : World) =>
 Run .sl Try.prog (Builtin.append_ #[36, 36] 36 #[.slice out.a out.len out.cap, .slice (some b) 1 1]) w fun (out2 : Sl) (w : World) =>
 ∃ m2 : Nat, m2 < m ∧ Inv_ out2 (IntKind.i64.wrap (i + 1)) m2 w)) else (R out w))
theorem f76_eq (l : Sl) (w : World) (R : Sl → World → Prop) :
  f76 l w R = dFunc Try.prog ⟨[(3, ⟨[(3, .sl), (4, .i .i64)], [0]⟩)], []⟩ Try.f76 [.slice l.a l.len l.cap] (fun v w' => viewRet [.one .sl] v R w') w := by kernel_rfl
theorem c76_of {l : Sl} {w : World} {R : Sl → World → Prop} (h : f76 l w R) : c76 l w R :=
 callK_of okP Try.func76 (by rw [← f76_eq]; exact h)
def f77 (l : Sl) (w : World) (R : Int → World → Prop) : Prop :=
 ∃ Inv_ : Int → Int → Nat → World → Prop, (∃ n : Nat, Inv_ 0 0 n w) ∧ ∀ n_ : Int, ∀ i : Int, ∀ m : Nat, ∀ w : World, Inv_ n_ i m w → (if (decide (i < (l.len : Int))) = true then (Ix l.a l.len i 2 fun (a : Addr) =>
 Ld (.i .i64) w a fun (Kind : Int) =>
 (0 : Int) ≤ Kind ∧ (∃ m2 : Nat, m2 < m ∧ Inv_ (IntKind.i64.wrap (n_ + (IntKind.i64.wrap (1 * 2 ^ (min (Int.toNat Kind) 64))))) (IntKind.i64.wrap (i + 1)) m2 w)) else (R n_ w))
theorem f77_eq (l : Sl) (w : World) (R : Int → World → Prop) :
  f77 l w R = dFunc Try.prog ⟨[(3, ⟨[(3, .i .i64), (4, .i .i64)], [0]⟩)], []⟩ Try.f77 [.slice l.a l.len l.cap] (fun v w' => viewRet [.one (.i .i64)] v R w') w := by kernel_rfl
theorem c77_of {l : Sl} {w : World} {R : Int → World → Prop} (h : f77 l w R) : c77 l w R :=
 callK_of okP Try.func77 (by rw [← f77_eq]; exact h)
def f78 (w_ : Option Addr) (w : World) (R : Sl → World → Prop) : Prop :=
 NN w_ fun (w_2 : Addr) =>
 Ld .p w (w_2.add 1) fun (Pool : Option Addr) =>
 c108 Pool w fun (gens : Sl) (free : Sl) (w : World) =>
 c110 gens w fun (r : Sl) (w : World) =>
 c109 ⟨none, 0, 0⟩ r w fun (b : Sl) (w : World) =>
 c110 free w fun (r2 : Sl) (w : World) =>
 c109 b r2 w fun (r3 : Sl) (w : World) =>
 R r3 w
theorem f78_eq (w_ : Option Addr) (w : World) (R : Sl → World → Prop) :
  f78 w_ w R = dFunc Try.prog ⟨[], []⟩ Try.f78 [.pointer w_] (fun v w' => viewRet [.one .sl] v R w') w := by kernel_rfl
theorem c78_of {w_ : Option Addr} {w : World} {R : Sl → World → Prop} (h : f78 w_ w R) : c78 w_ w R :=
 callK_of okP Try.func78 (by rw [← f78_eq]; exact h)
def f79 (b : Sl) (n_ : Int) (w : World) (R : Sl → World → Prop) : Prop :=
 Run .sl Try.prog (Builtin.append_ #[50, 50] 50 #[.slice none 0 0, .slice b.a b.len b.cap]) w fun (out : Sl) (w : World) =>
 ∃ Inv_ : Int → Sl → Nat → World → Prop, (∃ n : Nat, Inv_ n_ out n w) ∧ ∀ n_2 : Int, ∀ out2 : Sl, ∀ m : Nat, ∀ w : World, Inv_ n_2 out2 m w → (if (decide (n_2 ≥ 128)) = true then ((128 : Int) ≠ 0 ∧ (Nw (.cells #[.int .u8 (IntKind.u8.wrap (IntKind.u64.wrap ((Int.tmod n_2 128) + 128)))] 5) w fun (b2 : Addr) (w : World) =>
 Run .sl Try.prog (Builtin.append_ #[50, 50] 50 #[.slice out2.a out2.len out2.cap, .slice (some b2) 1 1]) w fun (out3 : Sl) (w : World) =>
 (128 : Int) ≠ 0 ∧ (∃ m2 : Nat, m2 < m ∧ Inv_ (IntKind.u64.wrap (Int.tdiv n_2 128)) out3 m2 w))) else (Nw (.cells #[.int .u8 (IntKind.u8.wrap n_2)] 5) w fun (b3 : Addr) (w : World) =>
 Run .sl Try.prog (Builtin.append_ #[50, 50] 50 #[.slice out2.a out2.len out2.cap, .slice (some b3) 1 1]) w fun (s : Sl) (w : World) =>
 R s w))
theorem f79_eq (b : Sl) (n_ : Int) (w : World) (R : Sl → World → Prop) :
  f79 b n_ w R = dFunc Try.prog ⟨[(3, ⟨[(1, .i .u64), (5, .sl)], []⟩)], []⟩ Try.f79 [.slice b.a b.len b.cap, .int .u64 n_] (fun v w' => viewRet [.one .sl] v R w') w := by kernel_rfl
theorem c79_of {b : Sl} {n_ : Int} {w : World} {R : Sl → World → Prop} (h : f79 b n_ w R) : c79 b n_ w R :=
 callK_of okP Try.func79 (by rw [← f79_eq]; exact h)
def f80 (b : Sl) (n_ : Int) (w : World) (R : Sl → World → Prop) : Prop :=
 c111 n_ w fun (r : Int) (w : World) =>
 c79 b r w fun (r2 : Sl) (w : World) =>
 R r2 w
theorem f80_eq (b : Sl) (n_ : Int) (w : World) (R : Sl → World → Prop) :
  f80 b n_ w R = dFunc Try.prog ⟨[], []⟩ Try.f80 [.slice b.a b.len b.cap, .int .i64 n_] (fun v w' => viewRet [.one .sl] v R w') w := by kernel_rfl
theorem c80_of {b : Sl} {n_ : Int} {w : World} {R : Sl → World → Prop} (h : f80 b n_ w R) : c80 b n_ w R :=
 callK_of okP Try.func80 (by rw [← f80_eq]; exact h)
def f81 (b : Option Addr) (l : Sl) (w : World) (R : World → Prop) : Prop :=
 NN b fun (b_ : Addr) =>
 Ld .sl w (b_.add 1) fun (p : Sl) =>
 ∃ Inv_ : Int → Nat → World → Prop, (∃ n : Nat, Inv_ 0 n w) ∧ ∀ i : Int, ∀ m : Nat, ∀ w : World, Inv_ i m w → (if (decide (i < (l.len : Int))) = true then (Ix l.a l.len i 2 fun (a : Addr) =>
 Ld .sl w (a.add 1) fun (Values : Sl) =>
 c112 b Values w fun  (w : World) =>
 Ix l.a l.len i 2 fun (a2 : Addr) =>
 St a2 (.int .i64 (IntKind.i64.wrap (1000000 + (p.len : Int)))) w fun (w : World) =>
 St (a2.add 1) (.slice none 0 0) w fun (w : World) =>
 ∃ m2 : Nat, m2 < m ∧ Inv_ (IntKind.i64.wrap (i + 1)) m2 w) else (NN b fun (b_2 : Addr) =>
 Ld .sl w (b_2.add 1) fun (p2 : Sl) =>
 Nw (.cells #[.slice l.a l.len l.cap] 36) w fun (b2 : Addr) (w : World) =>
 Run .sl Try.prog (Builtin.append_ #[83, 83] 83 #[.slice p2.a p2.len p2.cap, .slice (some b2) 1 1]) w fun (s : Sl) (w : World) =>
 NN b fun (b_3 : Addr) =>
 St (b_3.add 1) (.slice s.a s.len s.cap) w fun (w : World) =>
 NN b fun (b_4 : Addr) =>
 Ld .sl w (b_4.add 4) fun (y : Sl) =>
 Nw (.cells #[.int .i64 (IntKind.i64.wrap (1000000 + (p.len : Int)))] 3) w fun (b3 : Addr) (w : World) =>
 Run .sl Try.prog (Builtin.append_ #[28, 28] 28 #[.slice y.a y.len y.cap, .slice (some b3) 1 1]) w fun (s2 : Sl) (w : World) =>
 NN b fun (b_5 : Addr) =>
 St (b_5.add 4) (.slice s2.a s2.len s2.cap) w fun (w : World) =>
 R w))
theorem f81_eq (b : Option Addr) (l : Sl) (w : World) (R : World → Prop) :
  f81 b l w R = dFunc Try.prog ⟨[(2, ⟨[(5, .i .i64)], [0, 1, 4]⟩)], []⟩ Try.f81 [.pointer b, .slice l.a l.len l.cap] (fun v w' => viewRet [] v R w') w := by kernel_rfl
theorem c81_of {b : Option Addr} {l : Sl} {w : World} {R : World → Prop} (h : f81 b l w R) : c81 b l w R :=
 callK_of okP Try.func81 (by rw [← f81_eq]; exact h)
def f82 (n_ : Int) (w : World) (R : Int → World → Prop) : Prop :=
 if (decide (n_ < 4)) = true then (R 70 w) else (R 9 w)
theorem f82_eq (n_ : Int) (w : World) (R : Int → World → Prop) :
  f82 n_ w R = dFunc Try.prog ⟨[], []⟩ Try.f82 [.int .i64 n_] (fun v w' => viewRet [.one (.i .i64)] v R w') w := by kernel_rfl
theorem c82_of {n_ : Int} {w : World} {R : Int → World → Prop} (h : f82 n_ w R) : c82 n_ w R :=
 callK_of okP Try.func82 (by rw [← f82_eq]; exact h)
def f83 (l : Sl) (w : World) (R : Bool → World → Prop) : Prop :=
 ∃ Inv_ : Int → Nat → World → Prop, (∃ n : Nat, Inv_ 0 n w) ∧ ∀ t7 : Int, ∀ m : Nat, ∀ w : World, Inv_ t7 m w → (if (decide (t7 < (l.len : Int))) = true then (Ix l.a l.len t7 1 fun (a : Addr) =>
 Ld .s w a fun (s : ByteArray) =>
 c113 s w fun (r : Bool) (w : World) =>
 if (!r) = true then (R false w) else (Cut ⟨l.a, l.len, l.cap⟩ 0 t7 (l.cap : Int) 1 fun (s2 : Sl) =>
 c114 s2 s w fun (r2 : Bool) (w : World) =>
 if r2 = true then (R false w) else (∃ m2 : Nat, m2 < m ∧ Inv_ (IntKind.i64.wrap (t7 + 1)) m2 w))) else (R true w))
theorem f83_eq (l : Sl) (w : World) (R : Bool → World → Prop) :
  f83 l w R = dFunc Try.prog ⟨[(2, ⟨[(7, .i .i64)], [0, 5, 6]⟩)], []⟩ Try.f83 [.slice l.a l.len l.cap] (fun v w' => viewRet [.one .b] v R w') w := by kernel_rfl
theorem c83_of {l : Sl} {w : World} {R : Bool → World → Prop} (h : f83 l w R) : c83 l w R :=
 callK_of okP Try.func83 (by rw [← f83_eq]; exact h)
def f84 (s : Sl) (w : World) (R : Sl → World → Prop) : Prop :=
 if s.a.isNone = true then (R ⟨none, 0, 0⟩ w) else (Nw (.cells #[] 94) w fun (b : Addr) (w : World) =>
 Run .sl Try.prog (Builtin.append_ #[22, 22] 22 #[.slice (some b) 0 0, .slice s.a s.len s.cap]) w fun (s2 : Sl) (w : World) =>
 R s2 w)
theorem f84_eq (s : Sl) (w : World) (R : Sl → World → Prop) :
  f84 s w R = dFunc Try.prog ⟨[], []⟩ Try.f84 [.slice s.a s.len s.cap] (fun v w' => viewRet [.one .sl] v R w') w := by kernel_rfl
theorem c84_of {s : Sl} {w : World} {R : Sl → World → Prop} (h : f84 s w R) : c84 s w R :=
 callK_of okP Try.func84 (by rw [← f84_eq]; exact h)
def f85 (s : Sl) (w : World) (R : Sl → World → Prop) : Prop :=
 if s.a.isNone = true then (R ⟨none, 0, 0⟩ w) else (Nw (.cells #[] 9) w fun (b : Addr) (w : World) =>
 Run .sl Try.prog (Builtin.append_ #[81, 81] 81 #[.slice (some b) 0 0, .slice s.a s.len s.cap]) w fun (s2 : Sl) (w : World) =>
 R s2 w)
theorem f85_eq (s : Sl) (w : World) (R : Sl → World → Prop) :
  f85 s w R = dFunc Try.prog ⟨[], []⟩ Try.f85 [.slice s.a s.len s.cap] (fun v w' => viewRet [.one .sl] v R w') w := by kernel_rfl
theorem c85_of {s : Sl} {w : World} {R : Sl → World → Prop} (h : f85 s w R) : c85 s w R :=
 callK_of okP Try.func85 (by rw [← f85_eq]; exact h)
def f88 (w_ : Option Addr) (set : Int) (w : World) (R : Option Addr → World → Prop) : Prop :=
 NN w_ fun (w_2 : Addr) =>
 Ld .m w (w_2.add 3) fun (tables : Option Nat) =>
 RunRoL [.one .p] Try.prog (Instr.lookup 99 (.map tables) (.int .i64 set) false) w fun (t : Option Addr) (_ : World) =>
 if t.isNone = true then (NN w_ fun (w_3 : Addr) =>
 Ld .sl w w_3 fun (kinds : Sl) =>
 c47 w_ set (IntKind.i64.wrap ((kinds.len : Int) + 1)) w fun (r : Int) (w : World) =>
 c116 r w fun (t2 : Option Addr) (r2 : Int) (w : World) =>
 NN w_ fun (w_4 : Addr) =>
 Ld .m w (w_4.add 3) fun (tables2 : Option Nat) =>
 RunU Try.prog (Instr.mapUpdate 99 (.map tables2) (.int .i64 set) (.pointer t2)) w fun (w : World) =>
 R t2 w) else (R t w)
theorem f88_eq (w_ : Option Addr) (set : Int) (w : World) (R : Option Addr → World → Prop) :
  f88 w_ set w R = dFunc Try.prog ⟨[], []⟩ Try.f88 [.pointer w_, .int .i64 set] (fun v w' => viewRet [.one .p] v R w') w := by kernel_rfl
theorem c88_of {w_ : Option Addr} {set : Int} {w : World} {R : Option Addr → World → Prop} (h : f88 w_ set w R) : c88 w_ set w R :=
 callK_of okP Try.func88 (by rw [← f88_eq]; exact h)
def f89 (t : Option Addr) (e_Index : Int) (e_Gen : Int) (values : Sl) (w : World) (R : Int → Int → World → Prop) : Prop :=
 Nw (.cells #[.int .i64 e_Index, .int .i64 e_Gen] 43) w fun (e : Addr) (w : World) =>
 Dr w fun (w : World) =>
 NN t fun (t_ : Addr) =>
 Ld .m w (t_.add 2) fun (rows : Option Nat) =>
 Ld (.i .i64) w e fun (e_Index2 : Int) => Ld (.i .i64) w (e.add 1) fun (e_Gen2 : Int) =>
 RunRoL [.one (.i .i64), .one .b] Try.prog (Instr.lookup 98 (.map rows) (.agg #[.int .i64 e_Index2, .int .i64 e_Gen2]) true) w fun (e2 : Int) (ok : Bool) (_ : World) =>
 NN t fun (t_2 : Addr) =>
 Ld .sl w t_2 fun (owners : Sl) =>
 NN t fun (t_3 : Addr) =>
 Ld .sl w (t_3.add 1) fun (columns : Sl) =>
 if ((values.len : Int) != (columns.len : Int)) = true then (R 0 63 w) else (if ok = true then (R 0 61 w) else (if (decide ((owners.len : Int) ≥ 200)) = true then (R 0 40 w) else (∃ Inv_ : Int → Nat → World → Prop, (∃ n : Nat, Inv_ 0 n w) ∧ ∀ t43 : Int, ∀ m : Nat, ∀ w : World, Inv_ t43 m w → (if (decide (t43 < (values.len : Int))) = true then (Ix values.a values.len t43 1 fun (a : Addr) =>
 Ld (.i .i64) w a fun (x : Int) =>
 Dr w fun (w : World) =>
 NN t fun (t_4 : Addr) =>
 Ld .sl w (t_4.add 1) fun (columns2 : Sl) =>
 NN t fun (t_5 : Addr) =>
 Ld .sl w (t_5.add 1) fun (columns3 : Sl) =>
 Ix columns3.a columns3.len t43 1 fun (a2 : Addr) =>
 Ld .sl w a2 fun (x2 : Sl) =>
 Nw (.cells #[.int .i64 x] 2) w fun (b : Addr) (w : World) =>
 Run .sl Try.prog (Builtin.append_ #[38, 38] 38 #[.slice x2.a x2.len x2.cap, .slice (some b) 1 1]) w fun (s : Sl) (w : World) =>
 w.cell? (t_4.add 1) = some (.slice columns2.a columns2.len columns2.cap) ∧ (Ix columns2.a columns2.len t43 1 fun (a3 : Addr) =>
 St a3 (.slice s.a s.len s.cap) w fun (w : World) =>
 ∃ m2 : Nat, m2 < m ∧ Inv_ (IntKind.i64.wrap (t43 + 1)) m2 w)) else (Dr w fun (w : World) =>
 NN t fun (t_6 : Addr) =>
 Ld .sl w t_6 fun (owners2 : Sl) =>
 Ld (.i .i64) w e fun (e_Index3 : Int) => Ld (.i .i64) w (e.add 1) fun (e_Gen3 : Int) =>
 Nw (.cells #[.int .i64 e_Index3, .int .i64 e_Gen3] 43) w fun (b2 : Addr) (w : World) =>
 Run .sl Try.prog (Builtin.append_ #[35, 35] 35 #[.slice owners2.a owners2.len owners2.cap, .slice (some b2) 1 1]) w fun (s2 : Sl) (w : World) =>
 NN t fun (t_7 : Addr) =>
 St t_7 (.slice s2.a s2.len s2.cap) w fun (w : World) =>
 Dr w fun (w : World) =>
 NN t fun (t_8 : Addr) =>
 Ld .m w (t_8.add 2) fun (rows2 : Option Nat) =>
 Ld (.i .i64) w e fun (e_Index4 : Int) => Ld (.i .i64) w (e.add 1) fun (e_Gen4 : Int) =>
 RunU Try.prog (Instr.mapUpdate 98 (.map rows2) (.agg #[.int .i64 e_Index4, .int .i64 e_Gen4]) (.int .i64 (owners.len : Int))) w fun (w : World) =>
 R (owners.len : Int) 0 w)))))
theorem f89_eq (t : Option Addr) (e_Index : Int) (e_Gen : Int) (values : Sl) (w : World) (R : Int → Int → World → Prop) :
  f89 t e_Index e_Gen values w R = dFunc Try.prog ⟨[(10, ⟨[(43, .i .i64)], [0, 4, 10, 41, 42]⟩)], []⟩ Try.f89 [.pointer t, .agg #[.int .i64 e_Index, .int .i64 e_Gen], .slice values.a values.len values.cap] (fun v w' => viewRet [.one (.i .i64), .one (.i .i64)] v R w') w := by kernel_rfl
theorem c89_of {t : Option Addr} {e_Index : Int} {e_Gen : Int} {values : Sl} {w : World} {R : Int → Int → World → Prop} (h : f89 t e_Index e_Gen values w R) : c89 t e_Index e_Gen values w R :=
 callK_of okP Try.func89 (by rw [← f89_eq]; exact h)
def f90 (s : Sl) (w : World) (R : Sl → World → Prop) : Prop :=
 if s.a.isNone = true then (R ⟨none, 0, 0⟩ w) else (Nw (.cells #[] 3) w fun (b : Addr) (w : World) =>
 Run .sl Try.prog (Builtin.append_ #[28, 28] 28 #[.slice (some b) 0 0, .slice s.a s.len s.cap]) w fun (s2 : Sl) (w : World) =>
 R s2 w)
theorem f90_eq (s : Sl) (w : World) (R : Sl → World → Prop) :
  f90 s w R = dFunc Try.prog ⟨[], []⟩ Try.f90 [.slice s.a s.len s.cap] (fun v w' => viewRet [.one .sl] v R w') w := by kernel_rfl
theorem c90_of {s : Sl} {w : World} {R : Sl → World → Prop} (h : f90 s w R) : c90 s w R :=
 callK_of okP Try.func90 (by rw [← f90_eq]; exact h)
def f91 (b : Sl) (w : World) (R : Sl → World → Prop) : Prop :=
 Run .sl Try.prog (Builtin.append_ #[50, 50] 50 #[.slice none 0 0, .slice b.a b.len b.cap]) w fun (s : Sl) (w : World) =>
 R s w
theorem f91_eq (b : Sl) (w : World) (R : Sl → World → Prop) :
  f91 b w R = dFunc Try.prog ⟨[], []⟩ Try.f91 [.slice b.a b.len b.cap] (fun v w' => viewRet [.one .sl] v R w') w := by kernel_rfl
theorem c91_of {b : Sl} {w : World} {R : Sl → World → Prop} (h : f91 b w R) : c91 b w R :=
 callK_of okP Try.func91 (by rw [← f91_eq]; exact h)
def f92 (l : Sl) (w : World) (R : Sl → World → Prop) : Prop :=
 Nw (.cells #[.slice l.a l.len l.cap] 38) w fun (l2 : Addr) (w : World) =>
 Ld .sl w l2 fun (l3 : Sl) =>
 c93 ⟨none, 0, 0⟩ (IntKind.u64.wrap (l3.len : Int)) w fun (head : Sl) (w : World) =>
 Nw (.cells #[.slice none 0 0] 50) w fun (head2 : Addr) (w : World) =>
 St head2 (.slice head.a head.len head.cap) w fun (w : World) =>
 Ld .sl w l2 fun (l4 : Sl) =>
 if ((l4.len : Int) == 0) = true then (Ld .sl w head2 fun (head3 : Sl) =>
 R head3 w) else (∃ Inv_ : Sl → Int → Nat → World → Prop, (∃ n : Nat, Inv_ ⟨none, 0, 0⟩ 0 n w) ∧ ∀ best : Sl, ∀ t17 : Int, ∀ m : Nat, ∀ w : World, Inv_ best t17 m w → (if (decide (t17 < 3)) = true then (CallV Try.prog (.func (.func 117) #[] #[.pointer (some head2), .pointer (some l2)]) [.int .u8 t17] [.one .sl] w fun (r : Sl) (w : World) =>
 if (cond best.a.isNone true (decide ((r.len : Int) < (best.len : Int)))) = true then (∃ m2 : Nat, m2 < m ∧ Inv_ r (IntKind.u8.wrap (t17 + 1)) m2 w) else (∃ m2 : Nat, m2 < m ∧ Inv_ best (IntKind.u8.wrap (t17 + 1)) m2 w)) else (R best w)))
theorem f92_eq (l : Sl) (w : World) (R : Sl → World → Prop) :
  f92 l w R = dFunc Try.prog ⟨[(7, ⟨[(5, .sl), (17, .i .u8)], [4]⟩)], []⟩ Try.f92 [.slice l.a l.len l.cap] (fun v w' => viewRet [.one .sl] v R w') w := by kernel_rfl
theorem c92_of {l : Sl} {w : World} {R : Sl → World → Prop} (h : f92 l w R) : c92 l w R :=
 callK_of okP Try.func92 (by rw [← f92_eq]; exact h)
def f93 (b : Sl) (n_ : Int) (w : World) (R : Sl → World → Prop) : Prop :=
 ∃ Inv_ : Sl → Int → Nat → World → Prop, (∃ n : Nat, Inv_ b n_ n w) ∧ ∀ b2 : Sl, ∀ n_2 : Int, ∀ m : Nat, ∀ w : World, Inv_ b2 n_2 m w → (if (decide (n_2 ≥ 128)) = true then (Nw (.cells #[.int .u8 (IntKind.u8.wrap ((BitVec.ofInt 8 (IntKind.u8.wrap n_2) ||| BitVec.ofInt 8 128).toNat : Nat))] 5) w fun (b3 : Addr) (w : World) =>
 Run .sl Try.prog (Builtin.append_ #[50, 50] 50 #[.slice b2.a b2.len b2.cap, .slice (some b3) 1 1]) w fun (b4 : Sl) (w : World) =>
 (0 : Int) ≤ 7 ∧ (∃ m2 : Nat, m2 < m ∧ Inv_ b4 (Int.fdiv n_2 (2 ^ (min (Int.toNat 7) 64))) m2 w)) else (Nw (.cells #[.int .u8 (IntKind.u8.wrap n_2)] 5) w fun (b5 : Addr) (w : World) =>
 Run .sl Try.prog (Builtin.append_ #[50, 50] 50 #[.slice b2.a b2.len b2.cap, .slice (some b5) 1 1]) w fun (s : Sl) (w : World) =>
 R s w))
theorem f93_eq (b : Sl) (n_ : Int) (w : World) (R : Sl → World → Prop) :
  f93 b n_ w R = dFunc Try.prog ⟨[(1, ⟨[(0, .sl), (1, .i .u64)], []⟩)], []⟩ Try.f93 [.slice b.a b.len b.cap, .int .u64 n_] (fun v w' => viewRet [.one .sl] v R w') w := by kernel_rfl
theorem c93_of {b : Sl} {n_ : Int} {w : World} {R : Sl → World → Prop} (h : f93 b n_ w R) : c93 b n_ w R :=
 callK_of okP Try.func93 (by rw [← f93_eq]; exact h)
def f94 (n_ : Int) (w : World) (R : Int → World → Prop) : Prop :=
 (0 : Int) ≤ 1 ∧ ((0 : Int) ≤ 63 ∧ (R (IntKind.u64.wrap ((BitVec.ofInt 64 (IntKind.u64.wrap (IntKind.i64.wrap (n_ * 2 ^ (min (Int.toNat 1) 64)))) ^^^ BitVec.ofInt 64 (IntKind.u64.wrap (Int.fdiv n_ (2 ^ (min (Int.toNat 63) 64))))).toNat : Nat)) w))
theorem f94_eq (n_ : Int) (w : World) (R : Int → World → Prop) :
  f94 n_ w R = dFunc Try.prog ⟨[], []⟩ Try.f94 [.int .i64 n_] (fun v w' => viewRet [.one (.i .u64)] v R w') w := by kernel_rfl
theorem c94_of {n_ : Int} {w : World} {R : Int → World → Prop} (h : f94 n_ w R) : c94 n_ w R :=
 callK_of okP Try.func94 (by rw [← f94_eq]; exact h)
def f95 (t : Option Addr) (row : Int) (w : World) (R : Int → Int → Sl → Int → World → Prop) : Prop :=
 Nw (.cells #[.int .i64 0, .int .i64 0] 43) w fun (a : Addr) (w : World) =>
 c119 t row w fun (r : Bool) (w : World) =>
 if (!r) = true then (St a (.int .i64 0) w fun (w : World) =>
 St (a.add 1) (.int .i64 0) w fun (w : World) =>
 Ld (.i .i64) w a fun (r_Index : Int) => Ld (.i .i64) w (a.add 1) fun (r_Gen : Int) =>
 R r_Index r_Gen ⟨none, 0, 0⟩ 50 w) else (NN t fun (t_ : Addr) =>
 Ld .sl w (t_.add 1) fun (columns : Sl) =>
 ∃ Inv_ : Sl → Int → Nat → World → Prop, (∃ n : Nat, Inv_ ⟨none, 0, 0⟩ 0 n w) ∧ ∀ out : Sl, ∀ t20 : Int, ∀ m : Nat, ∀ w : World, Inv_ out t20 m w → (if (decide (t20 < (columns.len : Int))) = true then (Ix columns.a columns.len t20 1 fun (a2 : Addr) =>
 Ld .sl w a2 fun (l : Sl) =>
 Ix l.a l.len row 1 fun (a3 : Addr) =>
 Ld (.i .i64) w a3 fun (x : Int) =>
 Nw (.cells #[.int .i64 x] 2) w fun (b : Addr) (w : World) =>
 Run .sl Try.prog (Builtin.append_ #[38, 38] 38 #[.slice out.a out.len out.cap, .slice (some b) 1 1]) w fun (out2 : Sl) (w : World) =>
 ∃ m2 : Nat, m2 < m ∧ Inv_ out2 (IntKind.i64.wrap (t20 + 1)) m2 w) else (NN t fun (t_2 : Addr) =>
 Ld .sl w t_2 fun (owners : Sl) =>
 Ix owners.a owners.len row 2 fun (a4 : Addr) =>
 Ld (.i .i64) w a4 fun (x_Index : Int) => Ld (.i .i64) w (a4.add 1) fun (x_Gen : Int) =>
 St a (.int .i64 x_Index) w fun (w : World) =>
 St (a.add 1) (.int .i64 x_Gen) w fun (w : World) =>
 Ld (.i .i64) w a fun (r_Index2 : Int) => Ld (.i .i64) w (a.add 1) fun (r_Gen2 : Int) =>
 R r_Index2 r_Gen2 out 0 w)))
theorem f95_eq (t : Option Addr) (row : Int) (w : World) (R : Int → Int → Sl → Int → World → Prop) :
  f95 t row w R = dFunc Try.prog ⟨[(5, ⟨[(7, .sl), (20, .i .i64)], [0, 1, 4, 18, 19]⟩)], []⟩ Try.f95 [.pointer t, .int .i64 row] (fun v w' => viewRet [.agg [.i .i64, .i .i64], .one .sl, .one (.i .i64)] v R w') w := by kernel_rfl
theorem c95_of {t : Option Addr} {row : Int} {w : World} {R : Int → Int → Sl → Int → World → Prop} (h : f95 t row w R) : c95 t row w R :=
 callK_of okP Try.func95 (by rw [← f95_eq]; exact h)
def f96 (t : Option Addr) (row : Int) (w : World) (R : Int → Int → Bool → Int → World → Prop) : Prop :=
 Nw (.cells #[.int .i64 0, .int .i64 0] 43) w fun (a : Addr) (w : World) =>
 c119 t row w fun (r : Bool) (w : World) =>
 if (!r) = true then (St a (.int .i64 0) w fun (w : World) =>
 St (a.add 1) (.int .i64 0) w fun (w : World) =>
 Ld (.i .i64) w a fun (r_Index : Int) => Ld (.i .i64) w (a.add 1) fun (r_Gen : Int) =>
 R r_Index r_Gen false 50 w) else (NN t fun (t_ : Addr) =>
 Ld .sl w t_ fun (owners : Sl) =>
 Dr w fun (w : World) =>
 NN t fun (t_2 : Addr) =>
 Ld .m w (t_2.add 2) fun (rows : Option Nat) =>
 NN t fun (t_3 : Addr) =>
 Ld .sl w t_3 fun (owners2 : Sl) =>
 Ix owners2.a owners2.len row 2 fun (a2 : Addr) =>
 Ld (.i .i64) w a2 fun (x_Index : Int) => Ld (.i .i64) w (a2.add 1) fun (x_Gen : Int) =>
 Run .v Try.prog (Builtin.delete_ #[98, 43] 0 #[.map rows, .agg #[.int .i64 x_Index, .int .i64 x_Gen]]) w fun (n_ : Value) (w : World) =>
 NN t fun (t_4 : Addr) =>
 Ld .sl w t_4 fun (owners3 : Sl) =>
 Ix owners3.a owners3.len (IntKind.i64.wrap ((owners.len : Int) - 1)) 2 fun (a3 : Addr) =>
 Ld (.i .i64) w a3 fun (moved_Index : Int) => Ld (.i .i64) w (a3.add 1) fun (moved_Gen : Int) =>
 Nw (.cells #[.int .i64 0, .int .i64 0] 43) w fun (moved : Addr) (w : World) =>
 St moved (.int .i64 moved_Index) w fun (w : World) =>
 St (moved.add 1) (.int .i64 moved_Gen) w fun (w : World) =>
 NN t fun (t_5 : Addr) =>
 Ld .sl w (t_5.add 1) fun (columns : Sl) =>
 ∃ Inv_ : Int → Nat → World → Prop, (∃ n : Nat, Inv_ 0 n w) ∧ ∀ t45 : Int, ∀ m : Nat, ∀ w : World, Inv_ t45 m w → (if (decide (t45 < (columns.len : Int))) = true then (Ix columns.a columns.len t45 1 fun (a4 : Addr) =>
 Ld .sl w a4 fun (l : Sl) =>
 Ix l.a l.len (IntKind.i64.wrap ((owners.len : Int) - 1)) 1 fun (a5 : Addr) =>
 Ld (.i .i64) w a5 fun (x : Int) =>
 Ix l.a l.len row 1 fun (a6 : Addr) =>
 St a6 (.int .i64 x) w fun (w : World) =>
 Dr w fun (w : World) =>
 NN t fun (t_6 : Addr) =>
 Ld .sl w (t_6.add 1) fun (columns2 : Sl) =>
 Cut ⟨l.a, l.len, l.cap⟩ 0 (IntKind.i64.wrap ((owners.len : Int) - 1)) (l.cap : Int) 1 fun (s : Sl) =>
 Ix columns2.a columns2.len t45 1 fun (a7 : Addr) =>
 St a7 (.slice s.a s.len s.cap) w fun (w : World) =>
 ∃ m2 : Nat, m2 < m ∧ Inv_ (IntKind.i64.wrap (t45 + 1)) m2 w) else (Dr w fun (w : World) =>
 NN t fun (t_7 : Addr) =>
 Ld .sl w t_7 fun (owners4 : Sl) =>
 Ld (.i .i64) w moved fun (moved_Index2 : Int) => Ld (.i .i64) w (moved.add 1) fun (moved_Gen2 : Int) =>
 Ix owners4.a owners4.len row 2 fun (a8 : Addr) =>
 St a8 (.int .i64 moved_Index2) w fun (w : World) =>
 St (a8.add 1) (.int .i64 moved_Gen2) w fun (w : World) =>
 NN t fun (t_8 : Addr) =>
 Ld .sl w t_8 fun (owners5 : Sl) =>
 Cut ⟨owners5.a, owners5.len, owners5.cap⟩ 0 (IntKind.i64.wrap ((owners.len : Int) - 1)) (owners5.cap : Int) 2 fun (s2 : Sl) =>
 NN t fun (t_9 : Addr) =>
 St t_9 (.slice s2.a s2.len s2.cap) w fun (w : World) =>
 if (row == (IntKind.i64.wrap ((owners.len : Int) - 1))) = true then (St a (.int .i64 0) w fun (w : World) =>
 St (a.add 1) (.int .i64 0) w fun (w : World) =>
 Ld (.i .i64) w a fun (r_Index2 : Int) => Ld (.i .i64) w (a.add 1) fun (r_Gen2 : Int) =>
 R r_Index2 r_Gen2 false 0 w) else (Dr w fun (w : World) =>
 NN t fun (t_10 : Addr) =>
 Ld .m w (t_10.add 2) fun (rows2 : Option Nat) =>
 Ld (.i .i64) w moved fun (moved_Index3 : Int) => Ld (.i .i64) w (moved.add 1) fun (moved_Gen3 : Int) =>
 RunU Try.prog (Instr.mapUpdate 98 (.map rows2) (.agg #[.int .i64 moved_Index3, .int .i64 moved_Gen3]) (.int .i64 row)) w fun (w : World) =>
 Ld (.i .i64) w moved fun (moved_Index4 : Int) => Ld (.i .i64) w (moved.add 1) fun (moved_Gen4 : Int) =>
 St a (.int .i64 moved_Index4) w fun (w : World) =>
 St (a.add 1) (.int .i64 moved_Gen4) w fun (w : World) =>
 Ld (.i .i64) w a fun (r_Index3 : Int) => Ld (.i .i64) w (a.add 1) fun (r_Gen3 : Int) =>
 R r_Index3 r_Gen3 true 0 w))))
theorem f96_eq (t : Option Addr) (row : Int) (w : World) (R : Int → Int → Bool → Int → World → Prop) :
  f96 t row w R = dFunc Try.prog ⟨[(7, ⟨[(45, .i .i64)], [0, 1, 4, 7, 8, 43, 44]⟩)], []⟩ Try.f96 [.pointer t, .int .i64 row] (fun v w' => viewRet [.agg [.i .i64, .i .i64], .one .b, .one (.i .i64)] v R w') w := by kernel_rfl
theorem c96_of {t : Option Addr} {row : Int} {w : World} {R : Int → Int → Bool → Int → World → Prop} (h : f96 t row w R) : c96 t row w R :=
 callK_of okP Try.func96 (by rw [← f96_eq]; exact h)
def f97 (a : Sl) (b : Sl) (w : World) (R : Bool → World → Prop) : Prop :=
 if ((a.len : Int) != (b.len : Int)) = true then (R false w) else (∃ Inv_ : Int → Nat → World → Prop, (∃ n : Nat, Inv_ 0 n w) ∧ ∀ i : Int, ∀ m : Nat, ∀ w : World, Inv_ i m w → (if (decide (i < (a.len : Int))) = true then (Dr w fun (w : World) =>
 Ix a.a a.len i 1 fun (a2 : Addr) =>
 Ld (.i .i64) w a2 fun (x : Int) =>
 Ix b.a b.len i 1 fun (a3 : Addr) =>
 Ld (.i .i64) w a3 fun (x2 : Int) =>
 if (x != x2) = true then (R false w) else (∃ m2 : Nat, m2 < m ∧ Inv_ (IntKind.i64.wrap (i + 1)) m2 w)) else (R true w)))
theorem f97_eq (a : Sl) (b : Sl) (w : World) (R : Bool → World → Prop) :
  f97 a b w R = dFunc Try.prog ⟨[(4, ⟨[(5, .i .i64)], [0, 1]⟩)], []⟩ Try.f97 [.slice a.a a.len a.cap, .slice b.a b.len b.cap] (fun v w' => viewRet [.one .b] v R w') w := by kernel_rfl
theorem c97_of {a : Sl} {b : Sl} {w : World} {R : Bool → World → Prop} (h : f97 a b w R) : c97 a b w R :=
 callK_of okP Try.func97 (by rw [← f97_eq]; exact h)
def f98 (p : Option Addr) (index : Int) (w : World) (R : Int → Int → Int → World → Prop) : Prop :=
 Nw (.cells #[.int .i64 0, .int .i64 0] 43) w fun (a : Addr) (w : World) =>
 ∃ J_ : Bool → World → Prop, (if (decide (index < 0)) = true then (J_ true w) else (NN p fun (p_ : Addr) =>
 Ld .sl w (p_.add 1) fun (gens : Sl) =>
 if (decide (index ≥ (gens.len : Int))) = true then (J_ true w) else (NN p fun (p_2 : Addr) =>
 Ld .sl w (p_2.add 2) fun (alive : Sl) =>
 Ix alive.a alive.len index 1 fun (a2 : Addr) =>
 Ld .b w a2 fun (x : Bool) =>
 J_ (!x) w))) ∧ ∀ t26 : Bool, ∀ w : World, J_ t26 w → (if t26 = true then (St a (.int .i64 0) w fun (w : World) =>
 St (a.add 1) (.int .i64 0) w fun (w : World) =>
 Ld (.i .i64) w a fun (r_Index : Int) => Ld (.i .i64) w (a.add 1) fun (r_Gen : Int) =>
 R r_Index r_Gen 41 w) else (NN p fun (p_3 : Addr) =>
 Ld .sl w (p_3.add 1) fun (gens2 : Sl) =>
 Ix gens2.a gens2.len index 1 fun (a3 : Addr) =>
 Ld (.i .i64) w a3 fun (x2 : Int) =>
 St a (.int .i64 index) w fun (w : World) =>
 St (a.add 1) (.int .i64 x2) w fun (w : World) =>
 Ld (.i .i64) w a fun (r_Index2 : Int) => Ld (.i .i64) w (a.add 1) fun (r_Gen2 : Int) =>
 R r_Index2 r_Gen2 0 w))
theorem f98_eq (p : Option Addr) (index : Int) (w : World) (R : Int → Int → Int → World → Prop) :
  f98 p index w R = dFunc Try.prog ⟨[], [(2, ⟨[(26, .b)], [0, 1, 4]⟩)]⟩ Try.f98 [.pointer p, .int .i64 index] (fun v w' => viewRet [.agg [.i .i64, .i .i64], .one (.i .i64)] v R w') w := by kernel_rfl
theorem c98_of {p : Option Addr} {index : Int} {w : World} {R : Int → Int → Int → World → Prop} (h : f98 p index w R) : c98 p index w R :=
 callK_of okP Try.func98 (by rw [← f98_eq]; exact h)
def f99 (s : Sl) (w : World) (R : Sl → World → Prop) : Prop :=
 if s.a.isNone = true then (R ⟨none, 0, 0⟩ w) else (Nw (.cells #[] 2) w fun (b : Addr) (w : World) =>
 Run .sl Try.prog (Builtin.append_ #[38, 38] 38 #[.slice (some b) 0 0, .slice s.a s.len s.cap]) w fun (s2 : Sl) (w : World) =>
 R s2 w)
theorem f99_eq (s : Sl) (w : World) (R : Sl → World → Prop) :
  f99 s w R = dFunc Try.prog ⟨[], []⟩ Try.f99 [.slice s.a s.len s.cap] (fun v w' => viewRet [.one .sl] v R w') w := by kernel_rfl
theorem c99_of {s : Sl} {w : World} {R : Sl → World → Prop} (h : f99 s w R) : c99 s w R :=
 callK_of okP Try.func99 (by rw [← f99_eq]; exact h)
def f106 (l : Sl) (w : World) (R : Bool → World → Prop) : Prop :=
 ∃ Inv_ : Int → Nat → World → Prop, (∃ n : Nat, Inv_ 0 n w) ∧ ∀ i : Int, ∀ m : Nat, ∀ w : World, Inv_ i m w → (if (decide (i < (l.len : Int))) = true then (Ix l.a l.len i 1 fun (a : Addr) =>
 Ld .s w a fun (x : ByteArray) =>
 c123 x w fun (w_ : Bool) (w : World) =>
 if (!w_) = true then (R false w) else (∃ Inv_2 : Int → Nat → World → Prop, (∃ n : Nat, Inv_2 0 n w) ∧ ∀ k : Int, ∀ m3 : Nat, ∀ w : World, Inv_2 k m3 w → (if (decide (k < i)) = true then (Dr w fun (w : World) =>
 Ix l.a l.len k 1 fun (a2 : Addr) =>
 Ld .s w a2 fun (x2 : ByteArray) =>
 Ix l.a l.len i 1 fun (a3 : Addr) =>
 Ld .s w a3 fun (x3 : ByteArray) =>
 if (x2.toList == x3.toList) = true then (R false w) else (∃ m4 : Nat, m4 < m3 ∧ Inv_2 (IntKind.i64.wrap (k + 1)) m4 w)) else (∃ m2 : Nat, m2 < m ∧ Inv_ (IntKind.i64.wrap (i + 1)) m2 w)))) else (R true w))
theorem f106_eq (l : Sl) (w : World) (R : Bool → World → Prop) :
  f106 l w R = dFunc Try.prog ⟨[(2, ⟨[(3, .i .i64)], [0]⟩), (8, ⟨[(5, .i .i64)], [0, 3]⟩)], []⟩ Try.f106 [.slice l.a l.len l.cap] (fun v w' => viewRet [.one .b] v R w') w := by kernel_rfl
theorem c106_of {l : Sl} {w : World} {R : Bool → World → Prop} (h : f106 l w R) : c106 l w R :=
 callK_of okP Try.func106 (by rw [← f106_eq]; exact h)
def f107 (l : Sl) (w : World) (R : Sl → World → Prop) : Prop :=
 Run .sl Try.prog (Builtin.append_ #[38, 38] 38 #[.slice none 0 0, .slice l.a l.len l.cap]) w fun (s : Sl) (w : World) =>
 R s w
theorem f107_eq (l : Sl) (w : World) (R : Sl → World → Prop) :
  f107 l w R = dFunc Try.prog ⟨[], []⟩ Try.f107 [.slice l.a l.len l.cap] (fun v w' => viewRet [.one .sl] v R w') w := by kernel_rfl
theorem c107_of {l : Sl} {w : World} {R : Sl → World → Prop} (h : f107 l w R) : c107 l w R :=
 callK_of okP Try.func107 (by rw [← f107_eq]; exact h)
def f108 (p : Option Addr) (w : World) (R : Sl → Sl → World → Prop) : Prop :=
 ∃ Inv_ : Sl → Int → Nat → World → Prop, (∃ n : Nat, Inv_ ⟨none, 0, 0⟩ 0 n w) ∧ ∀ gens : Sl, ∀ i : Int, ∀ m : Nat, ∀ w : World, Inv_ gens i m w → (NN p fun (p_ : Addr) =>
 Ld .sl w (p_.add 1) fun (Gens : Sl) =>
 if (decide (i < (Gens.len : Int))) = true then (NN p fun (p_2 : Addr) =>
 Ld .sl w (p_2.add 1) fun (Gens2 : Sl) =>
 Ix Gens2.a Gens2.len i 1 fun (a : Addr) =>
 Ld (.i .i64) w a fun (g : Int) =>
 c124 p i w fun (in_ : Bool) (w : World) =>
 NN p fun (p_3 : Addr) =>
 Ld .sl w (p_3.add 2) fun (On : Sl) =>
 Ix On.a On.len i 1 fun (a2 : Addr) =>
 Ld .b w a2 fun (x : Bool) =>
 if (cond (!x) (!in_) false) = true then (Nw (.cells #[.int .i64 1000001] 3) w fun (b : Addr) (w : World) =>
 Run .sl Try.prog (Builtin.append_ #[28, 28] 28 #[.slice gens.a gens.len gens.cap, .slice (some b) 1 1]) w fun (gens2 : Sl) (w : World) =>
 ∃ m2 : Nat, m2 < m ∧ Inv_ gens2 (IntKind.i64.wrap (i + 1)) m2 w) else (Nw (.cells #[.int .i64 g] 3) w fun (b2 : Addr) (w : World) =>
 Run .sl Try.prog (Builtin.append_ #[28, 28] 28 #[.slice gens.a gens.len gens.cap, .slice (some b2) 1 1]) w fun (gens3 : Sl) (w : World) =>
 ∃ m2 : Nat, m2 < m ∧ Inv_ gens3 (IntKind.i64.wrap (i + 1)) m2 w)) else (NN p fun (p_4 : Addr) =>
 Ld .sl w (p_4.add 3) fun (Free : Sl) =>
 Run .sl Try.prog (Builtin.append_ #[28, 28] 28 #[.slice none 0 0, .slice Free.a Free.len Free.cap]) w fun (s : Sl) (w : World) =>
 R gens s w))
theorem f108_eq (p : Option Addr) (w : World) (R : Sl → Sl → World → Prop) :
  f108 p w R = dFunc Try.prog ⟨[(4, ⟨[(4, .sl), (6, .i .i64)], [0, 5]⟩)], []⟩ Try.f108 [.pointer p] (fun v w' => viewRet [.one .sl, .one .sl] v R w') w := by kernel_rfl
theorem c108_of {p : Option Addr} {w : World} {R : Sl → Sl → World → Prop} (h : f108 p w R) : c108 p w R :=
 callK_of okP Try.func108 (by rw [← f108_eq]; exact h)
def f109 (b : Sl) (l : Sl) (w : World) (R : Sl → World → Prop) : Prop :=
 c79 b (IntKind.u64.wrap (l.len : Int)) w fun (out : Sl) (w : World) =>
 if ((l.len : Int) == 0) = true then (R out w) else (c125 l w fun (r : Sl) (w : World) =>
 Run .sl Try.prog (Builtin.append_ #[50, 50] 50 #[.slice out.a out.len out.cap, .slice r.a r.len r.cap]) w fun (s : Sl) (w : World) =>
 R s w)
theorem f109_eq (b : Sl) (l : Sl) (w : World) (R : Sl → World → Prop) :
  f109 b l w R = dFunc Try.prog ⟨[], []⟩ Try.f109 [.slice b.a b.len b.cap, .slice l.a l.len l.cap] (fun v w' => viewRet [.one .sl] v R w') w := by kernel_rfl
theorem c109_of {b : Sl} {l : Sl} {w : World} {R : Sl → World → Prop} (h : f109 b l w R) : c109 b l w R :=
 callK_of okP Try.func109 (by rw [← f109_eq]; exact h)
def f110 (l : Sl) (w : World) (R : Sl → World → Prop) : Prop :=
 ∃ Inv_ : Sl → Int → Nat → World → Prop, (∃ n : Nat, Inv_ ⟨none, 0, 0⟩ 0 n w) ∧ ∀ out : Sl, ∀ i : Int, ∀ m : Nat, ∀ w : World, Inv_ out i m w → (if (decide (i < (l.len : Int))) = true then (Ix l.a l.len i 1 fun (a : Addr) =>
 Ld (.i .i64) w a fun (x : Int) =>
 Nw (.cells #[.int .i64 x] 2) w fun (b : Addr) (w : World) =>
 Run .sl Try.prog (Builtin.append_ #[38, 38] 38 #[.slice out.a out.len out.cap, .slice (some b) 1 1]) w fun (out2 : Sl) (w : World) =>
 ∃ m2 : Nat, m2 < m ∧ Inv_ out2 (IntKind.i64.wrap (i + 1)) m2 w) else (R out w))
theorem f110_eq (l : Sl) (w : World) (R : Sl → World → Prop) :
  f110 l w R = dFunc Try.prog ⟨[(3, ⟨[(3, .sl), (4, .i .i64)], [0]⟩)], []⟩ Try.f110 [.slice l.a l.len l.cap] (fun v w' => viewRet [.one .sl] v R w') w := by kernel_rfl
theorem c110_of {l : Sl} {w : World} {R : Sl → World → Prop} (h : f110 l w R) : c110 l w R :=
 callK_of okP Try.func110 (by rw [← f110_eq]; exact h)
def f111 (n_ : Int) (w : World) (R : Int → World → Prop) : Prop :=
 if (decide (n_ < 0)) = true then (R (IntKind.u64.wrap ((IntKind.u64.wrap ((IntKind.u64.wrap (IntKind.i64.wrap (0 - (IntKind.i64.wrap (n_ + 1))))) * 2)) + 1)) w) else (R (IntKind.u64.wrap ((IntKind.u64.wrap n_) * 2)) w)
theorem f111_eq (n_ : Int) (w : World) (R : Int → World → Prop) :
  f111 n_ w R = dFunc Try.prog ⟨[], []⟩ Try.f111 [.int .i64 n_] (fun v w' => viewRet [.one (.i .u64)] v R w') w := by kernel_rfl
theorem c111_of {n_ : Int} {w : World} {R : Int → World → Prop} (h : f111 n_ w R) : c111 n_ w R :=
 callK_of okP Try.func111 (by rw [← f111_eq]; exact h)
def f112 (b : Option Addr) (l : Sl) (w : World) (R : World → Prop) : Prop :=
 NN b fun (b_ : Addr) =>
 Ld .sl w b_ fun (v : Sl) =>
 ∃ Inv_ : Int → Nat → World → Prop, (∃ n : Nat, Inv_ 0 n w) ∧ ∀ i : Int, ∀ m : Nat, ∀ w : World, Inv_ i m w → (if (decide (i < (l.len : Int))) = true then (Ix l.a l.len i 1 fun (a : Addr) =>
 St a (.int .i64 (IntKind.i64.wrap (1000000 + (v.len : Int)))) w fun (w : World) =>
 ∃ m2 : Nat, m2 < m ∧ Inv_ (IntKind.i64.wrap (i + 1)) m2 w) else (NN b fun (b_2 : Addr) =>
 Ld .sl w b_2 fun (v2 : Sl) =>
 Nw (.cells #[.slice l.a l.len l.cap] 38) w fun (b2 : Addr) (w : World) =>
 Run .sl Try.prog (Builtin.append_ #[82, 82] 82 #[.slice v2.a v2.len v2.cap, .slice (some b2) 1 1]) w fun (s : Sl) (w : World) =>
 NN b fun (b_3 : Addr) =>
 St b_3 (.slice s.a s.len s.cap) w fun (w : World) =>
 NN b fun (b_4 : Addr) =>
 Ld .sl w (b_4.add 3) fun (x : Sl) =>
 Nw (.cells #[.int .i64 (IntKind.i64.wrap (1000000 + (v.len : Int)))] 2) w fun (b3 : Addr) (w : World) =>
 Run .sl Try.prog (Builtin.append_ #[38, 38] 38 #[.slice x.a x.len x.cap, .slice (some b3) 1 1]) w fun (s2 : Sl) (w : World) =>
 NN b fun (b_5 : Addr) =>
 St (b_5.add 3) (.slice s2.a s2.len s2.cap) w fun (w : World) =>
 R w))
theorem f112_eq (b : Option Addr) (l : Sl) (w : World) (R : World → Prop) :
  f112 b l w R = dFunc Try.prog ⟨[(2, ⟨[(5, .i .i64)], [0, 1, 4]⟩)], []⟩ Try.f112 [.pointer b, .slice l.a l.len l.cap] (fun v w' => viewRet [] v R w') w := by kernel_rfl
theorem c112_of {b : Option Addr} {l : Sl} {w : World} {R : World → Prop} (h : f112 b l w R) : c112 b l w R :=
 callK_of okP Try.func112 (by rw [← f112_eq]; exact h)
def f113 (s : ByteArray) (w : World) (R : Bool → World → Prop) : Prop :=
 Run .sl Try.prog (convert 9 50 (.string s)) w fun (x : Sl) (w : World) =>
 ∃ Inv_ : Int → Nat → World → Prop, (∃ n : Nat, Inv_ 0 n w) ∧ ∀ t9 : Int, ∀ m : Nat, ∀ w : World, Inv_ t9 m w → (if (decide (t9 < (x.len : Int))) = true then (Ix x.a x.len t9 1 fun (a : Addr) =>
 Ld (.i .u8) w a fun (c : Int) =>
 if (cond (!(cond (cond (decide (c ≥ 97)) (decide (c ≤ 122)) false) true (cond (decide (c ≥ 65)) (decide (c ≤ 90)) false))) (cond (t9 == 0) true (cond (c != 95) (cond (decide (c < 48)) true (decide (c > 57))) false)) false) = true then (R false w) else (∃ m2 : Nat, m2 < m ∧ Inv_ (IntKind.i64.wrap (t9 + 1)) m2 w)) else (R (cond (!(s.toList == (⟨#[]⟩ : ByteArray).toList)) (decide ((s.size : Int) ≤ 16)) false) w))
theorem f113_eq (s : ByteArray) (w : World) (R : Bool → World → Prop) :
  f113 s w R = dFunc Try.prog ⟨[(2, ⟨[(9, .i .i64)], [0, 7, 8]⟩)], []⟩ Try.f113 [.string s] (fun v w' => viewRet [.one .b] v R w') w := by kernel_rfl
theorem c113_of {s : ByteArray} {w : World} {R : Bool → World → Prop} (h : f113 s w R) : c113 s w R :=
 callK_of okP Try.func113 (by rw [← f113_eq]; exact h)
def f114 (s : Sl) (v : ByteArray) (w : World) (R : Bool → World → Prop) : Prop :=
 c126 s v w fun (r : Int) (w : World) =>
 R (decide (r ≥ 0)) w
theorem f114_eq (s : Sl) (v : ByteArray) (w : World) (R : Bool → World → Prop) :
  f114 s v w R = dFunc Try.prog ⟨[], []⟩ Try.f114 [.slice s.a s.len s.cap, .string v] (fun v w' => viewRet [.one .b] v R w') w := by kernel_rfl
theorem c114_of {s : Sl} {v : ByteArray} {w : World} {R : Bool → World → Prop} (h : f114 s v w R) : c114 s v w R :=
 callK_of okP Try.func114 (by rw [← f114_eq]; exact h)
def f116 (columns : Int) (w : World) (R : Option Addr → Int → World → Prop) : Prop :=
 if (cond (decide (columns < 0)) true (decide (columns > 48))) = true then (R none 1 w) else (Mk [.slice none 0 0] 38 24 columns columns w fun (s : Sl) (w : World) =>
 Nw (.map #[] 0) w fun (m : Addr) (w : World) =>
 Nw (.cells #[.slice none 0 0, .slice s.a s.len s.cap, .map (some m.block)] 166) w fun (a : Addr) (w : World) =>
 R (some a) 0 w)
theorem f116_eq (columns : Int) (w : World) (R : Option Addr → Int → World → Prop) :
  f116 columns w R = dFunc Try.prog ⟨[], []⟩ Try.f116 [.int .i64 columns] (fun v w' => viewRet [.one .p, .one (.i .i64)] v R w') w := by kernel_rfl
theorem c116_of {columns : Int} {w : World} {R : Option Addr → Int → World → Prop} (h : f116 columns w R) : c116 columns w R :=
 callK_of okP Try.func116 (by rw [← f116_eq]; exact h)
def f117 (form : Int) (t1 : Option Addr) (t2 : Option Addr) (w : World) (R : Sl → World → Prop) : Prop :=
 Dr w fun (w : World) =>
 NN t1 fun (a : Addr) =>
 Ld .sl w a fun (x : Sl) =>
 NN t2 fun (a2 : Addr) =>
 Ld .sl w a2 fun (x2 : Sl) =>
 FlS [(.cells #[.int .u8 form] 5, none)] w fun (y : Option Addr) (w : World) =>
 c91 x w fun (r : Sl) (w : World) =>
 w.cell? a2 = some (.slice x2.a x2.len x2.cap) ∧ (FlS [(.cells #[.int .u8 form] 5, y)] w fun (y2 : Option Addr) (w : World) =>
 Need y2 fun (a3 : Addr) =>
 Run .sl Try.prog (Builtin.append_ #[50, 50] 50 #[.slice r.a r.len r.cap, .slice (some a3) 1 1]) w fun (s : Sl) (w : World) =>
 w.cell? a2 = some (.slice x2.a x2.len x2.cap) ∧ (c118 form s x2 w fun (r2 : Sl) (w : World) =>
 R r2 w))
theorem f117_eq (form : Int) (t1 : Option Addr) (t2 : Option Addr) (w : World) (R : Sl → World → Prop) :
  f117 form t1 t2 w R = dFunc Try.prog ⟨[], []⟩ Try.f117 [.int .u8 form, .pointer t1, .pointer t2] (fun v w' => viewRet [.one .sl] v R w') w := by kernel_rfl
theorem c117_of {form : Int} {t1 : Option Addr} {t2 : Option Addr} {w : World} {R : Sl → World → Prop} (h : f117 form t1 t2 w R) : c117 form t1 t2 w R :=
 callK_of okP Try.func117 (by rw [← f117_eq]; exact h)
def f118 (form : Int) (b : Sl) (l : Sl) (w : World) (R : Sl → World → Prop) : Prop :=
 if (form == 0) = true then (∃ Inv_ : Sl → Int → Nat → World → Prop, (∃ n : Nat, Inv_ b 0 n w) ∧ ∀ b2 : Sl, ∀ t42 : Int, ∀ m : Nat, ∀ w : World, Inv_ b2 t42 m w → (if (decide (t42 < (l.len : Int))) = true then (Ix l.a l.len t42 1 fun (a : Addr) =>
 Ld (.i .i64) w a fun (n_ : Int) =>
 c94 n_ w fun (r : Int) (w : World) =>
 c93 b2 r w fun (b3 : Sl) (w : World) =>
 ∃ m2 : Nat, m2 < m ∧ Inv_ b3 (IntKind.i64.wrap (t42 + 1)) m2 w) else (R b2 w))) else (if (form == 1) = true then (∃ Inv_2 : Sl → Int → Int → Nat → World → Prop, (∃ n : Nat, Inv_2 b 0 0 n w) ∧ ∀ b4 : Sl, ∀ last : Int, ∀ t55 : Int, ∀ m3 : Nat, ∀ w : World, Inv_2 b4 last t55 m3 w → (if (decide (t55 < (l.len : Int))) = true then (Ix l.a l.len t55 1 fun (a2 : Addr) =>
 Ld (.i .i64) w a2 fun (n_2 : Int) =>
 c94 (IntKind.i64.wrap (n_2 - last)) w fun (r2 : Int) (w : World) =>
 c93 b4 r2 w fun (b5 : Sl) (w : World) =>
 ∃ m4 : Nat, m4 < m3 ∧ Inv_2 b5 n_2 (IntKind.i64.wrap (t55 + 1)) m4 w) else (R b4 w))) else (c128 l w fun (all : Sl) (w : World) =>
 c93 b (IntKind.u64.wrap (all.len : Int)) w fun (b6 : Sl) (w : World) =>
 ∃ Inv_3 : Sl → Int → Nat → World → Prop, (∃ n : Nat, Inv_3 b6 0 n w) ∧ ∀ b7 : Sl, ∀ t25 : Int, ∀ m5 : Nat, ∀ w : World, Inv_3 b7 t25 m5 w → (if (decide (t25 < (all.len : Int))) = true then (Ix all.a all.len t25 2 fun (a3 : Addr) =>
 Ld (.i .u64) w a3 fun (r_many : Int) => Ld (.i .i64) w (a3.add 1) fun (r_n : Int) =>
 Nw (.cells #[.int .u64 0, .int .i64 0] 196) w fun (r3 : Addr) (w : World) =>
 St r3 (.int .u64 r_many) w fun (w : World) =>
 St (r3.add 1) (.int .i64 r_n) w fun (w : World) =>
 Dr w fun (w : World) =>
 Ld (.i .u64) w r3 fun (many : Int) =>
 Ld (.i .i64) w (r3.add 1) fun (n_3 : Int) =>
 c93 b7 many w fun (r4 : Sl) (w : World) =>
 w.cell? (r3.add 1) = some (.int .i64 n_3) ∧ (c94 n_3 w fun (r5 : Int) (w : World) =>
 c93 r4 r5 w fun (b8 : Sl) (w : World) =>
 ∃ m6 : Nat, m6 < m5 ∧ Inv_3 b8 (IntKind.i64.wrap (t25 + 1)) m6 w)) else (R b7 w))))
theorem f118_eq (form : Int) (b : Sl) (l : Sl) (w : World) (R : Sl → World → Prop) :
  f118 form b l w R = dFunc Try.prog ⟨[(5, ⟨[(1, .sl), (25, .i .i64)], [23, 24]⟩), (11, ⟨[(1, .sl), (42, .i .i64)], [40, 41]⟩), (18, ⟨[(1, .sl), (9, .i .i64), (55, .i .i64)], [53, 54]⟩)], []⟩ Try.f118 [.int .u8 form, .slice b.a b.len b.cap, .slice l.a l.len l.cap] (fun v w' => viewRet [.one .sl] v R w') w := by kernel_rfl
theorem c118_of {form : Int} {b : Sl} {l : Sl} {w : World} {R : Sl → World → Prop} (h : f118 form b l w R) : c118 form b l w R :=
 callK_of okP Try.func118 (by rw [← f118_eq]; exact h)
def f119 (t : Option Addr) (row : Int) (w : World) (R : Bool → World → Prop) : Prop :=
 if (decide (row ≥ 0)) = true then (NN t fun (t_ : Addr) =>
 Ld .sl w t_ fun (owners : Sl) =>
 R (decide (row < (owners.len : Int))) w) else (R false w)
theorem f119_eq (t : Option Addr) (row : Int) (w : World) (R : Bool → World → Prop) :
  f119 t row w R = dFunc Try.prog ⟨[], []⟩ Try.f119 [.pointer t, .int .i64 row] (fun v w' => viewRet [.one .b] v R w') w := by kernel_rfl
theorem c119_of {t : Option Addr} {row : Int} {w : World} {R : Bool → World → Prop} (h : f119 t row w R) : c119 t row w R :=
 callK_of okP Try.func119 (by rw [← f119_eq]; exact h)
def f123 (s : ByteArray) (w : World) (R : Bool → World → Prop) : Prop :=
 ∃ Inv_ : Int → Nat → World → Prop, (∃ n : Nat, Inv_ 0 n w) ∧ ∀ i : Int, ∀ m : Nat, ∀ w : World, Inv_ i m w → (if (decide (i < (s.size : Int))) = true then (IxS s i fun (c : Int) =>
 if (cond (!(cond (cond (decide (c ≥ 97)) (decide (c ≤ 122)) false) true (cond (decide (c ≥ 65)) (decide (c ≤ 90)) false))) (cond (i == 0) true (!(cond (cond (decide (c ≥ 48)) (decide (c ≤ 57)) false) true (c == 95)))) false) = true then (R false w) else (∃ m2 : Nat, m2 < m ∧ Inv_ (IntKind.i64.wrap (i + 1)) m2 w)) else (R (cond (decide ((s.size : Int) ≥ 1)) (decide ((s.size : Int) ≤ 16)) false) w))
theorem f123_eq (s : ByteArray) (w : World) (R : Bool → World → Prop) :
  f123 s w R = dFunc Try.prog ⟨[(2, ⟨[(3, .i .i64)], [0]⟩)], []⟩ Try.f123 [.string s] (fun v w' => viewRet [.one .b] v R w') w := by kernel_rfl
theorem c123_of {s : ByteArray} {w : World} {R : Bool → World → Prop} (h : f123 s w R) : c123 s w R :=
 callK_of okP Try.func123 (by rw [← f123_eq]; exact h)
def f124 (p : Option Addr) (i : Int) (w : World) (R : Bool → World → Prop) : Prop :=
 ∃ Inv_ : Int → Nat → World → Prop, (∃ n : Nat, Inv_ 0 n w) ∧ ∀ k : Int, ∀ m : Nat, ∀ w : World, Inv_ k m w → (NN p fun (p_ : Addr) =>
 Ld .sl w (p_.add 3) fun (Free : Sl) =>
 if (decide (k < (Free.len : Int))) = true then (NN p fun (p_2 : Addr) =>
 Ld .sl w (p_2.add 3) fun (Free2 : Sl) =>
 Ix Free2.a Free2.len k 1 fun (a : Addr) =>
 Ld (.i .i64) w a fun (x : Int) =>
 if (x == i) = true then (R true w) else (∃ m2 : Nat, m2 < m ∧ Inv_ (IntKind.i64.wrap (k + 1)) m2 w)) else (R false w))
theorem f124_eq (p : Option Addr) (i : Int) (w : World) (R : Bool → World → Prop) :
  f124 p i w R = dFunc Try.prog ⟨[(2, ⟨[(5, .i .i64)], [0, 1]⟩)], []⟩ Try.f124 [.pointer p, .int .i64 i] (fun v w' => viewRet [.one .b] v R w') w := by kernel_rfl
theorem c124_of {p : Option Addr} {i : Int} {w : World} {R : Bool → World → Prop} (h : f124 p i w R) : c124 p i w R :=
 callK_of okP Try.func124 (by rw [← f124_eq]; exact h)
def f125 (l : Sl) (w : World) (R : Sl → World → Prop) : Prop :=
 c129 l w fun (f_0 : Sl) (f_1 : Sl) (f_2 : Sl) (w : World) =>
 Nw (.cells #[.slice none 0 0, .slice none 0 0, .slice none 0 0] 197) w fun (f : Addr) (w : World) =>
 St f (.slice f_0.a f_0.len f_0.cap) w fun (w : World) =>
 St (f.add 1) (.slice f_1.a f_1.len f_1.cap) w fun (w : World) =>
 St (f.add 2) (.slice f_2.a f_2.len f_2.cap) w fun (w : World) =>
 IxA f 3 0 1 fun (a : Addr) =>
 Ld .sl w a fun (best : Sl) =>
 ∃ Inv_ : Sl → Int → Nat → World → Prop, (∃ n : Nat, Inv_ best 1 n w) ∧ ∀ best2 : Sl, ∀ i : Int, ∀ m : Nat, ∀ w : World, Inv_ best2 i m w → (if (decide (i < 3)) = true then (IxA f 3 i 1 fun (a2 : Addr) =>
 Ld .sl w a2 fun (x : Sl) =>
 if (decide ((x.len : Int) < (best2.len : Int))) = true then (IxA f 3 i 1 fun (a3 : Addr) =>
 Ld .sl w a3 fun (best3 : Sl) =>
 ∃ m2 : Nat, m2 < m ∧ Inv_ best3 (IntKind.i64.wrap (i + 1)) m2 w) else (∃ m2 : Nat, m2 < m ∧ Inv_ best2 (IntKind.i64.wrap (i + 1)) m2 w)) else (R best2 w))
theorem f125_eq (l : Sl) (w : World) (R : Sl → World → Prop) :
  f125 l w R = dFunc Try.prog ⟨[(4, ⟨[(4, .sl), (5, .i .i64)], [3]⟩)], []⟩ Try.f125 [.slice l.a l.len l.cap] (fun v w' => viewRet [.one .sl] v R w') w := by kernel_rfl
theorem c125_of {l : Sl} {w : World} {R : Sl → World → Prop} (h : f125 l w R) : c125 l w R :=
 callK_of okP Try.func125 (by rw [← f125_eq]; exact h)
def f126 (s : Sl) (v : ByteArray) (w : World) (R : Int → World → Prop) : Prop :=
 ∃ Inv_ : Int → Nat → World → Prop, (∃ n : Nat, Inv_ 0 n w) ∧ ∀ t8 : Int, ∀ m : Nat, ∀ w : World, Inv_ t8 m w → (if (decide (t8 < (s.len : Int))) = true then (Ix s.a s.len t8 1 fun (a : Addr) =>
 Ld .s w a fun (x : ByteArray) =>
 if (v.toList == x.toList) = true then (R t8 w) else (∃ m2 : Nat, m2 < m ∧ Inv_ (IntKind.i64.wrap (t8 + 1)) m2 w)) else (R (-1) w))
theorem f126_eq (s : Sl) (v : ByteArray) (w : World) (R : Int → World → Prop) :
  f126 s v w R = dFunc Try.prog ⟨[(2, ⟨[(8, .i .i64)], [0, 1, 7]⟩)], []⟩ Try.f126 [.slice s.a s.len s.cap, .string v] (fun v w' => viewRet [.one (.i .i64)] v R w') w := by kernel_rfl
theorem c126_of {s : Sl} {v : ByteArray} {w : World} {R : Int → World → Prop} (h : f126 s v w R) : c126 s v w R :=
 callK_of okP Try.func126 (by rw [← f126_eq]; exact h)
def f128 (l : Sl) (w : World) (R : Sl → World → Prop) : Prop :=
 ∃ Inv_ : Sl → Int → Nat → World → Prop, (∃ n : Nat, Inv_ ⟨none, 0, 0⟩ 0 n w) ∧ ∀ out : Sl, ∀ t9 : Int, ∀ m : Nat, ∀ w : World, Inv_ out t9 m w → (if (decide (t9 < (l.len : Int))) = true then (Ix l.a l.len t9 1 fun (a : Addr) =>
 Ld (.i .i64) w a fun (n_ : Int) =>
 ∃ J_ : Bool → World → Prop, (if (decide ((IntKind.i64.wrap ((out.len : Int) - 1)) ≥ 0)) = true then (Ix out.a out.len (IntKind.i64.wrap ((out.len : Int) - 1)) 2 fun (a2 : Addr) =>
 Ld (.i .i64) w (a2.add 1) fun (n_2 : Int) =>
 J_ (n_2 == n_) w) else (J_ false w)) ∧ ∀ t26 : Bool, ∀ w : World, J_ t26 w → (if t26 = true then (Ix out.a out.len (IntKind.i64.wrap ((out.len : Int) - 1)) 2 fun (a3 : Addr) =>
 Ld (.i .u64) w a3 fun (many : Int) =>
 Ix out.a out.len (IntKind.i64.wrap ((out.len : Int) - 1)) 2 fun (a4 : Addr) =>
 St a4 (.int .u64 (IntKind.u64.wrap (many + 1))) w fun (w : World) =>
 ∃ m2 : Nat, m2 < m ∧ Inv_ out (IntKind.i64.wrap (t9 + 1)) m2 w) else (Nw (.cells #[.int .u64 1, .int .i64 n_] 196) w fun (b : Addr) (w : World) =>
 Run .sl Try.prog (Builtin.append_ #[193, 193] 193 #[.slice out.a out.len out.cap, .slice (some b) 1 1]) w fun (out2 : Sl) (w : World) =>
 ∃ m2 : Nat, m2 < m ∧ Inv_ out2 (IntKind.i64.wrap (t9 + 1)) m2 w))) else (R out w))
theorem f128_eq (l : Sl) (w : World) (R : Sl → World → Prop) :
  f128 l w R = dFunc Try.prog ⟨[(3, ⟨[(3, .sl), (9, .i .i64)], [7, 8]⟩)], [(7, ⟨[(26, .b)], [3, 5, 6, 7, 8, 9]⟩)]⟩ Try.f128 [.slice l.a l.len l.cap] (fun v w' => viewRet [.one .sl] v R w') w := by kernel_rfl
theorem c128_of {l : Sl} {w : World} {R : Sl → World → Prop} (h : f128 l w R) : c128 l w R :=
 callK_of okP Try.func128 (by rw [← f128_eq]; exact h)
def f129 (l : Sl) (w : World) (R : Sl → Sl → Sl → World → Prop) : Prop :=
 Nw (.cells #[.slice none 0 0, .slice none 0 0, .slice none 0 0] 197) w fun (a : Addr) (w : World) =>
 Nw (.cells #[.int .u8 0] 5) w fun (b : Addr) (w : World) =>
 Nw (.cells #[.int .u8 1] 5) w fun (b2 : Addr) (w : World) =>
 Nw (.cells #[.int .u8 2] 5) w fun (b3 : Addr) (w : World) =>
 ∃ Inv_ : Sl → Sl → Sl → Int → Int → Int → Nat → World → Prop, (∃ n : Nat, Inv_ ⟨some b, 1, 1⟩ ⟨some b2, 1, 1⟩ ⟨none, 0, 0⟩ 0 0 0 n w) ∧ ∀ plain : Sl, ∀ steps : Sl, ∀ each : Sl, ∀ many : Int, ∀ last : Int, ∀ i : Int, ∀ m : Nat, ∀ w : World, Inv_ plain steps each many last i m w → (if (decide (i < (l.len : Int))) = true then (Ix l.a l.len i 1 fun (a2 : Addr) =>
 Ld (.i .i64) w a2 fun (x : Int) =>
 c80 plain x w fun (plain2 : Sl) (w : World) =>
 Ix l.a l.len i 1 fun (a3 : Addr) =>
 Ld (.i .i64) w a3 fun (x2 : Int) =>
 c80 steps (IntKind.i64.wrap (x2 - last)) w fun (steps2 : Sl) (w : World) =>
 Ix l.a l.len i 1 fun (a4 : Addr) =>
 Ld (.i .i64) w a4 fun (last2 : Int) =>
 ∃ J_ : Bool → World → Prop, (Dr w fun (w : World) =>
 if (i == 0) = true then (J_ true w) else (Ix l.a l.len (IntKind.i64.wrap (i - 1)) 1 fun (a5 : Addr) =>
 Ld (.i .i64) w a5 fun (x3 : Int) =>
 Ix l.a l.len i 1 fun (a6 : Addr) =>
 Ld (.i .i64) w a6 fun (x4 : Int) =>
 J_ (x3 != x4) w)) ∧ ∀ t51 : Bool, ∀ w : World, J_ t51 w → (if t51 = true then (∃ J_2 : Int → World → Prop, (∃ Inv_2 : Int → Nat → World → Prop, (∃ n : Nat, Inv_2 1 n w) ∧ ∀ n_ : Int, ∀ m3 : Nat, ∀ w : World, Inv_2 n_ m3 w → (Dr w fun (w : World) =>
 if (decide ((IntKind.i64.wrap (i + n_)) < (l.len : Int))) = true then (Ix l.a l.len (IntKind.i64.wrap (i + n_)) 1 fun (a7 : Addr) =>
 Ld (.i .i64) w a7 fun (x5 : Int) =>
 Ix l.a l.len i 1 fun (a8 : Addr) =>
 Ld (.i .i64) w a8 fun (x6 : Int) =>
 if (x5 == x6) = true then (∃ m4 : Nat, m4 < m3 ∧ Inv_2 (IntKind.i64.wrap (n_ + 1)) m4 w) else (J_2 n_ w)) else (J_2 n_ w))) ∧ ∀ n_2 : Int, ∀ w : World, J_2 n_2 w → (c79 each (IntKind.u64.wrap n_2) w fun (each2 : Sl) (w : World) =>
 Ix l.a l.len i 1 fun (a9 : Addr) =>
 Ld (.i .i64) w a9 fun (x7 : Int) =>
 c80 each2 x7 w fun (each3 : Sl) (w : World) =>
 ∃ m2 : Nat, m2 < m ∧ Inv_ plain2 steps2 each3 (IntKind.i64.wrap (many + 1)) last2 (IntKind.i64.wrap (i + 1)) m2 w)) else (∃ m2 : Nat, m2 < m ∧ Inv_ plain2 steps2 each many last2 (IntKind.i64.wrap (i + 1)) m2 w))) else (c79 ⟨some b3, 1, 1⟩ (IntKind.u64.wrap many) w fun (r : Sl) (w : World) =>
 Run .sl Try.prog (Builtin.append_ #[50, 50] 50 #[.slice r.a r.len r.cap, .slice each.a each.len each.cap]) w fun (runs : Sl) (w : World) =>
 St a (.slice plain.a plain.len plain.cap) w fun (w : World) =>
 St (a.add 1) (.slice steps.a steps.len steps.cap) w fun (w : World) =>
 St (a.add 2) (.slice runs.a runs.len runs.cap) w fun (w : World) =>
 Ld .sl w a fun (r_0 : Sl) => Ld .sl w (a.add 1) fun (r_1 : Sl) => Ld .sl w (a.add 2) fun (r_2 : Sl) =>
 R r_0 r_1 r_2 w))
theorem f129_eq (l : Sl) (w : World) (R : Sl → Sl → Sl → World → Prop) :
  f129 l w R = dFunc Try.prog ⟨[(8, ⟨[(3, .sl), (4, .sl), (6, .sl), (7, .i .i64), (8, .i .i64), (9, .i .i64)], [0, 2, 5]⟩), (15, ⟨[(10, .i .i64)], [0, 2, 3, 4, 5, 6, 7, 8, 9]⟩)], [(14, ⟨[(51, .b)], [0, 2, 3, 4, 5, 6, 7, 8, 9]⟩), (17, ⟨[(10, .i .i64)], [0, 2, 3, 4, 5, 6, 7, 8, 9]⟩)]⟩ Try.f129 [.slice l.a l.len l.cap] (fun v w' => viewRet [.agg [.sl, .sl, .sl]] v R w') w := by kernel_rfl
theorem c129_of {l : Sl} {w : World} {R : Sl → Sl → Sl → World → Prop} (h : f129 l w R) : c129 l w R :=
 callK_of okP Try.func129 (by rw [← f129_eq]; exact h)
end Go.Proofs.Ytcccjgmekakabaa.F
end

section
namespace Go.Den
open Go.RowKit
structure Thing where
 holds : World → List Nat → Prop
 fr : ∀ {S : List Nat} {w w' : World} {O : List Nat}, holds w O → Fr S w w' → (∀ k ∈ O, k ∉ S) → holds w' O
 lt : ∀ {w : World} {O : List Nat}, holds w O → ∀ k ∈ O, k < w.heap.size
 own : Bool := true
def Thing.ro (t : Thing) : Thing := { t with own := false }
structure Hp (S : List Nat) (w0 w : World) (its : List Thing) : Prop where
 fr : Fr S w0 w
 ex : ∃ F : Nat → List Nat, (∀ i t, its[i]? = some t → t.holds w (F i) ∧ (t.own = true → ∀ k ∈ F i, k ∈ S ∨ w0.heap.size ≤ k) ∧ (t.own = false → ∀ k ∈ F i, k ∉ S ∧ k < w0.heap.size)) ∧
  ∀ i j t u, its[i]? = some t → its[j]? = some u → i ≠ j → t.own = true → u.own = true → ∀ k ∈ F i, k ∉ F j
namespace Hp
variable {S : List Nat} {w0 w : World} {its : List Thing}
theorem init (w : World) : Hp S w w [] := ⟨Fr.refl _ _, fun _ => [], by simp, by simp⟩
theorem grow (h : Hp S w0 w its) {w' : World} {t : Thing} {O : List Nat} (hf : Fr [] w w') (ht : t.holds w' O) (hO : ∀ k ∈ O, w.heap.size ≤ k) (ho : t.own = true) : Hp S w0 w' (its ++ [t]) := by
 obtain ⟨hfr, F, h1, h2⟩ := h
 have hs := hfr.size
 have key : ∀ i u, (its ++ [t])[i]? = some u → (i < its.length ∧ its[i]? = some u) ∨ (i = its.length ∧ u = t) := by
  intro i u hi
  by_cases hlt : i < its.length
  ·rw [List.getElem?_append_left hlt] at hi; exact .inl ⟨hlt, hi⟩
  ·rw [List.getElem?_append_right (by omega)] at hi
   have : i - its.length = 0 := by
    rcases Nat.eq_zero_or_pos (i - its.length) with h | h
    ·exact h
    ·rw [List.getElem?_eq_none (by simp; omega)] at hi; cases hi
   rw [this] at hi
   simp only [List.getElem?_cons_zero, Option.some.injEq] at hi
   exact .inr ⟨by omega, hi.symm⟩
 refine ⟨hfr.trans hf (by simp), fun i => if i = its.length then O else F i, ?_, ?_⟩
 ·intro i u hi
  rcases key i u hi with ⟨hlt, hi'⟩ | ⟨rfl, rfl⟩
  ·dsimp only
   rw [if_neg (by omega)]
   obtain ⟨g1, g2, g3⟩ := h1 i u hi'
   exact ⟨u.fr g1 hf (by simp), g2, g3⟩
  ·dsimp only
   rw [if_pos rfl]
   exact ⟨ht, fun _ k hk => .inr (Nat.le_trans hs (hO k hk)), fun h => by rw [ho] at h; cases h⟩
 ·intro i j u v hi hj hne hu hv k hk
  rcases key i u hi with ⟨hlt, hi'⟩ | ⟨rfl, rfl⟩
  ·rcases key j v hj with ⟨hlt', hj'⟩ | ⟨rfl, rfl⟩
   ·simp only [if_neg (show ¬ i = its.length by omega), if_neg (show ¬ j = its.length by omega)] at hk ⊢
    exact h2 i j u v hi' hj' hne hu hv k hk
   ·simp only [if_neg (show ¬ i = its.length by omega), if_true] at hk ⊢
    intro hk'
    have := u.lt (h1 i u hi').1 k hk
    have := hO k hk'
    omega
  ·rcases key j v hj with ⟨hlt', hj'⟩ | ⟨rfl, rfl⟩
   ·simp only [if_neg (show ¬ j = its.length by omega), if_true] at hk ⊢
    intro hk'
    have := v.lt (h1 j v hj').1 k hk'
    have := hO k hk
    omega
   ·exact absurd rfl hne
theorem keep (h : Hp S w0 w its) {w' : World} (hf : Fr [] w w') : Hp S w0 w' its := by
 obtain ⟨hfr, F, h1, h2⟩ := h
 exact ⟨hfr.trans hf (by simp), F, fun i t hi => ⟨t.fr (h1 i t hi).1 hf (by simp), (h1 i t hi).2⟩, h2⟩
theorem step (h : Hp S w0 w its) {i : Nat} {t : Thing} (hi : its[i]? = some t) (ho : t.own = true) :
  ∃ O, t.holds w O ∧ ∀ {w' : World} {t' : Thing} {O' : List Nat}, Fr O w w' → t'.holds w' O' → (∀ k ∈ O', k ∈ O ∨ w.heap.size ≤ k) → t'.own = true → Hp S w0 w' (its.set i t') := by
 obtain ⟨hfr, F, h1, h2⟩ := h
 obtain ⟨g1, g2, g3⟩ := h1 i t hi
 refine ⟨F i, g1, fun {w' t' O'} hf ht' hO' ho' => ?_⟩
 have hlt := (List.getElem?_eq_some_iff.1 hi).1
 have key : ∀ j u, (its.set i t')[j]? = some u → (j ≠ i ∧ its[j]? = some u) ∨ (j = i ∧ u = t') := by
  intro j u hj
  rw [List.getElem?_set] at hj
  split at hj
  ·rename_i e
   simp only [if_pos hlt, Option.some.injEq] at hj
   exact .inr ⟨e.symm, hj.symm⟩
  ·rename_i e; exact .inl ⟨fun h => e h.symm, hj⟩
 have hs := hfr.size
 have apart : ∀ j u, j ≠ i → its[j]? = some u → ∀ k ∈ F j, k ∉ F i := by
  intro j u hne hj k hk hki
  cases huo : u.own with
  | true => exact h2 j i u t hj hi hne huo ho k hk hki
  | false =>
   obtain ⟨_, q2, q3⟩ := h1 j u hj
   have q := q3 huo k hk
   rcases g2 ho k hki with h | h
   ·exact q.1 h
   ·omega
 refine ⟨hfr.trans hf (g2 ho), fun j => if j = i then O' else F j, ?_, ?_⟩
 ·intro j u hj
  rcases key j u hj with ⟨hne, hjj⟩ | ⟨rfl, rfl⟩
  ·dsimp only
   rw [if_neg hne]
   obtain ⟨q1, q2⟩ := h1 j u hjj
   exact ⟨u.fr q1 hf (apart j u hne hjj), q2⟩
  ·dsimp only
   rw [if_pos rfl]
   refine ⟨ht', fun _ k hk => ?_, fun h => by rw [ho'] at h; cases h⟩
   rcases hO' k hk with h | h
   ·exact g2 ho k h
   ·exact .inr (Nat.le_trans hs h)
 ·intro j j' u v hj hj' hne hu hv k hk
  rcases key j u hj with ⟨hn, hjj⟩ | ⟨rfl, rfl⟩
  ·rcases key j' v hj' with ⟨hn', hjj'⟩ | ⟨rfl, rfl⟩
   ·simp only [if_neg hn, if_neg hn'] at hk ⊢
    exact h2 j j' u v hjj hjj' hne hu hv k hk
   ·simp only [if_neg hn, if_true] at hk ⊢
    intro hk'
    rcases hO' k hk' with h | h
    ·exact apart j u hn hjj k hk h
    ·have := u.lt (h1 j u hjj).1 k hk; omega
  ·rcases key j' v hj' with ⟨hn', hjj'⟩ | ⟨rfl, rfl⟩
   ·simp only [if_neg hn', if_true] at hk ⊢
    intro hk'
    rcases hO' k hk with h | h
    ·exact apart j' v hn' hjj' k hk' h
    ·have := v.lt (h1 j' v hjj').1 k hk'; omega
   ·exact absurd rfl hne
theorem see (h : Hp S w0 w its) {i : Nat} {t : Thing} (hi : its[i]? = some t) : ∃ O, t.holds w O := by
 obtain ⟨hfr, F, h1, h2⟩ := h
 exact ⟨_, (h1 i t hi).1⟩
theorem weak (h : Hp S w0 w its) {i : Nat} {t : Thing} (hi : its[i]? = some t) (ho : t.own = true) {t' : Thing} (himp : ∀ w O, t.holds w O → t'.holds w O) (ho' : t'.own = true) : Hp S w0 w (its.set i t') := by
 obtain ⟨O, hO, back⟩ := h.step hi ho
 exact back (Fr.refl _ _) (himp _ _ hO) (fun k hk => .inl hk) ho'
theorem addRo (h : Hp S w0 w its) {t : Thing} {O : List Nat} (ht : t.holds w0 O) (hO : ∀ k ∈ O, k ∉ S) : Hp S w0 w (its ++ [t.ro]) := by
 obtain ⟨hfr, F, h1, h2⟩ := h
 have key : ∀ i u, (its ++ [t.ro])[i]? = some u → (i < its.length ∧ its[i]? = some u) ∨ (i = its.length ∧ u = t.ro) := by
  intro i u hi
  by_cases hlt : i < its.length
  ·rw [List.getElem?_append_left hlt] at hi; exact .inl ⟨hlt, hi⟩
  ·rw [List.getElem?_append_right (by omega)] at hi
   have : i - its.length = 0 := by
    rcases Nat.eq_zero_or_pos (i - its.length) with h | h
    ·exact h
    ·rw [List.getElem?_eq_none (by simp; omega)] at hi; cases hi
   rw [this] at hi
   simp only [List.getElem?_cons_zero, Option.some.injEq] at hi
   exact .inr ⟨by omega, hi.symm⟩
 refine ⟨hfr, fun i => if i = its.length then O else F i, ?_, ?_⟩
 ·intro i u hi
  rcases key i u hi with ⟨hlt, hi'⟩ | ⟨rfl, rfl⟩
  ·dsimp only
   rw [if_neg (by omega)]; exact h1 i u hi'
  ·dsimp only
   rw [if_pos rfl]
   exact ⟨t.fr ht hfr hO, fun h => (by cases h), fun _ k hk => ⟨hO k hk, t.lt ht k hk⟩⟩
 ·intro i j u v hi hj hne hu hv k hk
  rcases key i u hi with ⟨hlt, hi'⟩ | ⟨rfl, rfl⟩
  ·rcases key j v hj with ⟨hlt', hj'⟩ | ⟨rfl, rfl⟩
   ·simp only [if_neg (show ¬ i = its.length by omega), if_neg (show ¬ j = its.length by omega)] at hk ⊢
    exact h2 i j u v hi' hj' hne hu hv k hk
   ·cases hv
  ·cases hu
theorem sel (h : Hp S w0 w its) (js : List Nat) (hnd : js.Nodup) {ts : List Thing} (hl : ts.length = js.length) (hts : ∀ n j : Nat, js[n]? = some j → its[j]? = ts[n]?) : Hp S w0 w ts := by
 obtain ⟨hfr, F, h1, h2⟩ := h
 have key : ∀ (n : Nat) (t : Thing), ts[n]? = some t → ∃ j, js[n]? = some j ∧ its[j]? = some t := by
  intro n t hn
  have hlt := (List.getElem?_eq_some_iff.1 hn).1
  refine ⟨js[n], by simp [show n < js.length by omega], ?_⟩
  rw [hts n js[n] (by simp [show n < js.length by omega]), hn]
 refine ⟨hfr, fun n => F (js.getD n 0), ?_, ?_⟩
 ·intro n t hn
  obtain ⟨j, hj, ht⟩ := key n t hn
  have e : js.getD n 0 = j := by simp [hj]
  simp only [e]
  exact h1 j t ht
 ·intro n m t u hn hm hne ht hu
  obtain ⟨j, hj, hjt⟩ := key n t hn
  obtain ⟨j', hj', hjt'⟩ := key m u hm
  have e : js.getD n 0 = j := by simp [hj]
  have e' : js.getD m 0 = j' := by simp [hj']
  simp only [e, e']
  refine h2 j j' t u hjt hjt' ?_ ht hu
  intro he
  subst he
  exact hne ((List.getElem?_inj (by obtain ⟨h, _⟩ := List.getElem?_eq_some_iff.1 hj; exact h) hnd).1 (hj.trans hj'.symm))
theorem sel1 (h : Hp S w0 w its) (i : Nat) {t : Thing} (hi : its[i]? = some t) : Hp S w0 w [t] :=
 h.sel [i] (by simp) rfl (fun n j hn => by
  match n, hn with
  | 0, hn => simp only [List.getElem?_cons_zero, Option.some.injEq] at hn; subst hn; simpa using hi)
theorem sel2 (h : Hp S w0 w its) (i j : Nat) (hne : i ≠ j) {t u : Thing} (hi : its[i]? = some t) (hj : its[j]? = some u) : Hp S w0 w [t, u] :=
 h.sel [i, j] (by simp [hne]) rfl (fun n m hn => by
  match n, hn with
  | 0, hn => simp only [List.getElem?_cons_zero, Option.some.injEq] at hn; subst hn; simpa using hi
  | 1, hn => simp only [List.getElem?_cons_succ, List.getElem?_cons_zero, Option.some.injEq] at hn; subst hn; simpa using hj)
theorem sel3 (h : Hp S w0 w its) (i j k : Nat) (hne : [i, j, k].Nodup) {t u v : Thing} (hi : its[i]? = some t) (hj : its[j]? = some u) (hk : its[k]? = some v) : Hp S w0 w [t, u, v] :=
 h.sel [i, j, k] hne rfl (fun n m hn => by
  match n, hn with
  | 0, hn => simp only [List.getElem?_cons_zero, Option.some.injEq] at hn; subst hn; simpa using hi
  | 1, hn => simp only [List.getElem?_cons_succ, List.getElem?_cons_zero, Option.some.injEq] at hn; subst hn; simpa using hj
  | 2, hn => simp only [List.getElem?_cons_succ, List.getElem?_cons_zero, Option.some.injEq] at hn; subst hn; simpa using hk)
theorem sel5 (h : Hp S w0 w its) (i j k l m : Nat) (hne : [i, j, k, l, m].Nodup) {t u v x y : Thing} (hi : its[i]? = some t) (hj : its[j]? = some u) (hk : its[k]? = some v) (hl : its[l]? = some x) (hm : its[m]? = some y) : Hp S w0 w [t, u, v, x, y] :=
 h.sel [i, j, k, l, m] hne rfl (fun n m hn => by
  match n, hn with
  | 0, hn => simp only [List.getElem?_cons_zero, Option.some.injEq] at hn; subst hn; simpa using hi
  | 1, hn => simp only [List.getElem?_cons_succ, List.getElem?_cons_zero, Option.some.injEq] at hn; subst hn; simpa using hj
  | 2, hn => simp only [List.getElem?_cons_succ, List.getElem?_cons_zero, Option.some.injEq] at hn; subst hn; simpa using hk
  | 3, hn => simp only [List.getElem?_cons_succ, List.getElem?_cons_zero, Option.some.injEq] at hn; subst hn; simpa using hl
  | 4, hn => simp only [List.getElem?_cons_succ, List.getElem?_cons_zero, Option.some.injEq] at hn; subst hn; simpa using hm)
theorem sel6 (h : Hp S w0 w its) (i j k l m o : Nat) (hne : [i, j, k, l, m, o].Nodup) {t u v x y z : Thing} (hi : its[i]? = some t) (hj : its[j]? = some u) (hk : its[k]? = some v) (hl : its[l]? = some x) (hm : its[m]? = some y) (ho : its[o]? = some z) : Hp S w0 w [t, u, v, x, y, z] :=
 h.sel [i, j, k, l, m, o] hne rfl (fun n m hn => by
  match n, hn with
  | 0, hn => simp only [List.getElem?_cons_zero, Option.some.injEq] at hn; subst hn; simpa using hi
  | 1, hn => simp only [List.getElem?_cons_succ, List.getElem?_cons_zero, Option.some.injEq] at hn; subst hn; simpa using hj
  | 2, hn => simp only [List.getElem?_cons_succ, List.getElem?_cons_zero, Option.some.injEq] at hn; subst hn; simpa using hk
  | 3, hn => simp only [List.getElem?_cons_succ, List.getElem?_cons_zero, Option.some.injEq] at hn; subst hn; simpa using hl
  | 4, hn => simp only [List.getElem?_cons_succ, List.getElem?_cons_zero, Option.some.injEq] at hn; subst hn; simpa using hm
  | 5, hn => simp only [List.getElem?_cons_succ, List.getElem?_cons_zero, Option.some.injEq] at hn; subst hn; simpa using ho)
theorem front {a b : List Thing} (h : Hp S w0 w (a ++ b)) : Hp S w0 w a := by
 obtain ⟨hfr, F, h1, h2⟩ := h
 have key : ∀ (i : Nat) (t : Thing), a[i]? = some t → (a ++ b)[i]? = some t := fun i t hi => by
  rw [List.getElem?_append_left (List.getElem?_eq_some_iff.1 hi).1]; exact hi
 exact ⟨hfr, F, fun i t hi => h1 i t (key i t hi), fun i j t u hi hj => h2 i j t u (key i t hi) (key j u hj)⟩
def setL (its : List Thing) : List Nat → List Thing → List Thing
 | i :: is, t :: ts => setL (its.set i t) is ts
 | _, _ => its
theorem setL_length : ∀ (is : List Nat) (ts its : List Thing), (setL its is ts).length = its.length
 | [], _, _ => by simp [setL]
 | i :: is, [], _ => by simp [setL]
 | i :: is, t :: ts, its => by simp [setL, setL_length is ts]
theorem setL_other : ∀ (is : List Nat) (ts its : List Thing) (j : Nat), j ∉ is → (setL its is ts)[j]? = its[j]?
 | [], _, _, _, _ => by simp [setL]
 | i :: is, [], _, _, _ => by simp [setL]
 | i :: is, t :: ts, its, j, h => by
  simp only [List.mem_cons, not_or] at h
  rw [setL, setL_other is ts _ j h.2, List.getElem?_set_ne (fun e => h.1 e.symm)]
theorem setL_at : ∀ (is : List Nat) (ts its : List Thing) (n j : Nat), is.Nodup → is[n]? = some j → j < its.length → n < ts.length → (setL its is ts)[j]? = ts[n]?
 | [], _, _, _, _, _, h, _, _ => by simp at h
 | i :: is, [], _, n, _, _, _, _, h => by simp at h
 | i :: is, t :: ts, its, n, j, hnd, hn, hj, hl => by
  obtain ⟨h1, h2⟩ := List.nodup_cons.1 hnd
  cases n with
  | zero =>
   simp only [List.getElem?_cons_zero, Option.some.injEq] at hn
   subst hn
   rw [setL, setL_other is ts _ i h1]
   simp [hj]
  | succ n =>
   simp only [List.getElem?_cons_succ] at hn ⊢
   rw [setL]
   exact setL_at is ts _ n j h2 hn (by simpa using hj) (by simpa using hl)
theorem frame (h : Hp S w0 w its) (is js : List Nat) (hnd : is.Nodup) (hdis : ∀ i ∈ is, i ∉ js) {ts us : List Thing} (hl : ts.length = is.length) (hl' : us.length = js.length)
  (hts : ∀ n i : Nat, is[n]? = some i → its[i]? = ts[n]?) (hus : ∀ n i : Nat, js[n]? = some i → its[i]? = us[n]?) (hown : ∀ t ∈ ts, t.own = true) :
  ∃ O, Hp O w w (ts ++ us.map Thing.ro) ∧ ∀ {w' : World} {ts' rest : List Thing}, ts'.length = ts.length → (∀ t ∈ ts', t.own = true) → (∀ t ∈ rest, t.own = true) → Hp O w w' (ts' ++ rest) → Hp S w0 w' (setL its is ts' ++ rest) := by
 obtain ⟨hfr, F, h1, h2⟩ := h
 have hs := hfr.size
 have key : ∀ (n : Nat) (t : Thing), ts[n]? = some t → ∃ j, is[n]? = some j ∧ its[j]? = some t := by
  intro n t hn
  have hlt := (List.getElem?_eq_some_iff.1 hn).1
  refine ⟨is[n], by simp [show n < is.length by omega], ?_⟩
  rw [hts n is[n] (by simp [show n < is.length by omega]), hn]
 have key' : ∀ (n : Nat) (t : Thing), us[n]? = some t → ∃ j, js[n]? = some j ∧ its[j]? = some t := by
  intro n t hn
  have hlt := (List.getElem?_eq_some_iff.1 hn).1
  refine ⟨js[n], by simp [show n < js.length by omega], ?_⟩
  rw [hus n js[n] (by simp [show n < js.length by omega]), hn]
 have hisown : ∀ i ∈ is, ∃ t, its[i]? = some t ∧ t.own = true := by
  intro i hi
  obtain ⟨n, hn⟩ := List.getElem?_of_mem hi
  have hlt := (List.getElem?_eq_some_iff.1 hn).1
  have hnt : ts[n]? = some ts[n] := by simp [show n < ts.length by omega]
  exact ⟨ts[n], (hts n i hn).trans hnt, hown _ (by simp)⟩
 have hO : ∀ k, k ∈ is.flatMap F ↔ ∃ i ∈ is, k ∈ F i := fun k => List.mem_flatMap
 -- who is not among them has other blocks
 have apart : ∀ j u, its[j]? = some u → j ∉ is → ∀ k ∈ F j, k ∉ is.flatMap F := by
  intro j u hj hji k hk hkO
  obtain ⟨i, hi, hki⟩ := (hO k).1 hkO
  obtain ⟨t, ht, hto⟩ := hisown i hi
  have hne : j ≠ i := fun e => hji (e ▸ hi)
  cases huo : u.own with
  | true => exact h2 j i u t hj ht hne huo hto k hk hki
  | false =>
   have q := (h1 j u hj).2.2 huo k hk
   rcases (h1 i t ht).2.1 hto k hki with h | h
   ·exact q.1 h
   ·omega
 refine ⟨is.flatMap F, ⟨Fr.refl _ _, fun n => if n < ts.length then F (is.getD n 0) else F (js.getD (n - ts.length) 0), ?_, ?_⟩, ?_⟩
 ·intro n t hn
  by_cases hlt : n < ts.length
  ·rw [List.getElem?_append_left hlt] at hn
   obtain ⟨j, hj, ht⟩ := key n t hn
   have e : is.getD n 0 = j := by simp [hj]
   simp only [if_pos hlt, e]
   refine ⟨(h1 j t ht).1, fun _ k hk => .inl ((hO k).2 ⟨j, List.mem_of_getElem? hj, hk⟩), fun ho => ?_⟩
   rw [hown t (List.mem_of_getElem? hn)] at ho; cases ho
  ·rw [List.getElem?_append_right (by omega), List.getElem?_map, Option.map_eq_some_iff] at hn
   obtain ⟨u, hu, rfl⟩ := hn
   obtain ⟨j, hj, ht⟩ := key' _ u hu
   have e : js.getD (n - ts.length) 0 = j := by simp [hj]
   simp only [if_neg hlt, e]
   refine ⟨(h1 j u ht).1, fun h => (by cases h), fun _ k hk => ⟨apart j u ht (fun hm => hdis j hm (List.mem_of_getElem? hj)) k hk, u.lt (h1 j u ht).1 k hk⟩⟩
 ·intro n m t u hn hm hne ht hu k hk
  have low : ∀ n t, (ts ++ us.map Thing.ro)[n]? = some t → t.own = true → n < ts.length := by
   intro n t hn ht
   refine Nat.lt_of_not_le fun hge => ?_
   rw [List.getElem?_append_right hge, List.getElem?_map, Option.map_eq_some_iff] at hn
   obtain ⟨u, hu, rfl⟩ := hn
   cases ht
  have ln := low n t hn ht
  have lm := low m u hm hu
  rw [List.getElem?_append_left ln] at hn
  rw [List.getElem?_append_left lm] at hm
  obtain ⟨j, hj, hjt⟩ := key n t hn
  obtain ⟨j', hj', hjt'⟩ := key m u hm
  have e : is.getD n 0 = j := by simp [hj]
  have e' : is.getD m 0 = j' := by simp [hj']
  simp only [if_pos ln, if_pos lm, e, e'] at hk ⊢
  refine h2 j j' t u hjt hjt' ?_ ht hu k hk
  intro he
  subst he
  exact hne ((List.getElem?_inj (by obtain ⟨h, _⟩ := List.getElem?_eq_some_iff.1 hj; exact h) hnd).1 (hj.trans hj'.symm))
 ·intro w' ts' rest hlen hown' hrest hp
  obtain ⟨pfr, G, p1, p2⟩ := hp
  -- the things of the rest of the world
  have hnl : ∀ n, n < ts.length → ∃ j t, is[n]? = some j ∧ ts'[n]? = some t := fun n hn =>
   ⟨is[n], ts'[n], by simp [show n < is.length by omega], by simp [show n < ts'.length by omega]⟩
  let idx : Nat → Nat := fun j => is.idxOf j
  have hidx : ∀ j ∈ is, is[is.idxOf j]? = some j := fun j hj => by
   have := List.idxOf_lt_length_iff.2 hj
   simp [this]
  have hlenL := setL_length is ts' its
  let G' : Nat → List Nat := fun j => if j < its.length then (if j ∈ is then G (is.idxOf j) else F j) else G (ts'.length + (j - its.length))
  have cls : ∀ j u, (setL its is ts' ++ rest)[j]? = some u → (j < its.length ∧ j ∈ is ∧ u.own = true ∧ u.holds w' (G (is.idxOf j)) ∧ (∀ k ∈ G (is.idxOf j), k ∈ is.flatMap F ∨ w.heap.size ≤ k) ∧ (ts' ++ rest)[is.idxOf j]? = some u) ∨
    (j < its.length ∧ j ∉ is ∧ its[j]? = some u) ∨ (its.length ≤ j ∧ u.own = true ∧ (ts' ++ rest)[ts'.length + (j - its.length)]? = some u) := by
   intro j u hj
   by_cases hlt : j < its.length
   ·rw [List.getElem?_append_left (by omega)] at hj
    by_cases hm : j ∈ is
    ·refine .inl ⟨hlt, hm, ?_⟩
     have hi := hidx j hm
     have hil : is.idxOf j < ts'.length := by have := List.idxOf_lt_length_iff.2 hm; omega
     rw [setL_at is ts' its _ j hnd hi hlt hil] at hj
     have hj2 : (ts' ++ rest)[is.idxOf j]? = some u := by
      rw [List.getElem?_append_left hil]; exact hj
     have hu := hown' u (List.mem_of_getElem? hj)
     obtain ⟨q1, q2, _⟩ := p1 _ u hj2
     exact ⟨hu, q1, q2 hu, hj2⟩
    ·rw [setL_other is ts' its j hm] at hj
     exact .inr (.inl ⟨hlt, hm, hj⟩)
   ·rw [List.getElem?_append_right (by omega), hlenL] at hj
    refine .inr (.inr ⟨by omega, hrest u (List.mem_of_getElem? hj), ?_⟩)
    rw [List.getElem?_append_right (by omega), Nat.add_sub_cancel_left]
    exact hj
  have hout : ∀ k, k ∈ is.flatMap F → k ∈ S ∨ w0.heap.size ≤ k := by
   intro k hk
   obtain ⟨i, hi, hki⟩ := (hO k).1 hk
   obtain ⟨t, ht, hto⟩ := hisown i hi
   exact (h1 i t ht).2.1 hto k hki
  refine ⟨hfr.trans pfr hout, G', ?_, ?_⟩
  ·intro j u hj
   rcases cls j u hj with ⟨hlt, hm, hu, q1, q2, _⟩ | ⟨hlt, hm, hj'⟩ | ⟨hge, hu, hj'⟩
   ·have e : G' j = G (is.idxOf j) := by simp only [G', if_pos hlt, if_pos hm]
    rw [e]
    refine ⟨q1, fun _ k hk => ?_, fun h => by rw [hu] at h; cases h⟩
    rcases q2 k hk with h | h
    ·exact hout k h
    ·exact .inr (Nat.le_trans hs h)
   ·have e : G' j = F j := by simp only [G', if_pos hlt, if_neg hm]
    rw [e]
    obtain ⟨q1, q2⟩ := h1 j u hj'
    exact ⟨u.fr q1 pfr (apart j u hj' hm), q2⟩
   ·have e : G' j = G (ts'.length + (j - its.length)) := by simp only [G', if_neg (show ¬ j < its.length by omega)]
    rw [e]
    obtain ⟨q1, q2, _⟩ := p1 _ u hj'
    refine ⟨q1, fun _ k hk => ?_, fun h => by rw [hu] at h; cases h⟩
    rcases q2 hu k hk with h | h
    ·exact hout k h
    ·exact .inr (Nat.le_trans hs h)
  ·intro i j t u hi hj hne ht hu k hk hk'
   rcases cls i t hi with ⟨hlt, hm, hto, q1, q2, q3⟩ | ⟨hlt, hm, hi'⟩ | ⟨hge, hto, hi'⟩
   ·have e : G' i = G (is.idxOf i) := by simp only [G', if_pos hlt, if_pos hm]
    rw [e] at hk
    rcases cls j u hj with ⟨hlt', hm', huo, r1, r2, r3⟩ | ⟨hlt', hm', hj'⟩ | ⟨hge', huo, hj'⟩
    ·have e' : G' j = G (is.idxOf j) := by simp only [G', if_pos hlt', if_pos hm']
     rw [e'] at hk'
     refine p2 _ _ t u q3 r3 ?_ ht hu k hk hk'
     intro he
     have a1 := hidx i hm
     have a2 := hidx j hm'
     rw [he] at a1
     exact hne (Option.some.inj (a1.symm.trans a2))
    ·have e' : G' j = F j := by simp only [G', if_pos hlt', if_neg hm']
     rw [e'] at hk'
     rcases q2 k hk with h | h
     ·exact apart j u hj' hm' k hk' h
     ·have := u.lt (h1 j u hj').1 k hk'; omega
    ·have e' : G' j = G (ts'.length + (j - its.length)) := by simp only [G', if_neg (show ¬ j < its.length by omega)]
     rw [e'] at hk'
     have := List.idxOf_lt_length_iff.2 hm
     exact p2 _ _ t u q3 hj' (by omega) ht hu k hk hk'
   ·have e : G' i = F i := by simp only [G', if_pos hlt, if_neg hm]
    rw [e] at hk
    rcases cls j u hj with ⟨hlt', hm', huo, r1, r2, r3⟩ | ⟨hlt', hm', hj'⟩ | ⟨hge', huo, hj'⟩
    ·have e' : G' j = G (is.idxOf j) := by simp only [G', if_pos hlt', if_pos hm']
     rw [e'] at hk'
     rcases r2 k hk' with h | h
     ·exact apart i t hi' hm k hk h
     ·have := t.lt (h1 i t hi').1 k hk; omega
    ·have e' : G' j = F j := by simp only [G', if_pos hlt', if_neg hm']
     rw [e'] at hk'
     exact h2 i j t u hi' hj' hne ht hu k hk hk'
    ·have e' : G' j = G (ts'.length + (j - its.length)) := by simp only [G', if_neg (show ¬ j < its.length by omega)]
     rw [e'] at hk'
     rcases (p1 _ u hj').2.1 huo k hk' with h | h
     ·exact apart i t hi' hm k hk h
     ·have := t.lt (h1 i t hi').1 k hk; omega
   ·have e : G' i = G (ts'.length + (i - its.length)) := by simp only [G', if_neg (show ¬ i < its.length by omega)]
    rw [e] at hk
    rcases cls j u hj with ⟨hlt', hm', huo, r1, r2, r3⟩ | ⟨hlt', hm', hj'⟩ | ⟨hge', huo, hj'⟩
    ·have e' : G' j = G (is.idxOf j) := by simp only [G', if_pos hlt', if_pos hm']
     rw [e'] at hk'
     have := List.idxOf_lt_length_iff.2 hm'
     exact p2 _ _ t u hi' r3 (by omega) ht hu k hk hk'
    ·have e' : G' j = F j := by simp only [G', if_pos hlt', if_neg hm']
     rw [e'] at hk'
     rcases (p1 _ t hi').2.1 hto k hk with h | h
     ·exact apart j u hj' hm' k hk' h
     ·have := u.lt (h1 j u hj').1 k hk'; omega
    ·have e' : G' j = G (ts'.length + (j - its.length)) := by simp only [G', if_neg (show ¬ j < its.length by omega)]
     rw [e'] at hk'
     exact p2 _ _ t u hi' hj' (by omega) ht hu k hk hk'
end Hp
end Go.Den
end

section
namespace Go.Den
open Go.RowKit
def tBlk (b : Nat) (e : TypeId) (c : List Value) : Thing :=
  { holds := fun w O => Blk w b e c ∧ O = [b]
    fr := fun h hf hn => ⟨h.1.fr hf (hn b (by rw [h.2]; simp)), h.2⟩
    lt := fun h k hk => by rw [h.2] at hk; simp only [List.mem_singleton] at hk; subst hk; exact h.1.lt }
def tSl {α : Type} (s : Sl) (e : TypeId) (n : Nat) (f : α → List Value) (l : List α) : Thing :=
  { holds := fun w O => SlF w s e n f l O
    fr := fun h hf hn => h.fr hf hn
    lt := fun h => h.lt }
def tRd {α : Type} (s : Sl) (n : Nat) (f : α → List Value) (l : List α) : Thing :=
  { holds := fun w O => SlR w s n f l O
    fr := fun h hf hn => h.fr hf hn
    lt := fun h => h.lt }
def tEmp : Thing :=
  { holds := fun w O => O = []
    fr := fun h _ _ => h
    lt := fun h k hk => by rw [h] at hk; cases hk }
def tStar (a b : Thing) : Thing :=
  { holds := fun w O => ∃ O1 O2, a.holds w O1 ∧ b.holds w O2 ∧ (∀ k ∈ O1, k ∉ O2) ∧ ∀ k, k ∈ O ↔ k ∈ O1 ∨ k ∈ O2
    fr := fun ⟨O1, O2, h1, h2, h3, h4⟩ hf hn => ⟨O1, O2, a.fr h1 hf (fun k hk => hn k ((h4 k).2 (.inl hk))), b.fr h2 hf (fun k hk => hn k ((h4 k).2 (.inr hk))), h3, h4⟩
    lt := fun ⟨O1, O2, h1, h2, h3, h4⟩ k hk => ((h4 k).1 hk).elim (a.lt h1 k) (b.lt h2 k) }
def tEx {α : Type} (f : α → Thing) : Thing :=
  { holds := fun w O => ∃ x, (f x).holds w O
    fr := fun ⟨x, h⟩ hf hn => ⟨x, (f x).fr h hf hn⟩
    lt := fun ⟨x, h⟩ => (f x).lt h }
def tAnd (p : Prop) (t : Thing) : Thing :=
  { holds := fun w O => p ∧ t.holds w O
    fr := fun ⟨x, h⟩ hf hn => ⟨x, t.fr h hf hn⟩
    lt := fun ⟨x, h⟩ => t.lt h }
def tAll : List Thing → Thing
 | [] => tEmp
 | t :: ts => tStar t (tAll ts)
theorem tAll_own : ∀ ts : List Thing, (tAll ts).own = true
 | [] => rfl
 | _ :: _ => rfl
def Stamps (L : List Nat) (clock : Nat) : Prop := L.Nodup ∧ ∀ x ∈ L, x < clock
def MapAt (w : World) (b : Nat) (l : List (Value × Value)) : Prop :=
 ∃ es clock, w.heap[b]? = some (.map es clock) ∧ es.toList.map (fun e => (e.key, e.val)) = l ∧ Stamps (es.toList.map (·.born)) clock
def tMap (b : Nat) (l : List (Value × Value)) : Thing :=
  { holds := fun w O => MapAt w b l ∧ O = [b]
    fr := fun {S w w' O} h hf hn => by
      obtain ⟨⟨es, clock, h1, h2⟩, rfl⟩ := h
      exact ⟨⟨es, clock, (hf.block b (Array.getElem?_eq_some_iff.1 h1).1 (hn b (by simp))).trans h1, h2⟩, rfl⟩
    lt := fun {w O} h k hk => by
      obtain ⟨⟨es, clock, h1, h2⟩, rfl⟩ := h
      simp only [List.mem_singleton] at hk
      subst hk
      exact (Array.getElem?_eq_some_iff.1 h1).1 }
theorem tAll_pick : ∀ {ts : List Thing} {k : Nat} {t : Thing} {w : World} {O : List Nat}, ts[k]? = some t → (tAll ts).holds w O →
  ∃ O1 O2, t.holds w O1 ∧ (tAll (ts.set k tEmp)).holds w O2 ∧ (∀ k ∈ O1, k ∉ O2) ∧ ∀ k, k ∈ O ↔ k ∈ O1 ∨ k ∈ O2
 | [], k, t, w, O, hk, h => by simp at hk
 | u :: ts, 0, t, w, O, hk, h => by
  simp only [List.getElem?_cons_zero, Option.some.injEq] at hk
  subst hk
  obtain ⟨O1, O2, h1, h2, h3, h4⟩ := h
  refine ⟨O1, O2, h1, ⟨[], O2, rfl, h2, by simp, by simp⟩, h3, h4⟩
 | u :: ts, k + 1, t, w, O, hk, h => by
  obtain ⟨O1, O2, h1, h2, h3, h4⟩ := h
  obtain ⟨P1, P2, g1, g2, g3, g4⟩ := tAll_pick (k := k) (t := t) (by simpa using hk) h2
  refine ⟨P1, O1 ++ P2, g1, ⟨O1, P2, h1, g2, fun k hk hk' => h3 k hk ((g4 k).2 (.inr hk')), by simp⟩, ?_, ?_⟩
  ·intro k hk hk'
   rcases List.mem_append.1 hk' with h | h
   ·exact h3 k h ((g4 k).2 (.inl hk))
   ·exact g3 k hk h
  ·intro k
   rw [h4, g4, List.mem_append]
   constructor
   ·rintro (h | h | h)
    ·exact .inr (.inl h)
    ·exact .inl h
    ·exact .inr (.inr h)
   ·rintro (h | h | h)
    ·exact .inr (.inl h)
    ·exact .inl h
    ·exact .inr (.inr h)
theorem tAll_put : ∀ {ts : List Thing} {k : Nat} {t : Thing} {w : World} {O1 O2 : List Nat}, ts[k]? = some tEmp → t.holds w O1 → (tAll ts).holds w O2 → (∀ k ∈ O1, k ∉ O2) → (tAll (ts.set k t)).holds w (O1 ++ O2)
 | [], k, t, w, O1, O2, hk, _, _, _ => by simp at hk
 | u :: ts, 0, t, w, O1, O2, hk, h1, h2, h3 => by
  simp only [List.getElem?_cons_zero, Option.some.injEq] at hk
  subst hk
  obtain ⟨P1, P2, g1, g2, g3, g4⟩ := h2
  have g1' : P1 = [] := g1
  subst g1'
  exact ⟨O1, P2, h1, g2, fun k hk hk' => h3 k hk ((g4 k).2 (.inr hk')), fun k => by rw [List.mem_append, g4]; simp⟩
 | u :: ts, k + 1, t, w, O1, O2, hk, h1, h2, h3 => by
  obtain ⟨P1, P2, g1, g2, g3, g4⟩ := h2
  have ih := tAll_put (k := k) (t := t) (by simpa using hk) h1 g2 (fun k hk hk' => h3 k hk ((g4 k).2 (.inr hk')))
  refine ⟨P1, O1 ++ P2, g1, ih, ?_, ?_⟩
  ·intro k hk hk'
   rcases List.mem_append.1 hk' with h | h
   ·exact h3 k h ((g4 k).2 (.inl hk))
   ·exact g3 k hk h
  ·intro k
   rw [List.mem_append, g4, List.mem_append]
   constructor
   ·rintro (h | h | h)
    ·exact .inr (.inl h)
    ·exact .inl h
    ·exact .inr (.inr h)
   ·rintro (h | h | h)
    ·exact .inr (.inl h)
    ·exact .inl h
    ·exact .inr (.inr h)
theorem tAll_append : ∀ {ts us : List Thing} {w : World} {O1 O2 : List Nat}, (tAll ts).holds w O1 → (tAll us).holds w O2 → (∀ k ∈ O1, k ∉ O2) → (tAll (ts ++ us)).holds w (O1 ++ O2)
 | [], us, w, O1, O2, h1, h2, _ => by
  have : O1 = [] := h1
  subst this
  simpa using h2
 | t :: ts, us, w, O1, O2, h1, h2, h3 => by
  obtain ⟨P1, P2, g1, g2, g3, g4⟩ := h1
  refine ⟨P1, P2 ++ O2, g1, tAll_append g2 h2 (fun k hk => h3 k ((g4 k).2 (.inr hk))), ?_, ?_⟩
  ·intro k hk hk'
   rcases List.mem_append.1 hk' with h | h
   ·exact g3 k hk h
   ·exact h3 k ((g4 k).2 (.inl hk)) h
  ·intro k
   rw [List.mem_append, g4, List.mem_append]
   exact or_assoc
namespace Hp
variable {S : List Nat} {w0 w : World} {its : List Thing}
theorem at_ {t : Thing} {i : Nat} (hi : (its[i]?).map Thing.holds = some t.holds) : ∃ u, its[i]? = some u ∧ u.holds = t.holds := by
 rw [Option.map_eq_some_iff] at hi
 exact hi
theorem see' (h : Hp S w0 w its) {t : Thing} {i : Nat} (hi : (its[i]?).map Thing.holds = some t.holds) : ∃ O, t.holds w O := by
 obtain ⟨u, h1, h2⟩ := at_ hi
 obtain ⟨O, hO⟩ := h.see h1
 exact ⟨O, by rw [← h2]; exact hO⟩
theorem split (h : Hp S w0 w its) {i : Nat} {a b : Thing} (hi : its[i]? = some (tStar a b)) (ha : a.own = true) (hb : b.own = true) : Hp S w0 w (its.set i a ++ [b]) := by
 obtain ⟨hfr, F, h1, h2⟩ := h
 have hlt := (List.getElem?_eq_some_iff.1 hi).1
 obtain ⟨⟨O1, O2, g1, g2, g3, g4⟩, q1, _⟩ := h1 i _ hi
 have q2 : ∀ k ∈ F i, k ∈ S ∨ w0.heap.size ≤ k := q1 rfl
 clear q1
 have key : ∀ (j : Nat) (u : Thing), (its.set i a ++ [b])[j]? = some u → (j < its.length ∧ j ≠ i ∧ its[j]? = some u) ∨ (j = i ∧ u = a) ∨ (j = its.length ∧ u = b) := by
  intro j u hj
  by_cases hl : j < its.length
  ·rw [List.getElem?_append_left (by simpa using hl), List.getElem?_set] at hj
   split at hj
   ·rename_i e; simp only [if_pos hlt, Option.some.injEq] at hj; exact .inr (.inl ⟨e.symm, hj.symm⟩)
   ·rename_i e; exact .inl ⟨hl, fun h => e h.symm, hj⟩
  ·rw [List.getElem?_append_right (by simp; omega)] at hj
   have : j - (its.set i a).length = 0 := by
    rcases Nat.eq_zero_or_pos (j - (its.set i a).length) with h | h
    ·exact h
    ·rw [List.getElem?_eq_none (by simp only [List.length_singleton]; omega)] at hj; cases hj
   rw [this] at hj
   simp only [List.getElem?_cons_zero, Option.some.injEq] at hj
   simp only [List.length_set] at this
   exact .inr (.inr ⟨by omega, hj.symm⟩)
 let F' : Nat → List Nat := fun j => if j = its.length then O2 else if j = i then O1 else F j
 have e0 : ∀ j, j < its.length → j ≠ i → F' j = F j := fun j h1 h2 => by simp only [F', if_neg (show ¬ j = its.length by omega), if_neg h2]
 have e1 : F' i = O1 := by simp only [F', if_neg (show ¬ i = its.length by omega), if_true]
 have e2 : F' its.length = O2 := by simp only [F', if_true]
 have apart : ∀ j u, j ≠ i → its[j]? = some u → u.own = true → ∀ k ∈ F j, k ∉ F i := fun j u hne hj huo => h2 j i u _ hj hi hne huo rfl
 refine ⟨hfr, F', ?_, ?_⟩
 ·intro j u hj
  rcases key j u hj with ⟨hl, hne, hj'⟩ | ⟨rfl, rfl⟩ | ⟨rfl, rfl⟩
  ·rw [e0 j hl hne]; exact h1 j u hj'
  ·rw [e1]; exact ⟨g1, fun _ k hk => q2 k ((g4 k).2 (.inl hk)), fun h => by rw [ha] at h; cases h⟩
  ·rw [e2]; exact ⟨g2, fun _ k hk => q2 k ((g4 k).2 (.inr hk)), fun h => by rw [hb] at h; cases h⟩
 ·intro j j' u v hj hj' hne hu hv k hk hk'
  rcases key j u hj with ⟨hl, hn, hjj⟩ | ⟨rfl, rfl⟩ | ⟨rfl, rfl⟩
  ·rw [e0 j hl hn] at hk
   rcases key j' v hj' with ⟨hl', hn', hjj'⟩ | ⟨rfl, rfl⟩ | ⟨rfl, rfl⟩
   ·rw [e0 j' hl' hn'] at hk'; exact h2 j j' u v hjj hjj' hne hu hv k hk hk'
   ·rw [e1] at hk'; exact apart j u hn hjj hu k hk ((g4 k).2 (.inl hk'))
   ·rw [e2] at hk'; exact apart j u hn hjj hu k hk ((g4 k).2 (.inr hk'))
  ·rw [e1] at hk
   rcases key j' v hj' with ⟨hl', hn', hjj'⟩ | ⟨rfl, rfl⟩ | ⟨rfl, rfl⟩
   ·rw [e0 j' hl' hn'] at hk'; exact apart j' v hn' hjj' hv k hk' ((g4 k).2 (.inl hk))
   ·exact absurd rfl hne
   ·rw [e2] at hk'; exact g3 k hk hk'
  ·rw [e2] at hk
   rcases key j' v hj' with ⟨hl', hn', hjj'⟩ | ⟨rfl, rfl⟩ | ⟨rfl, rfl⟩
   ·rw [e0 j' hl' hn'] at hk'; exact apart j' v hn' hjj' hv k hk' ((g4 k).2 (.inr hk))
   ·rw [e1] at hk'; exact g3 k hk' hk
   ·exact absurd rfl hne
theorem join (h : Hp S w0 w its) {i j : Nat} (hne : i ≠ j) {a b c : Thing} (hi : its[i]? = some a) (hj : its[j]? = some b) (ha : a.own = true) (hb : b.own = true) (hc : c.own = true)
  (himp : ∀ w O1 O2, a.holds w O1 → b.holds w O2 → (∀ k ∈ O1, k ∉ O2) → c.holds w (O1 ++ O2)) : Hp S w0 w ((its.set i c).set j tEmp) := by
 obtain ⟨hfr, F, h1, h2⟩ := h
 have hlt := (List.getElem?_eq_some_iff.1 hi).1
 have hlt' := (List.getElem?_eq_some_iff.1 hj).1
 have key : ∀ (n : Nat) (u : Thing), ((its.set i c).set j tEmp)[n]? = some u → (n ≠ i ∧ n ≠ j ∧ its[n]? = some u) ∨ (n = i ∧ u = c) ∨ (n = j ∧ u = tEmp) := by
  intro n u hn
  rw [List.getElem?_set] at hn
  split at hn
  ·rename_i e
   simp only [List.length_set, if_pos hlt', Option.some.injEq] at hn
   exact .inr (.inr ⟨e.symm, hn.symm⟩)
  ·rename_i e
   rw [List.getElem?_set] at hn
   split at hn
   ·rename_i e'
    simp only [if_pos hlt, Option.some.injEq] at hn
    exact .inr (.inl ⟨e'.symm, hn.symm⟩)
   ·rename_i e'
    exact .inl ⟨fun h => e' h.symm, fun h => e h.symm, hn⟩
 obtain ⟨a1, a2, _⟩ := h1 i a hi
 obtain ⟨b1, b2, _⟩ := h1 j b hj
 let F' : Nat → List Nat := fun n => if n = i then F i ++ F j else if n = j then [] else F n
 have e0 : ∀ n, n ≠ i → n ≠ j → F' n = F n := fun n h1 h2 => by simp only [F', if_neg h1, if_neg h2]
 have e1 : F' i = F i ++ F j := by simp only [F', if_true]
 have e2 : F' j = [] := by simp only [F', if_neg hne.symm, if_true]
 have dis : ∀ k ∈ F i, k ∉ F j := h2 i j a b hi hj hne ha hb
 refine ⟨hfr, F', ?_, ?_⟩
 ·intro n u hn
  rcases key n u hn with ⟨q1, q2, hn'⟩ | ⟨rfl, rfl⟩ | ⟨rfl, rfl⟩
  ·rw [e0 n q1 q2]; exact h1 n u hn'
  ·rw [e1]
   refine ⟨himp w _ _ a1 b1 dis, fun _ k hk => ?_, fun h => by rw [hc] at h; cases h⟩
   rcases List.mem_append.1 hk with hk | hk
   ·exact a2 ha k hk
   ·exact b2 hb k hk
  ·rw [e2]; exact ⟨rfl, by simp, by simp⟩
 ·intro n m u v hn hm hnm hu hv k hk hk'
  rcases key n u hn with ⟨q1, q2, hn'⟩ | ⟨rfl, rfl⟩ | ⟨rfl, rfl⟩
  ·rw [e0 n q1 q2] at hk
   rcases key m v hm with ⟨r1, r2, hm'⟩ | ⟨rfl, rfl⟩ | ⟨rfl, rfl⟩
   ·rw [e0 m r1 r2] at hk'; exact h2 n m u v hn' hm' hnm hu hv k hk hk'
   ·rw [e1] at hk'
    rcases List.mem_append.1 hk' with hk' | hk'
    ·exact h2 n _ u a hn' hi q1 hu ha k hk hk'
    ·exact h2 n _ u b hn' hj q2 hu hb k hk hk'
   ·rw [e2] at hk'; cases hk'
  ·rw [e1] at hk
   rcases key m v hm with ⟨r1, r2, hm'⟩ | ⟨rfl, rfl⟩ | ⟨rfl, rfl⟩
   ·rw [e0 m r1 r2] at hk'
    rcases List.mem_append.1 hk with hk | hk
    ·exact h2 m _ v a hm' hi r1 hv ha k hk' hk
    ·exact h2 m _ v b hm' hj r2 hv hb k hk' hk
   ·exact absurd rfl hnm
   ·rw [e2] at hk'; cases hk'
  ·rw [e2] at hk; cases hk
theorem joinStar (h : Hp S w0 w its) {i j : Nat} (hne : i ≠ j) {a b : Thing} (hi : its[i]? = some a) (hj : its[j]? = some b) (ha : a.own = true) (hb : b.own = true) : Hp S w0 w ((its.set i (tStar a b)).set j tEmp) :=
 h.join hne hi hj ha hb rfl fun w O1 O2 h1 h2 h3 => ⟨O1, O2, h1, h2, h3, by simp⟩
theorem openEx (h : Hp S w0 w its) {i : Nat} {α : Type} {f : α → Thing} (hi : its[i]? = some (tEx f)) (ho : ∀ x, (f x).own = true) : ∃ x, Hp S w0 w (its.set i (f x)) := by
 obtain ⟨O, ⟨x, hO⟩, back⟩ := h.step hi rfl
 exact ⟨x, back (Fr.refl _ _) hO (fun k hk => .inl hk) (ho x)⟩
theorem openAnd (h : Hp S w0 w its) {i : Nat} {p : Prop} {t : Thing} (hi : its[i]? = some (tAnd p t)) (ho : t.own = true) : p ∧ Hp S w0 w (its.set i t) := by
 obtain ⟨O, ⟨x, hO⟩, back⟩ := h.step hi rfl
 exact ⟨x, back (Fr.refl _ _) hO (fun k hk => .inl hk) ho⟩
theorem putEx (h : Hp S w0 w its) {i : Nat} {α : Type} {f : α → Thing} (x : α) (hi : its[i]? = some (f x)) (ho : (f x).own = true) : Hp S w0 w (its.set i (tEx f)) :=
 h.weak hi ho (fun w O h => ⟨x, h⟩) rfl
theorem putAnd (h : Hp S w0 w its) {i : Nat} {p : Prop} {t : Thing} (hp : p) (hi : its[i]? = some t) (ho : t.own = true) : Hp S w0 w (its.set i (tAnd p t)) :=
 h.weak hi ho (fun w O h => ⟨hp, h⟩) rfl
theorem pick (h : Hp S w0 w its) {i k : Nat} {ts : List Thing} {t : Thing} (hi : its[i]? = some (tAll ts)) (hk : ts[k]? = some t) (ho : t.own = true) : Hp S w0 w (its.set i (tAll (ts.set k tEmp)) ++ [t]) := by
 have h1 := h.weak (t' := tStar (tAll (ts.set k tEmp)) t) hi (tAll_own ts) (fun w O hO => by
  obtain ⟨O1, O2, g1, g2, g3, g4⟩ := tAll_pick hk hO
  exact ⟨O2, O1, g2, g1, fun k hk hk' => g3 k hk' hk, fun k => by rw [g4]; exact or_comm⟩) rfl
 have hlt := (List.getElem?_eq_some_iff.1 hi).1
 have h2 := h1.split (i := i) (a := tAll (ts.set k tEmp)) (b := t) (by simp [hlt]) (tAll_own _) ho
 simpa using h2
theorem unpick (h : Hp S w0 w its) {i j k : Nat} (hne : i ≠ j) {ts : List Thing} {t : Thing} (hi : its[i]? = some (tAll ts)) (hj : its[j]? = some t) (hk : ts[k]? = some tEmp) (ho : t.own = true) :
  Hp S w0 w ((its.set i (tAll (ts.set k t))).set j tEmp) :=
 h.join hne hi hj (tAll_own _) ho (tAll_own _) fun w O1 O2 h1 h2 h3 => by
  have := tAll_put hk h2 h1 (fun k hk hk' => h3 k hk' hk)
  refine (tAll_mem _ this ?_)
  intro k
  simp [or_comm]
where
 tAll_mem (ts : List Thing) {w : World} {O O' : List Nat} (h : (tAll ts).holds w O) (he : ∀ k, k ∈ O ↔ k ∈ O') : (tAll ts).holds w O' := by
  cases ts with
  | nil =>
   have : O = [] := h
   subst this
   show O' = []
   apply List.eq_nil_iff_forall_not_mem.2
   intro k hk
   exact absurd ((he k).2 hk) (by simp)
  | cons t ts =>
   obtain ⟨O1, O2, h1, h2, h3, h4⟩ := h
   exact ⟨O1, O2, h1, h2, h3, fun k => by rw [← he]; exact h4 k⟩
end Hp
end Go.Den
end
