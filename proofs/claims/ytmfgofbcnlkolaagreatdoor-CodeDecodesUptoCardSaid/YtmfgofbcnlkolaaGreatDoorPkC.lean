/-
  Part 3 of the proof: CodeDecodes is true of the given program where what it reads is of bulk at most 1048576: its row, and the card tied to the program's text.
-/
import Derived.Test.YtmfgofbcnlkolaaGreatDoorPkB
import Derived.Test.YtmfgofbcnlkolaaGreatDoorProg
set_option linter.unusedSimpArgs false
set_option linter.unusedVariables false
set_option maxRecDepth 100000
section
namespace Go.Proofs.YtmfgofbcnlkolaaGreatDoor.F
open Go Go.Den Go.Proofs
theorem okP : OkP Tryz.prog := ⟨by kernel_rfl, by kernel_rfl⟩
def c3 (op : Int) (name : ByteArray) (i_Op i_A : Int) (funcs : Sl) (w : World) (R : Bool → World → Prop) : Prop :=
 CallK Tryz.prog 3 [.int .i64 op, .string name, .agg #[.int .i64 i_Op, .int .i64 i_A], .slice funcs.a funcs.len funcs.cap] [.one .b] w R
def c4 (b : Sl) (w : World) (R : Bool → World → Prop) : Prop :=
 CallK Tryz.prog 4 [.slice b.a b.len b.cap] [.one .b] w R
def c5 (p_Systems p_Funcs : Sl) (w : World) (R : Bool → World → Prop) : Prop :=
 CallK Tryz.prog 5 [.agg #[.slice p_Systems.a p_Systems.len p_Systems.cap, .slice p_Funcs.a p_Funcs.len p_Funcs.cap]] [.one .b] w R
def c6 (r_Name : ByteArray) (r_Params r_Locals : Int) (r_Code : Sl) (s : ByteArray) (w : World) (R : Bool → World → Prop) : Prop :=
 CallK Tryz.prog 6 [.agg #[.string r_Name, .int .i64 r_Params, .int .i64 r_Locals, .slice r_Code.a r_Code.len r_Code.cap], .string s] [.one .b] w R
def c7 (p_Systems p_Funcs : Sl) (r_Name : ByteArray) (r_Params r_Locals : Int) (r_Code b : Sl) (s : ByteArray) (w : World) (R : Bool → World → Prop) : Prop :=
 CallK Tryz.prog 7 [.agg #[.slice p_Systems.a p_Systems.len p_Systems.cap, .slice p_Funcs.a p_Funcs.len p_Funcs.cap], .agg #[.string r_Name, .int .i64 r_Params, .int .i64 r_Locals, .slice r_Code.a r_Code.len r_Code.cap], .slice b.a b.len b.cap, .string s] [.one .b] w R
def c8 (w : World) (R : Bool → World → Prop) : Prop :=
 CallK Tryz.prog 8 [] [.one .b] w R
def c9 (i_Op i_A : Int) (funcs : Sl) (w : World) (R : Int → Int → World → Prop) : Prop :=
 CallK Tryz.prog 9 [.agg #[.int .i64 i_Op, .int .i64 i_A], .slice funcs.a funcs.len funcs.cap] [.one (.i .i64), .one (.i .i64)] w R
def c10 (i_Op i_A : Int) (funcs : Sl) (w : World) (R : Int → Int → World → Prop) : Prop :=
 CallK Tryz.prog 10 [.agg #[.int .i64 i_Op, .int .i64 i_A], .slice funcs.a funcs.len funcs.cap] [.one (.i .i64), .one (.i .i64)] w R
def c11 (op : Int) (w : World) (R : ByteArray → World → Prop) : Prop :=
 CallK Tryz.prog 11 [.int .i64 op] [.one .s] w R
def c12 (op : Int) (w : World) (R : ByteArray → World → Prop) : Prop :=
 CallK Tryz.prog 12 [.int .i64 op] [.one .s] w R
def c13 (name : ByteArray) (w : World) (R : Int → World → Prop) : Prop :=
 CallK Tryz.prog 13 [.string name] [.one (.i .i64)] w R
def c14 (name : ByteArray) (w : World) (R : Int → World → Prop) : Prop :=
 CallK Tryz.prog 14 [.string name] [.one (.i .i64)] w R
def c15 (b : Sl) (w : World) (R : Sl → Sl → Value → World → Prop) : Prop :=
 CallK Tryz.prog 15 [.slice b.a b.len b.cap] [.agg [.sl, .sl], .one .v] w R
def c16 (e : Value) (w : World) (R : Int → Int → Bool → World → Prop) : Prop :=
 CallK Tryz.prog 16 [e] [.one (.i .i64), .one (.i .i64), .one .b] w R
def c17 (b : Sl) (w : World) (R : Sl → Sl → Int → Int → World → Prop) : Prop :=
 CallK Tryz.prog 17 [.slice b.a b.len b.cap] [.agg [.sl, .sl], .one (.i .i64), .one (.i .i64)] w R
def c18 (a_Systems a_Funcs : Sl) (b_Systems b_Funcs : Sl) (w : World) (R : Bool → World → Prop) : Prop :=
 CallK Tryz.prog 18 [.agg #[.slice a_Systems.a a_Systems.len a_Systems.cap, .slice a_Funcs.a a_Funcs.len a_Funcs.cap], .agg #[.slice b_Systems.a b_Systems.len b_Systems.cap, .slice b_Funcs.a b_Funcs.len b_Funcs.cap]] [.one .b] w R
def c19 (p_Systems p_Funcs : Sl) (w : World) (R : Bool → World → Prop) : Prop :=
 CallK Tryz.prog 19 [.agg #[.slice p_Systems.a p_Systems.len p_Systems.cap, .slice p_Funcs.a p_Funcs.len p_Funcs.cap]] [.one .b] w R
def c20 (r_Name : ByteArray) (r_Params r_Locals : Int) (r_Code : Sl) (w : World) (R : ByteArray → Int → Int → Sl → Sl → World → Prop) : Prop :=
 CallK Tryz.prog 20 [.agg #[.string r_Name, .int .i64 r_Params, .int .i64 r_Locals, .slice r_Code.a r_Code.len r_Code.cap]] [.agg [.s, .i .i64, .i .i64, .sl], .one .sl] w R
def c21 (l all : Sl) (w : World) (R : Sl → Sl → World → Prop) : Prop :=
 CallK Tryz.prog 21 [.slice l.a l.len l.cap, .slice all.a all.len all.cap] [.one .sl, .one .sl] w R
def c22 (p_Systems p_Funcs : Sl) (w : World) (R : Sl → Int → World → Prop) : Prop :=
 CallK Tryz.prog 22 [.agg #[.slice p_Systems.a p_Systems.len p_Systems.cap, .slice p_Funcs.a p_Funcs.len p_Funcs.cap]] [.one .sl, .one (.i .i64)] w R
def c23 (p_Systems p_Funcs : Sl) (w : World) (R : Sl → Int → World → Prop) : Prop :=
 CallK Tryz.prog 23 [.agg #[.slice p_Systems.a p_Systems.len p_Systems.cap, .slice p_Funcs.a p_Funcs.len p_Funcs.cap]] [.one .sl, .one (.i .i64)] w R
def c24 (l : Sl) (r_Name : ByteArray) (r_Params r_Locals : Int) (r_Code : Sl) (w : World) (R : Bool → World → Prop) : Prop :=
 CallK Tryz.prog 24 [.slice l.a l.len l.cap, .agg #[.string r_Name, .int .i64 r_Params, .int .i64 r_Locals, .slice r_Code.a r_Code.len r_Code.cap]] [.one .b] w R
def c25 (r_Name : ByteArray) (r_Params r_Locals : Int) (r_Code : Sl) (w : World) (R : ByteArray → World → Prop) : Prop :=
 CallK Tryz.prog 25 [.agg #[.string r_Name, .int .i64 r_Params, .int .i64 r_Locals, .slice r_Code.a r_Code.len r_Code.cap]] [.one .s] w R
def c26 (r_Name : ByteArray) (r_Params r_Locals : Int) (r_Code : Sl) (w : World) (R : ByteArray → World → Prop) : Prop :=
 CallK Tryz.prog 26 [.agg #[.string r_Name, .int .i64 r_Params, .int .i64 r_Locals, .slice r_Code.a r_Code.len r_Code.cap]] [.one .s] w R
def c27 (s : ByteArray) (w : World) (R : ByteArray → Int → Int → Sl → Value → World → Prop) : Prop :=
 CallK Tryz.prog 27 [.string s] [.agg [.s, .i .i64, .i .i64, .sl], .one .v] w R
def c28 (s : ByteArray) (w : World) (R : ByteArray → Int → Int → Sl → Int → Int → World → Prop) : Prop :=
 CallK Tryz.prog 28 [.string s] [.agg [.s, .i .i64, .i .i64, .sl], .one (.i .i64), .one (.i .i64)] w R
def c29 (a_Name : ByteArray) (a_Params a_Locals : Int) (a_Code : Sl) (b_Name : ByteArray) (b_Params b_Locals : Int) (b_Code : Sl) (w : World) (R : Bool → World → Prop) : Prop :=
 CallK Tryz.prog 29 [.agg #[.string a_Name, .int .i64 a_Params, .int .i64 a_Locals, .slice a_Code.a a_Code.len a_Code.cap], .agg #[.string b_Name, .int .i64 b_Params, .int .i64 b_Locals, .slice b_Code.a b_Code.len b_Code.cap]] [.one .b] w R
def c30 (l : Sl) (w : World) (R : Bool → World → Prop) : Prop :=
 CallK Tryz.prog 30 [.slice l.a l.len l.cap] [.one .b] w R
def c31 (op : Int) (w : World) (R : Bool → World → Prop) : Prop :=
 CallK Tryz.prog 31 [.int .i64 op] [.one .b] w R
def c32 (op : Int) (w : World) (R : ByteArray → Bool → Int → Int → Int → World → Prop) : Prop :=
 CallK Tryz.prog 32 [.int .i64 op] [.agg [.s, .b, .i .i64, .i .i64, .i .i64]] w R
def c33 (op : Int) (w : World) (R : Bool → World → Prop) : Prop :=
 CallK Tryz.prog 33 [.int .i64 op] [.one .b] w R
def c34 (w : World) (R : Sl → World → Prop) : Prop :=
 CallK Tryz.prog 34 [] [.one .sl] w R
def c37 (r : Option Addr) (w : World) (R : Sl → Sl → World → Prop) (E : List PanicEntry → World → Prop) : Prop :=
 CallP Tryz.prog 37 [.pointer r] [.agg [.sl, .sl]] w R E
def c38 (r : Option Addr) (least most : Int) (w : World) (R : Int → World → Prop) : Prop :=
 CallK Tryz.prog 38 [.pointer r, .int .i64 least, .int .i64 most] [.one (.i .i64)] w R
def c39 (r : Option Addr) (w : World) (R : Sl → World → Prop) : Prop :=
 CallK Tryz.prog 39 [.pointer r] [.one .sl] w R
def c40 (r : Option Addr) (w : World) (R : ByteArray → Int → Int → Sl → World → Prop) : Prop :=
 CallK Tryz.prog 40 [.pointer r] [.agg [.s, .i .i64, .i .i64, .sl]] w R
def c41 (a b : Sl) (w : World) (R : Bool → World → Prop) : Prop :=
 CallK Tryz.prog 41 [.slice a.a a.len a.cap, .slice b.a b.len b.cap] [.one .b] w R
def c42 (l : Sl) (w : World) (R : Bool → World → Prop) : Prop :=
 CallK Tryz.prog 42 [.slice l.a l.len l.cap] [.one .b] w R
def c43 (p_Systems p_Funcs : Sl) (w : World) (R : Bool → World → Prop) : Prop :=
 CallK Tryz.prog 43 [.agg #[.slice p_Systems.a p_Systems.len p_Systems.cap, .slice p_Funcs.a p_Funcs.len p_Funcs.cap]] [.one .b] w R
def c44 (b : Sl) (n_ : Int) (w : World) (R : Sl → World → Prop) : Prop :=
 CallK Tryz.prog 44 [.slice b.a b.len b.cap, .int .i64 n_] [.one .sl] w R
def c45 (s : Option Addr) (w : World) (R : Option Addr → Option Addr → Option Addr → Option Addr → World → Prop) : Prop :=
 CallK Tryz.prog 45 [.pointer s] [.agg [.p, .p, .p, .p]] w R
def c46 (b : Sl) (r_Name : ByteArray) (r_Params r_Locals : Int) (r_Code : Sl) (w : World) (R : Sl → World → Prop) : Prop :=
 CallK Tryz.prog 46 [.slice b.a b.len b.cap, .agg #[.string r_Name, .int .i64 r_Params, .int .i64 r_Locals, .slice r_Code.a r_Code.len r_Code.cap]] [.one .sl] w R
def c51 (name : ByteArray) (w : World) (R : Bool → World → Prop) : Prop :=
 CallK Tryz.prog 51 [.string name] [.one .b] w R
def c52 (r_Name : ByteArray) (r_Params r_Locals : Int) (r_Code : Sl) (left : Option Addr) (w : World) (R : Bool → World → Prop) : Prop :=
 CallK Tryz.prog 52 [.agg #[.string r_Name, .int .i64 r_Params, .int .i64 r_Locals, .slice r_Code.a r_Code.len r_Code.cap], .pointer left] [.one .b] w R
def c53 (b : Option Addr) (s : ByteArray) (w : World) (R : Int → Value → World → Prop) : Prop :=
 CallK Tryz.prog 53 [.pointer b, .string s] [.one (.i .i64), .one .v] w R
def c54 (i : Int) (w : World) (R : ByteArray → World → Prop) : Prop :=
 CallK Tryz.prog 54 [.int .i64 i] [.one .s] w R
def c55 (i_Op i_A : Int) (w : World) (R : ByteArray → World → Prop) : Prop :=
 CallK Tryz.prog 55 [.agg #[.int .i64 i_Op, .int .i64 i_A]] [.one .s] w R
def c56 (b : Option Addr) (w : World) (R : ByteArray → World → Prop) : Prop :=
 CallK Tryz.prog 56 [.pointer b] [.one .s] w R
def c59 (op : Int) (w : World) (R : Bool → World → Prop) : Prop :=
 CallK Tryz.prog 59 [.int .i64 op] [.one .b] w R
def c60 (s sep : ByteArray) (w : World) (R : ByteArray → ByteArray → Bool → World → Prop) : Prop :=
 CallK Tryz.prog 60 [.string s, .string sep] [.one .s, .one .s, .one .b] w R
def c61 (s : ByteArray) (w : World) (R : ByteArray → Int → Int → Sl → Bool → World → Prop) : Prop :=
 CallK Tryz.prog 61 [.string s] [.agg [.s, .i .i64, .i .i64, .sl], .one .b] w R
def c62 (s : ByteArray) (w : World) (R : Int → Int → Bool → World → Prop) : Prop :=
 CallK Tryz.prog 62 [.string s] [.agg [.i .i64, .i .i64], .one .b] w R
def c65 (a b : Sl) (w : World) (R : Bool → World → Prop) : Prop :=
 CallK Tryz.prog 65 [.slice a.a a.len a.cap, .slice b.a b.len b.cap] [.one .b] w R
def c66 (op : Int) (w : World) (R : ByteArray → Bool → Int → Int → Int → World → Prop) : Prop :=
 CallK Tryz.prog 66 [.int .i64 op] [.agg [.s, .b, .i .i64, .i .i64, .i .i64]] w R
def c67 (op : Int) (w : World) (R : ByteArray → Bool → Int → Int → Int → World → Prop) : Prop :=
 CallK Tryz.prog 67 [.int .i64 op] [.agg [.s, .b, .i .i64, .i .i64, .i .i64]] w R
def c68 (r : Option Addr) (least most : Int) (w : World) (R : Int → World → Prop) (E : List PanicEntry → World → Prop) : Prop :=
 CallP Tryz.prog 68 [.pointer r, .int .i64 least, .int .i64 most] [.one (.i .i64)] w R E
def c69 (r : Option Addr) (w : World) (R : Sl → World → Prop) (E : List PanicEntry → World → Prop) : Prop :=
 CallP Tryz.prog 69 [.pointer r] [.one .sl] w R E
def c70 (r : Option Addr) (w : World) (R : ByteArray → Int → Int → Sl → World → Prop) (E : List PanicEntry → World → Prop) : Prop :=
 CallP Tryz.prog 70 [.pointer r] [.agg [.s, .i .i64, .i .i64, .sl]] w R E
def c71 (at_ : Int) (w : World) (R : World → Prop) (E : List PanicEntry → World → Prop) : Prop :=
 CallP Tryz.prog 71 [.int .i64 at_] [] w R E
def c72 (b : Sl) (w : World) (R : Int → Int → World → Prop) : Prop :=
 CallK Tryz.prog 72 [.slice b.a b.len b.cap] [.one (.i .u64), .one (.i .i64)] w R
def c73 (b : Sl) (w : World) (R : ByteArray → Int → World → Prop) : Prop :=
 CallK Tryz.prog 73 [.slice b.a b.len b.cap] [.one .s, .one (.i .i64)] w R
def c74 (b : Sl) (w : World) (R : Int → Int → World → Prop) : Prop :=
 CallK Tryz.prog 74 [.slice b.a b.len b.cap] [.one (.i .i64), .one (.i .i64)] w R
def c75 (l : Sl) (w : World) (R : Bool → World → Prop) : Prop :=
 CallK Tryz.prog 75 [.slice l.a l.len l.cap] [.one .b] w R
def c76 (b : Sl) (n_ : Int) (w : World) (R : Sl → World → Prop) : Prop :=
 CallK Tryz.prog 76 [.slice b.a b.len b.cap, .int .u64 n_] [.one .sl] w R
def c77 (b : Sl) (s : ByteArray) (w : World) (R : Sl → World → Prop) : Prop :=
 CallK Tryz.prog 77 [.slice b.a b.len b.cap, .string s] [.one .sl] w R
def c78 (b : Sl) (n_ : Int) (w : World) (R : Sl → World → Prop) : Prop :=
 CallK Tryz.prog 78 [.slice b.a b.len b.cap, .int .i64 n_] [.one .sl] w R
def c80 (r_Name : ByteArray) (r_Params r_Locals : Int) (r_Code : Sl) (w : World) (R : Bool → World → Prop) : Prop :=
 CallK Tryz.prog 80 [.agg #[.string r_Name, .int .i64 r_Params, .int .i64 r_Locals, .slice r_Code.a r_Code.len r_Code.cap]] [.one .b] w R
def c83 (r_Name : ByteArray) (r_Params r_Locals : Int) (r_Code : Sl) (w : World) (R : Bool → World → Prop) : Prop :=
 CallK Tryz.prog 83 [.agg #[.string r_Name, .int .i64 r_Params, .int .i64 r_Locals, .slice r_Code.a r_Code.len r_Code.cap]] [.one .b] w R
def c84 (i_Op i_A : Int) (w : World) (R : Bool → World → Prop) : Prop :=
 CallK Tryz.prog 84 [.agg #[.int .i64 i_Op, .int .i64 i_A]] [.one .b] w R
def c85 (b : Option Addr) (w : World) (R : World → Prop) : Prop :=
 CallK Tryz.prog 85 [.pointer b] [] w R
def c86 (i : Int) (w : World) (R : ByteArray → World → Prop) : Prop :=
 CallK Tryz.prog 86 [.int .i64 i] [.one .s] w R
def c87 (i base : Int) (w : World) (R : ByteArray → World → Prop) : Prop :=
 CallK Tryz.prog 87 [.int .i64 i, .int .i64 base] [.one .s] w R
def c89 (s sep : ByteArray) (w : World) (R : Sl → World → Prop) : Prop :=
 CallK Tryz.prog 89 [.string s, .string sep] [.one .sl] w R
def c90 (s : ByteArray) (w : World) (R : Int → Bool → World → Prop) : Prop :=
 CallK Tryz.prog 90 [.string s] [.one (.i .i64), .one .b] w R
def c93 (b : Sl) (w : World) (R : Int → Int → World → Prop) : Prop :=
 CallK Tryz.prog 93 [.slice b.a b.len b.cap] [.one (.i .u64), .one (.i .i64)] w R
def c94 (b : Sl) (w : World) (R : ByteArray → Int → World → Prop) : Prop :=
 CallK Tryz.prog 94 [.slice b.a b.len b.cap] [.one .s, .one (.i .i64)] w R
def c95 (b : Sl) (w : World) (R : Int → Int → World → Prop) : Prop :=
 CallK Tryz.prog 95 [.slice b.a b.len b.cap] [.one (.i .i64), .one (.i .i64)] w R
def c96 (n_ : Int) (w : World) (R : Int → World → Prop) : Prop :=
 CallK Tryz.prog 96 [.int .u64 n_] [.one (.i .i64)] w R
def c97 (b : Sl) (n_ : Int) (w : World) (R : Sl → World → Prop) : Prop :=
 CallK Tryz.prog 97 [.slice b.a b.len b.cap, .int .u64 n_] [.one .sl] w R
def c98 (b : Sl) (w : World) (R : Sl → World → Prop) : Prop :=
 CallK Tryz.prog 98 [.slice b.a b.len b.cap] [.one .sl] w R
def c99 (n_ : Int) (w : World) (R : Int → World → Prop) : Prop :=
 CallK Tryz.prog 99 [.int .i64 n_] [.one (.i .u64)] w R
def c103 (i base : Int) (w : World) (R : ByteArray → World → Prop) : Prop :=
 CallK Tryz.prog 103 [.int .i64 i, .int .i64 base] [.one .s] w R
def c106 (s : ByteArray) (base bitSize : Int) (w : World) (R : Int → Value → World → Prop) : Prop :=
 CallK Tryz.prog 106 [.string s, .int .i64 base, .int .i64 bitSize] [.one (.i .i64), .one .v] w R
def c107 (n_ : Int) (w : World) (R : Int → World → Prop) : Prop :=
 CallK Tryz.prog 107 [.int .u64 n_] [.one (.i .i64)] w R
def c127 (sep : ByteArray) (w : World) (R : Int → Int → World → Prop) : Prop :=
 CallK Tryz.prog 127 [.string sep] [.one (.i .u32), .one (.i .u32)] w R
def c138 (s : ByteArray) (w : World) (R : Int → Int → World → Prop) : Prop :=
 CallK Tryz.prog 138 [.string s] [.one (.i .i32), .one (.i .i64)] w R
def f3 (op : Int) (name : ByteArray) (i_Op i_A : Int) (funcs : Sl) (w : World) (R : Bool → World → Prop) : Prop :=
 Nw (.cells #[.int .i64 i_Op, .int .i64 i_A] 23) w fun (i : Addr) (w : World) =>
 c8  w fun (head : Bool) (w : World) =>
 Nw (.cells #[] 30) w fun (b : Addr) (w : World) =>
 Run .sl Tryz.prog (Builtin.append_ #[24, 24] 24 #[.slice (some b) 0 0, .slice funcs.a funcs.len funcs.cap]) w fun (l : Sl) (w : World) =>
 Ld (.i .i64) w i fun (i_Op2 : Int) => Ld (.i .i64) w (i.add 1) fun (i_A2 : Int) =>
 c9 i_Op2 i_A2 l w fun (t p : Int) (w : World) =>
 Ld (.i .i64) w i fun (i_Op3 : Int) => Ld (.i .i64) w (i.add 1) fun (i_A3 : Int) =>
 c10 i_Op3 i_A3 funcs w fun (u q : Int) (w : World) =>
 ∃ Inv_ : Int → Nat → World → Prop, (∃ n : Nat, Inv_ 0 n w) ∧ ∀ k : Int, ∀ m : Nat, ∀ w : World, Inv_ k m w → (if (decide (k < (l.len : Int))) = true then (Ix l.a l.len k 4 fun (a : Addr) =>
 St (a.add 1) (.int .i64 (IntKind.i64.wrap (k + 1))) w fun (w : World) =>
 ∃ m2 : Nat, m2 < m ∧ Inv_ (IntKind.i64.wrap (k + 1)) m2 w) else (Ld (.i .i64) w i fun (i_Op4 : Int) => Ld (.i .i64) w (i.add 1) fun (i_A4 : Int) =>
 c9 i_Op4 i_A4 l w fun (v w_ : Int) (w : World) =>
 Dr w fun (w : World) =>
 Ld (.i .i64) w i fun (i_Op5 : Int) => Ld (.i .i64) w (i.add 1) fun (i_A5 : Int) =>
 Nw (.cells #[] 30) w fun (b2 : Addr) (w : World) =>
 Run .sl Tryz.prog (Builtin.append_ #[24, 24] 24 #[.slice (some b2) 0 0, .slice l.a l.len l.cap]) w fun (s : Sl) (w : World) =>
 w.cell? i = some (.int .i64 i_Op5) ∧ w.cell? (i.add 1) = some (.int .i64 i_A5) ∧ (c10 i_Op5 i_A5 s w fun (x y : Int) (w : World) =>
 if head = true then (if (v == x) = true then (if (w_ == y) = true then (c11 op w fun (r : ByteArray) (w : World) =>
 c12 op w fun (r2 : ByteArray) (w : World) =>
 if (r.toList == r2.toList) = true then (c13 name w fun (r3 : Int) (w : World) =>
 c14 name w fun (r4 : Int) (w : World) =>
 if (r3 == r4) = true then (if (t == u) = true then (R (p == q) w) else (R false w)) else (R false w)) else (R false w)) else (R false w)) else (R false w)) else (R false w))))
def f4 (b : Sl) (w : World) (R : Bool → World → Prop) : Prop :=
 c8  w fun (head : Bool) (w : World) =>
 Mk [.int .u8 0] 5 1 (IntKind.i64.wrap ((b.len : Int) + 80)) (IntKind.i64.wrap ((b.len : Int) + 80)) w fun (l : Sl) (w : World) =>
 Run (.i .i64) Tryz.prog (Builtin.copy_ #[34, 34] 3 #[.slice l.a l.len l.cap, .slice b.a b.len b.cap]) w fun (n_ : Int) (w : World) =>
 Cut ⟨l.a, l.len, l.cap⟩ 0 (b.len : Int) (l.cap : Int) 1 fun (s : Sl) =>
 c15 s w fun (p_Systems p_Funcs : Sl) (e : Value) (w : World) =>
 Nw (.cells #[.slice none 0 0, .slice none 0 0] 37) w fun (p : Addr) (w : World) =>
 St p (.slice p_Systems.a p_Systems.len p_Systems.cap) w fun (w : World) =>
 St (p.add 1) (.slice p_Funcs.a p_Funcs.len p_Funcs.cap) w fun (w : World) =>
 c15 b w fun (q_Systems q_Funcs : Sl) (f : Value) (w : World) =>
 Nw (.cells #[.slice none 0 0, .slice none 0 0] 37) w fun (q : Addr) (w : World) =>
 St q (.slice q_Systems.a q_Systems.len q_Systems.cap) w fun (w : World) =>
 St (q.add 1) (.slice q_Funcs.a q_Funcs.len q_Funcs.cap) w fun (w : World) =>
 c16 e w fun (at_ bad : Int) (is : Bool) (w : World) =>
 c16 f w fun (place worse : Int) (also : Bool) (w : World) =>
 c17 b w fun (w_Systems w_Funcs : Sl) (want n_2 : Int) (w : World) =>
 Nw (.cells #[.slice none 0 0, .slice none 0 0] 37) w fun (w_ : Addr) (w : World) =>
 St w_ (.slice w_Systems.a w_Systems.len w_Systems.cap) w fun (w : World) =>
 St (w_.add 1) (.slice w_Funcs.a w_Funcs.len w_Funcs.cap) w fun (w : World) =>
 Ld .sl w p fun (p_Systems2 : Sl) => Ld .sl w (p.add 1) fun (p_Funcs2 : Sl) =>
 Ld .sl w w_ fun (w_Systems2 : Sl) => Ld .sl w (w_.add 1) fun (w_Funcs2 : Sl) =>
 c18 p_Systems2 p_Funcs2 w_Systems2 w_Funcs2 w fun (one : Bool) (w : World) =>
 Ld .sl w p fun (p_Systems3 : Sl) => Ld .sl w (p.add 1) fun (p_Funcs3 : Sl) =>
 c19 p_Systems3 p_Funcs3 w fun (apart : Bool) (w : World) =>
 Ld .sl w q fun (q_Systems2 : Sl) => Ld .sl w (q.add 1) fun (q_Funcs2 : Sl) =>
 Ld .sl w w_ fun (w_Systems3 : Sl) => Ld .sl w (w_.add 1) fun (w_Funcs3 : Sl) =>
 c18 q_Systems2 q_Funcs2 w_Systems3 w_Funcs3 w fun (two : Bool) (w : World) =>
 Nw (.cells #[.int .u8 0, .int .u8 0, .int .u8 0, .int .u8 0] 5) w fun (b2 : Addr) (w : World) =>
 c15 ⟨some b2, 4, 4⟩ w fun (r_Systems r_Funcs : Sl) (r : Value) (w : World) =>
 c16 e w fun (at_2 bad2 : Int) (is2 : Bool) (w : World) =>
 c16 f w fun (place2 worse2 : Int) (also2 : Bool) (w : World) =>
 ∃ Inv_ : Int → Nat → World → Prop, (∃ n : Nat, Inv_ 0 n w) ∧ ∀ i : Int, ∀ m : Nat, ∀ w : World, Inv_ i m w → (if (decide (i < (l.len : Int))) = true then (Dr w fun (w : World) =>
 if (decide (i < (b.len : Int))) = true then (Ix l.a l.len i 1 fun (a : Addr) =>
 Ld (.i .u8) w a fun (x : Int) =>
 Ix b.a b.len i 1 fun (a2 : Addr) =>
 Ld (.i .u8) w a2 fun (x2 : Int) =>
 if (x != x2) = true then (R false w) else (if (decide (i ≥ (b.len : Int))) = true then (Ix l.a l.len i 1 fun (a3 : Addr) =>
 Ld (.i .u8) w a3 fun (x3 : Int) =>
 if (x3 != 0) = true then (R false w) else (∃ m2 : Nat, m2 < m ∧ Inv_ (IntKind.i64.wrap (i + 1)) m2 w)) else (∃ m2 : Nat, m2 < m ∧ Inv_ (IntKind.i64.wrap (i + 1)) m2 w))) else (if (decide (i ≥ (b.len : Int))) = true then (Ix l.a l.len i 1 fun (a4 : Addr) =>
 Ld (.i .u8) w a4 fun (x4 : Int) =>
 if (x4 != 0) = true then (R false w) else (∃ m2 : Nat, m2 < m ∧ Inv_ (IntKind.i64.wrap (i + 1)) m2 w)) else (∃ m2 : Nat, m2 < m ∧ Inv_ (IntKind.i64.wrap (i + 1)) m2 w))) else (if (cond (cond (cond (cond (cond (cond (cond (cond (cond (!head) true (!one)) true (!two)) true (!apart)) true (!is2)) true (!also2)) true (at_2 != want)) true (place2 != want)) true (bad2 != n_2)) true (worse2 != n_2)) = true then (R false w) else (∃ J_ : World → Prop, (if (decide ((b.len : Int) > 0)) = true then ((2 : Int) ≠ 0 ∧ ((2 : Int) ≠ 0 ∧ (Ix l.a l.len (IntKind.i64.wrap (Int.tdiv (b.len : Int) 2)) 1 fun (a5 : Addr) =>
 Ld (.i .u8) w a5 fun (x5 : Int) =>
 Ix l.a l.len (IntKind.i64.wrap (Int.tdiv (b.len : Int) 2)) 1 fun (a6 : Addr) =>
 St a6 (.int .u8 (IntKind.u8.wrap (x5 + 1))) w fun (w : World) =>
 J_  w))) else (J_  w)) ∧ ∀ w : World, J_  w → (Cut ⟨l.a, l.len, l.cap⟩ 0 (b.len : Int) (l.cap : Int) 1 fun (s2 : Sl) =>
 c15 s2 w fun (r_Systems2 r_Funcs2 : Sl) (g : Value) (w : World) =>
 Nw (.cells #[.slice none 0 0, .slice none 0 0] 37) w fun (r2 : Addr) (w : World) =>
 St r2 (.slice r_Systems2.a r_Systems2.len r_Systems2.cap) w fun (w : World) =>
 St (r2.add 1) (.slice r_Funcs2.a r_Funcs2.len r_Funcs2.cap) w fun (w : World) =>
 Cut ⟨l.a, l.len, l.cap⟩ 0 (b.len : Int) (l.cap : Int) 1 fun (s3 : Sl) =>
 c17 s3 w fun (v_Systems v_Funcs : Sl) (place3 n_3 : Int) (w : World) =>
 Nw (.cells #[.slice none 0 0, .slice none 0 0] 37) w fun (v : Addr) (w : World) =>
 St v (.slice v_Systems.a v_Systems.len v_Systems.cap) w fun (w : World) =>
 St (v.add 1) (.slice v_Funcs.a v_Funcs.len v_Funcs.cap) w fun (w : World) =>
 c16 g w fun (at_3 bad3 : Int) (is3 : Bool) (w : World) =>
 Ld .sl w r2 fun (r_Systems3 : Sl) => Ld .sl w (r2.add 1) fun (r_Funcs3 : Sl) =>
 Ld .sl w v fun (v_Systems2 : Sl) => Ld .sl w (v.add 1) fun (v_Funcs2 : Sl) =>
 c18 r_Systems3 r_Funcs3 v_Systems2 v_Funcs2 w fun (three : Bool) (w : World) =>
 R (cond (cond (cond three is3 false) (at_3 == place3) false) (bad3 == n_3) false) w))))
theorem c4_of {b w R} (h : f4 b w R) : c4 b w R :=
  callK_of (H := ⟨[(16, ⟨[(21, .i .i64)], [0, 3, 4, 9, 10, 11, 12, 13, 14, 16, 17, 18, 19, 20]⟩)], [(24, ⟨[], [0, 4]⟩)]⟩) okP Tryz.func4 (cast (by kernel_rfl) h)
def f5 (p_Systems p_Funcs : Sl) (w : World) (R : Bool → World → Prop) : Prop :=
 Nw (.cells #[.slice p_Systems.a p_Systems.len p_Systems.cap, .slice p_Funcs.a p_Funcs.len p_Funcs.cap] 37) w fun (p : Addr) (w : World) =>
 c8  w fun (head : Bool) (w : World) =>
 Nw (.cells #[.slice none 0 0, .slice none 0 0] 37) w fun (q : Addr) (w : World) =>
 St q (.slice none 0 0) w fun (w : World) =>
 St (q.add 1) (.slice none 0 0) w fun (w : World) =>
 ∃ Inv_ : Sl → Sl → Sl → Int → Nat → World → Prop, (∃ n : Nat, Inv_ ⟨none, 0, 0⟩ ⟨none, 0, 0⟩ ⟨none, 0, 0⟩ 0 n w) ∧ ∀ lists : Sl, ∀ kinds : Sl, ∀ were : Sl, ∀ i : Int, ∀ m : Nat, ∀ w : World, Inv_ lists kinds were i m w → (Ld .sl w p fun (Systems : Sl) =>
 if (decide (i < (Systems.len : Int))) = true then (Ld .sl w p fun (Systems2 : Sl) =>
 Ix Systems2.a Systems2.len i 8 fun (a : Addr) =>
 Ld .sl w a fun (s_With : Sl) => Ld .sl w (a.add 1) fun (s_Without : Sl) => Ld .sl w (a.add 2) fun (s_Reads : Sl) => Ld .sl w (a.add 3) fun (s_Writes : Sl) => Ld .s w (a.add 4) fun (s_Run_Name : ByteArray) => Ld (.i .i64) w (a.add 5) fun (s_Run_Params : Int) => Ld (.i .i64) w (a.add 6) fun (s_Run_Locals : Int) => Ld .sl w (a.add 7) fun (s_Run_Code : Sl) =>
 Nw (.cells #[.slice none 0 0, .slice none 0 0, .slice none 0 0, .slice none 0 0, .string (⟨#[]⟩ : ByteArray), .int .i64 0, .int .i64 0, .slice none 0 0] 54) w fun (s : Addr) (w : World) =>
 St s (.slice s_With.a s_With.len s_With.cap) w fun (w : World) =>
 St (s.add 1) (.slice s_Without.a s_Without.len s_Without.cap) w fun (w : World) =>
 St (s.add 2) (.slice s_Reads.a s_Reads.len s_Reads.cap) w fun (w : World) =>
 St (s.add 3) (.slice s_Writes.a s_Writes.len s_Writes.cap) w fun (w : World) =>
 St (s.add 4) (.string s_Run_Name) w fun (w : World) =>
 St (s.add 5) (.int .i64 s_Run_Params) w fun (w : World) =>
 St (s.add 6) (.int .i64 s_Run_Locals) w fun (w : World) =>
 St (s.add 7) (.slice s_Run_Code.a s_Run_Code.len s_Run_Code.cap) w fun (w : World) =>
 Ld .s w (s.add 4) fun (Run_Name : ByteArray) => Ld (.i .i64) w ((s.add 4).add 1) fun (Run_Params : Int) => Ld (.i .i64) w ((s.add 4).add 2) fun (Run_Locals : Int) => Ld .sl w ((s.add 4).add 3) fun (Run_Code : Sl) =>
 c20 Run_Name Run_Params Run_Locals Run_Code w fun (r_Name : ByteArray) (r_Params r_Locals : Int) (r_Code l : Sl) (w : World) =>
 Nw (.cells #[.string (⟨#[]⟩ : ByteArray), .int .i64 0, .int .i64 0, .slice none 0 0] 30) w fun (r : Addr) (w : World) =>
 St r (.string r_Name) w fun (w : World) =>
 St (r.add 1) (.int .i64 r_Params) w fun (w : World) =>
 St (r.add 2) (.int .i64 r_Locals) w fun (w : World) =>
 St (r.add 3) (.slice r_Code.a r_Code.len r_Code.cap) w fun (w : World) =>
 Ld .sl w s fun (With : Sl) =>
 Ld .sl w (s.add 1) fun (Without : Sl) =>
 Ld .sl w (s.add 2) fun (Reads : Sl) =>
 Ld .sl w (s.add 3) fun (Writes : Sl) =>
 Nw (.cells #[.slice With.a With.len With.cap, .slice Without.a Without.len Without.cap, .slice Reads.a Reads.len Reads.cap, .slice Writes.a Writes.len Writes.cap] 52) w fun (b : Addr) (w : World) =>
 Run .sl Tryz.prog (Builtin.append_ #[51, 51] 51 #[.slice were.a were.len were.cap, .slice (some b) 4 4]) w fun (were2 : Sl) (w : World) =>
 Ld .sl w s fun (With2 : Sl) =>
 c21 With2 kinds w fun (r2 kinds2 : Sl) (w : World) =>
 St s (.slice r2.a r2.len r2.cap) w fun (w : World) =>
 Ld .sl w (s.add 1) fun (Without2 : Sl) =>
 c21 Without2 kinds2 w fun (r3 kinds3 : Sl) (w : World) =>
 St (s.add 1) (.slice r3.a r3.len r3.cap) w fun (w : World) =>
 Ld .sl w (s.add 2) fun (Reads2 : Sl) =>
 c21 Reads2 kinds3 w fun (r4 kinds4 : Sl) (w : World) =>
 St (s.add 2) (.slice r4.a r4.len r4.cap) w fun (w : World) =>
 Ld .sl w (s.add 3) fun (Writes2 : Sl) =>
 c21 Writes2 kinds4 w fun (r5 kinds5 : Sl) (w : World) =>
 St (s.add 3) (.slice r5.a r5.len r5.cap) w fun (w : World) =>
 Ld .s w r fun (r_Name2 : ByteArray) => Ld (.i .i64) w (r.add 1) fun (r_Params2 : Int) => Ld (.i .i64) w (r.add 2) fun (r_Locals2 : Int) => Ld .sl w (r.add 3) fun (r_Code2 : Sl) =>
 St (s.add 4) (.string r_Name2) w fun (w : World) =>
 St ((s.add 4).add 1) (.int .i64 r_Params2) w fun (w : World) =>
 St ((s.add 4).add 2) (.int .i64 r_Locals2) w fun (w : World) =>
 St ((s.add 4).add 3) (.slice r_Code2.a r_Code2.len r_Code2.cap) w fun (w : World) =>
 Nw (.cells #[.slice l.a l.len l.cap] 28) w fun (b2 : Addr) (w : World) =>
 Run .sl Tryz.prog (Builtin.append_ #[50, 50] 50 #[.slice lists.a lists.len lists.cap, .slice (some b2) 1 1]) w fun (lists2 : Sl) (w : World) =>
 Ld .sl w q fun (Systems3 : Sl) =>
 Ld .sl w s fun (s_With2 : Sl) => Ld .sl w (s.add 1) fun (s_Without2 : Sl) => Ld .sl w (s.add 2) fun (s_Reads2 : Sl) => Ld .sl w (s.add 3) fun (s_Writes2 : Sl) => Ld .s w (s.add 4) fun (s_Run_Name2 : ByteArray) => Ld (.i .i64) w (s.add 5) fun (s_Run_Params2 : Int) => Ld (.i .i64) w (s.add 6) fun (s_Run_Locals2 : Int) => Ld .sl w (s.add 7) fun (s_Run_Code2 : Sl) =>
 Nw (.cells #[.slice s_With2.a s_With2.len s_With2.cap, .slice s_Without2.a s_Without2.len s_Without2.cap, .slice s_Reads2.a s_Reads2.len s_Reads2.cap, .slice s_Writes2.a s_Writes2.len s_Writes2.cap, .string s_Run_Name2, .int .i64 s_Run_Params2, .int .i64 s_Run_Locals2, .slice s_Run_Code2.a s_Run_Code2.len s_Run_Code2.cap] 54) w fun (b3 : Addr) (w : World) =>
 Run .sl Tryz.prog (Builtin.append_ #[35, 35] 35 #[.slice Systems3.a Systems3.len Systems3.cap, .slice (some b3) 1 1]) w fun (s2 : Sl) (w : World) =>
 St q (.slice s2.a s2.len s2.cap) w fun (w : World) =>
 ∃ m2 : Nat, m2 < m ∧ Inv_ lists2 kinds5 were2 (IntKind.i64.wrap (i + 1)) m2 w) else (∃ Inv_2 : Sl → Int → Nat → World → Prop, (∃ n : Nat, Inv_2 lists 0 n w) ∧ ∀ lists3 : Sl, ∀ i2 : Int, ∀ m3 : Nat, ∀ w : World, Inv_2 lists3 i2 m3 w → (Ld .sl w (p.add 1) fun (Funcs : Sl) =>
 if (decide (i2 < (Funcs.len : Int))) = true then (Ld .sl w (p.add 1) fun (Funcs2 : Sl) =>
 Ix Funcs2.a Funcs2.len i2 4 fun (a2 : Addr) =>
 Ld .s w a2 fun (x_Name : ByteArray) => Ld (.i .i64) w (a2.add 1) fun (x_Params : Int) => Ld (.i .i64) w (a2.add 2) fun (x_Locals : Int) => Ld .sl w (a2.add 3) fun (x_Code : Sl) =>
 c20 x_Name x_Params x_Locals x_Code w fun (r_Name3 : ByteArray) (r_Params3 r_Locals3 : Int) (r_Code3 l2 : Sl) (w : World) =>
 Nw (.cells #[.string (⟨#[]⟩ : ByteArray), .int .i64 0, .int .i64 0, .slice none 0 0] 30) w fun (r6 : Addr) (w : World) =>
 St r6 (.string r_Name3) w fun (w : World) =>
 St (r6.add 1) (.int .i64 r_Params3) w fun (w : World) =>
 St (r6.add 2) (.int .i64 r_Locals3) w fun (w : World) =>
 St (r6.add 3) (.slice r_Code3.a r_Code3.len r_Code3.cap) w fun (w : World) =>
 Nw (.cells #[.slice l2.a l2.len l2.cap] 28) w fun (b4 : Addr) (w : World) =>
 Run .sl Tryz.prog (Builtin.append_ #[50, 50] 50 #[.slice lists3.a lists3.len lists3.cap, .slice (some b4) 1 1]) w fun (lists4 : Sl) (w : World) =>
 Ld .sl w (q.add 1) fun (Funcs3 : Sl) =>
 Ld .s w r6 fun (r_Name4 : ByteArray) => Ld (.i .i64) w (r6.add 1) fun (r_Params4 : Int) => Ld (.i .i64) w (r6.add 2) fun (r_Locals4 : Int) => Ld .sl w (r6.add 3) fun (r_Code4 : Sl) =>
 Nw (.cells #[.string r_Name4, .int .i64 r_Params4, .int .i64 r_Locals4, .slice r_Code4.a r_Code4.len r_Code4.cap] 30) w fun (b5 : Addr) (w : World) =>
 Run .sl Tryz.prog (Builtin.append_ #[24, 24] 24 #[.slice Funcs3.a Funcs3.len Funcs3.cap, .slice (some b5) 1 1]) w fun (s3 : Sl) (w : World) =>
 St (q.add 1) (.slice s3.a s3.len s3.cap) w fun (w : World) =>
 ∃ m4 : Nat, m4 < m3 ∧ Inv_2 lists4 (IntKind.i64.wrap (i2 + 1)) m4 w) else (Ld .sl w q fun (q_Systems : Sl) => Ld .sl w (q.add 1) fun (q_Funcs : Sl) =>
 c22 q_Systems q_Funcs w fun (b6 : Sl) (e : Int) (w : World) =>
 Ld .sl w p fun (p_Systems2 : Sl) => Ld .sl w (p.add 1) fun (p_Funcs2 : Sl) =>
 c23 p_Systems2 p_Funcs2 w fun (c : Sl) (f : Int) (w : World) =>
 ∃ J_ : World → Prop, (if (!head) = true then (R false w) else (RdB w ⟨b6.a, b6.len, b6.cap⟩ fun (x : ByteArray) =>
 RdB w ⟨c.a, c.len, c.cap⟩ fun (x2 : ByteArray) =>
 if (!(x.toList == x2.toList)) = true then (R false w) else (if (e != f) = true then (R false w) else (J_  w)))) ∧ ∀ w : World, J_  w → (Ld .sl w p fun (p_Systems3 : Sl) => Ld .sl w (p.add 1) fun (p_Funcs3 : Sl) =>
 Ld .sl w q fun (q_Systems2 : Sl) => Ld .sl w (q.add 1) fun (q_Funcs2 : Sl) =>
 c18 p_Systems3 p_Funcs3 q_Systems2 q_Funcs2 w fun (kept : Bool) (w : World) =>
 ∃ Inv_3 : Bool → Int → Nat → World → Prop, (∃ n : Nat, Inv_3 kept 0 n w) ∧ ∀ kept2 : Bool, ∀ i3 : Int, ∀ m5 : Nat, ∀ w : World, Inv_3 kept2 i3 m5 w → (if (decide (i3 < (kinds.len : Int))) = true then (∃ Inv_4 : Bool → Int → Nat → World → Prop, (∃ n : Nat, Inv_4 kept2 0 n w) ∧ ∀ kept3 : Bool, ∀ k : Int, ∀ m7 : Nat, ∀ w : World, Inv_4 kept3 k m7 w → (Ix kinds.a kinds.len i3 1 fun (a3 : Addr) =>
 Ld .sl w a3 fun (x3 : Sl) =>
 if (decide (k < (x3.len : Int))) = true then (Dr w fun (w : World) =>
 if kept3 = true then (Ix were.a were.len i3 1 fun (a4 : Addr) =>
 Ld .sl w a4 fun (x4 : Sl) =>
 if (decide (k < (x4.len : Int))) = true then (Ix kinds.a kinds.len i3 1 fun (a5 : Addr) =>
 Ld .sl w a5 fun (x5 : Sl) =>
 Ix x5.a x5.len k 1 fun (a6 : Addr) =>
 Ld (.i .i64) w a6 fun (x6 : Int) =>
 Ix were.a were.len i3 1 fun (a7 : Addr) =>
 Ld .sl w a7 fun (x7 : Sl) =>
 Ix x7.a x7.len k 1 fun (a8 : Addr) =>
 Ld (.i .i64) w a8 fun (x8 : Int) =>
 if (x6 == x8) = true then (∃ m8 : Nat, m8 < m7 ∧ Inv_4 true (IntKind.i64.wrap (k + 1)) m8 w) else (Ix were.a were.len i3 1 fun (a9 : Addr) =>
 Ld .sl w a9 fun (x9 : Sl) =>
 if (decide (k ≥ (x9.len : Int))) = true then (Ix kinds.a kinds.len i3 1 fun (a10 : Addr) =>
 Ld .sl w a10 fun (x10 : Sl) =>
 Ix x10.a x10.len k 1 fun (a11 : Addr) =>
 Ld (.i .i64) w a11 fun (x11 : Int) =>
 ∃ m8 : Nat, m8 < m7 ∧ Inv_4 (x11 == (-7)) (IntKind.i64.wrap (k + 1)) m8 w) else (∃ m8 : Nat, m8 < m7 ∧ Inv_4 false (IntKind.i64.wrap (k + 1)) m8 w))) else (Ix were.a were.len i3 1 fun (a12 : Addr) =>
 Ld .sl w a12 fun (x12 : Sl) =>
 if (decide (k ≥ (x12.len : Int))) = true then (Ix kinds.a kinds.len i3 1 fun (a13 : Addr) =>
 Ld .sl w a13 fun (x13 : Sl) =>
 Ix x13.a x13.len k 1 fun (a14 : Addr) =>
 Ld (.i .i64) w a14 fun (x14 : Int) =>
 ∃ m8 : Nat, m8 < m7 ∧ Inv_4 (x14 == (-7)) (IntKind.i64.wrap (k + 1)) m8 w) else (∃ m8 : Nat, m8 < m7 ∧ Inv_4 false (IntKind.i64.wrap (k + 1)) m8 w))) else (∃ m8 : Nat, m8 < m7 ∧ Inv_4 false (IntKind.i64.wrap (k + 1)) m8 w)) else (∃ m6 : Nat, m6 < m5 ∧ Inv_3 kept3 (IntKind.i64.wrap (i3 + 1)) m6 w))) else (∃ Inv_5 : Bool → Int → Nat → World → Prop, (∃ n : Nat, Inv_5 kept2 0 n w) ∧ ∀ kept4 : Bool, ∀ i4 : Int, ∀ m9 : Nat, ∀ w : World, Inv_5 kept4 i4 m9 w → (if (decide (i4 < (lists3.len : Int))) = true then (Nw (.cells #[.string (⟨#[]⟩ : ByteArray), .int .i64 0, .int .i64 0, .slice none 0 0] 30) w fun (r7 : Addr) (w : World) =>
 St r7 (.string (⟨#[]⟩ : ByteArray)) w fun (w : World) =>
 St (r7.add 1) (.int .i64 0) w fun (w : World) =>
 St (r7.add 2) (.int .i64 0) w fun (w : World) =>
 St (r7.add 3) (.slice none 0 0) w fun (w : World) =>
 ∃ J_2 : World → Prop, (Ld .sl w p fun (Systems4 : Sl) =>
 if (decide (i4 < (Systems4.len : Int))) = true then (Ld .sl w p fun (Systems5 : Sl) =>
 Ix Systems5.a Systems5.len i4 8 fun (a15 : Addr) =>
 Ld .s w (a15.add 4) fun (Run_Name2 : ByteArray) => Ld (.i .i64) w ((a15.add 4).add 1) fun (Run_Params2 : Int) => Ld (.i .i64) w ((a15.add 4).add 2) fun (Run_Locals2 : Int) => Ld .sl w ((a15.add 4).add 3) fun (Run_Code2 : Sl) =>
 St r7 (.string Run_Name2) w fun (w : World) =>
 St (r7.add 1) (.int .i64 Run_Params2) w fun (w : World) =>
 St (r7.add 2) (.int .i64 Run_Locals2) w fun (w : World) =>
 St (r7.add 3) (.slice Run_Code2.a Run_Code2.len Run_Code2.cap) w fun (w : World) =>
 J_2  w) else (Ld .sl w (p.add 1) fun (Funcs4 : Sl) =>
 Ld .sl w p fun (Systems6 : Sl) =>
 Ix Funcs4.a Funcs4.len (IntKind.i64.wrap (i4 - (Systems6.len : Int))) 4 fun (a16 : Addr) =>
 Ld .s w a16 fun (r_Name5 : ByteArray) => Ld (.i .i64) w (a16.add 1) fun (r_Params5 : Int) => Ld (.i .i64) w (a16.add 2) fun (r_Locals5 : Int) => Ld .sl w (a16.add 3) fun (r_Code5 : Sl) =>
 St r7 (.string r_Name5) w fun (w : World) =>
 St (r7.add 1) (.int .i64 r_Params5) w fun (w : World) =>
 St (r7.add 2) (.int .i64 r_Locals5) w fun (w : World) =>
 St (r7.add 3) (.slice r_Code5.a r_Code5.len r_Code5.cap) w fun (w : World) =>
 J_2  w)) ∧ ∀ w : World, J_2  w → (Dr w fun (w : World) =>
 Ix lists3.a lists3.len i4 1 fun (a17 : Addr) =>
 Ld .sl w a17 fun (x15 : Sl) =>
 Ld .s w r7 fun (r_Name6 : ByteArray) => Ld (.i .i64) w (r7.add 1) fun (r_Params6 : Int) => Ld (.i .i64) w (r7.add 2) fun (r_Locals6 : Int) => Ld .sl w (r7.add 3) fun (r_Code6 : Sl) =>
 c24 x15 r_Name6 r_Params6 r_Locals6 r_Code6 w fun (k2 : Bool) (w : World) =>
 ∃ m10 : Nat, m10 < m9 ∧ Inv_5 (cond kept4 k2 false) (IntKind.i64.wrap (i4 + 1)) m10 w)) else (∃ Inv_6 : Int → Nat → World → Prop, (∃ n : Nat, Inv_6 0 n w) ∧ ∀ i5 : Int, ∀ m11 : Nat, ∀ w : World, Inv_6 i5 m11 w → (if (decide (i5 < (lists3.len : Int))) = true then (∃ Inv_7 : Int → Nat → World → Prop, (∃ n : Nat, Inv_7 0 n w) ∧ ∀ k3 : Int, ∀ m13 : Nat, ∀ w : World, Inv_7 k3 m13 w → (Ix lists3.a lists3.len i5 1 fun (a18 : Addr) =>
 Ld .sl w a18 fun (x16 : Sl) =>
 if (decide (k3 < (x16.len : Int))) = true then (Ix lists3.a lists3.len i5 1 fun (a19 : Addr) =>
 Ld .sl w a19 fun (x17 : Sl) =>
 Ix x17.a x17.len k3 2 fun (a20 : Addr) =>
 St a20 (.int .i64 24) w fun (w : World) =>
 St (a20.add 1) (.int .i64 0) w fun (w : World) =>
 ∃ m14 : Nat, m14 < m13 ∧ Inv_7 (IntKind.i64.wrap (k3 + 1)) m14 w) else (∃ m12 : Nat, m12 < m11 ∧ Inv_6 (IntKind.i64.wrap (i5 + 1)) m12 w))) else (Nw (.cells #[.slice none 0 0, .slice none 0 0] 37) w fun (now : Addr) (w : World) =>
 St now (.slice none 0 0) w fun (w : World) =>
 St (now.add 1) (.slice none 0 0) w fun (w : World) =>
 ∃ Inv_8 : Int → Nat → World → Prop, (∃ n : Nat, Inv_8 0 n w) ∧ ∀ i6 : Int, ∀ m15 : Nat, ∀ w : World, Inv_8 i6 m15 w → (Ld .sl w q fun (Systems7 : Sl) =>
 if (decide (i6 < (Systems7.len : Int))) = true then (Ld .sl w q fun (Systems8 : Sl) =>
 Ix Systems8.a Systems8.len i6 8 fun (a21 : Addr) =>
 Ld .sl w a21 fun (s_With3 : Sl) => Ld .sl w (a21.add 1) fun (s_Without3 : Sl) => Ld .sl w (a21.add 2) fun (s_Reads3 : Sl) => Ld .sl w (a21.add 3) fun (s_Writes3 : Sl) => Ld .s w (a21.add 4) fun (s_Run_Name3 : ByteArray) => Ld (.i .i64) w (a21.add 5) fun (s_Run_Params3 : Int) => Ld (.i .i64) w (a21.add 6) fun (s_Run_Locals3 : Int) => Ld .sl w (a21.add 7) fun (s_Run_Code3 : Sl) =>
 Nw (.cells #[.slice none 0 0, .slice none 0 0, .slice none 0 0, .slice none 0 0, .string (⟨#[]⟩ : ByteArray), .int .i64 0, .int .i64 0, .slice none 0 0] 54) w fun (s4 : Addr) (w : World) =>
 St s4 (.slice s_With3.a s_With3.len s_With3.cap) w fun (w : World) =>
 St (s4.add 1) (.slice s_Without3.a s_Without3.len s_Without3.cap) w fun (w : World) =>
 St (s4.add 2) (.slice s_Reads3.a s_Reads3.len s_Reads3.cap) w fun (w : World) =>
 St (s4.add 3) (.slice s_Writes3.a s_Writes3.len s_Writes3.cap) w fun (w : World) =>
 St (s4.add 4) (.string s_Run_Name3) w fun (w : World) =>
 St (s4.add 5) (.int .i64 s_Run_Params3) w fun (w : World) =>
 St (s4.add 6) (.int .i64 s_Run_Locals3) w fun (w : World) =>
 St (s4.add 7) (.slice s_Run_Code3.a s_Run_Code3.len s_Run_Code3.cap) w fun (w : World) =>
 Nw (.cells #[] 23) w fun (b7 : Addr) (w : World) =>
 Ld .sl w ((s4.add 4).add 3) fun (Code : Sl) =>
 Run .sl Tryz.prog (Builtin.append_ #[28, 28] 28 #[.slice (some b7) 0 0, .slice Code.a Code.len Code.cap]) w fun (s5 : Sl) (w : World) =>
 St ((s4.add 4).add 3) (.slice s5.a s5.len s5.cap) w fun (w : World) =>
 Ld .sl w now fun (Systems9 : Sl) =>
 Ld .sl w s4 fun (s_With4 : Sl) => Ld .sl w (s4.add 1) fun (s_Without4 : Sl) => Ld .sl w (s4.add 2) fun (s_Reads4 : Sl) => Ld .sl w (s4.add 3) fun (s_Writes4 : Sl) => Ld .s w (s4.add 4) fun (s_Run_Name4 : ByteArray) => Ld (.i .i64) w (s4.add 5) fun (s_Run_Params4 : Int) => Ld (.i .i64) w (s4.add 6) fun (s_Run_Locals4 : Int) => Ld .sl w (s4.add 7) fun (s_Run_Code4 : Sl) =>
 Nw (.cells #[.slice s_With4.a s_With4.len s_With4.cap, .slice s_Without4.a s_Without4.len s_Without4.cap, .slice s_Reads4.a s_Reads4.len s_Reads4.cap, .slice s_Writes4.a s_Writes4.len s_Writes4.cap, .string s_Run_Name4, .int .i64 s_Run_Params4, .int .i64 s_Run_Locals4, .slice s_Run_Code4.a s_Run_Code4.len s_Run_Code4.cap] 54) w fun (b8 : Addr) (w : World) =>
 Run .sl Tryz.prog (Builtin.append_ #[35, 35] 35 #[.slice Systems9.a Systems9.len Systems9.cap, .slice (some b8) 1 1]) w fun (s6 : Sl) (w : World) =>
 St now (.slice s6.a s6.len s6.cap) w fun (w : World) =>
 ∃ m16 : Nat, m16 < m15 ∧ Inv_8 (IntKind.i64.wrap (i6 + 1)) m16 w) else (∃ Inv_9 : Int → Nat → World → Prop, (∃ n : Nat, Inv_9 0 n w) ∧ ∀ i7 : Int, ∀ m17 : Nat, ∀ w : World, Inv_9 i7 m17 w → (Ld .sl w (q.add 1) fun (Funcs5 : Sl) =>
 if (decide (i7 < (Funcs5.len : Int))) = true then (Ld .sl w (q.add 1) fun (Funcs6 : Sl) =>
 Ix Funcs6.a Funcs6.len i7 4 fun (a22 : Addr) =>
 Ld .s w a22 fun (r_Name7 : ByteArray) => Ld (.i .i64) w (a22.add 1) fun (r_Params7 : Int) => Ld (.i .i64) w (a22.add 2) fun (r_Locals7 : Int) => Ld .sl w (a22.add 3) fun (r_Code7 : Sl) =>
 Nw (.cells #[.string (⟨#[]⟩ : ByteArray), .int .i64 0, .int .i64 0, .slice none 0 0] 30) w fun (r8 : Addr) (w : World) =>
 St r8 (.string r_Name7) w fun (w : World) =>
 St (r8.add 1) (.int .i64 r_Params7) w fun (w : World) =>
 St (r8.add 2) (.int .i64 r_Locals7) w fun (w : World) =>
 St (r8.add 3) (.slice r_Code7.a r_Code7.len r_Code7.cap) w fun (w : World) =>
 Nw (.cells #[] 23) w fun (b9 : Addr) (w : World) =>
 Ld .sl w (r8.add 3) fun (Code2 : Sl) =>
 Run .sl Tryz.prog (Builtin.append_ #[28, 28] 28 #[.slice (some b9) 0 0, .slice Code2.a Code2.len Code2.cap]) w fun (s7 : Sl) (w : World) =>
 St (r8.add 3) (.slice s7.a s7.len s7.cap) w fun (w : World) =>
 Ld .sl w (now.add 1) fun (Funcs7 : Sl) =>
 Ld .s w r8 fun (r_Name8 : ByteArray) => Ld (.i .i64) w (r8.add 1) fun (r_Params8 : Int) => Ld (.i .i64) w (r8.add 2) fun (r_Locals8 : Int) => Ld .sl w (r8.add 3) fun (r_Code8 : Sl) =>
 Nw (.cells #[.string r_Name8, .int .i64 r_Params8, .int .i64 r_Locals8, .slice r_Code8.a r_Code8.len r_Code8.cap] 30) w fun (b10 : Addr) (w : World) =>
 Run .sl Tryz.prog (Builtin.append_ #[24, 24] 24 #[.slice Funcs7.a Funcs7.len Funcs7.cap, .slice (some b10) 1 1]) w fun (s8 : Sl) (w : World) =>
 St (now.add 1) (.slice s8.a s8.len s8.cap) w fun (w : World) =>
 ∃ m18 : Nat, m18 < m17 ∧ Inv_9 (IntKind.i64.wrap (i7 + 1)) m18 w) else (Ld .sl w q fun (q_Systems3 : Sl) => Ld .sl w (q.add 1) fun (q_Funcs3 : Sl) =>
 c22 q_Systems3 q_Funcs3 w fun (y : Sl) (z : Int) (w : World) =>
 Ld .sl w now fun (now_Systems : Sl) => Ld .sl w (now.add 1) fun (now_Funcs : Sl) =>
 c23 now_Systems now_Funcs w fun (v : Sl) (w_ : Int) (w : World) =>
 RdB w ⟨y.a, y.len, y.cap⟩ fun (x18 : ByteArray) =>
 RdB w ⟨v.a, v.len, v.cap⟩ fun (x19 : ByteArray) =>
 if (cond (!(x18.toList == x19.toList)) true (z != w_)) = true then (R false w) else (Nw (.cells #[.string (⟨#[102]⟩ : ByteArray), .int .i64 0, .int .i64 0, .slice none 0 0] 30) w fun (b11 : Addr) (w : World) =>
 c22 ⟨none, 0, 0⟩ ⟨some b11, 1, 1⟩ w fun (x20 : Sl) (x_ : Int) (w : World) =>
 Ld .sl w p fun (p_Systems4 : Sl) => Ld .sl w (p.add 1) fun (p_Funcs4 : Sl) =>
 c22 p_Systems4 p_Funcs4 w fun (d : Sl) (g : Int) (w : World) =>
 ∃ J_3 : World → Prop, (if (!kept4) = true then (R false w) else (RdB w ⟨d.a, d.len, d.cap⟩ fun (x21 : ByteArray) =>
 RdB w ⟨c.a, c.len, c.cap⟩ fun (x22 : ByteArray) =>
 if (!(x21.toList == x22.toList)) = true then (R false w) else (if (g != f) = true then (R false w) else (RdB w ⟨b6.a, b6.len, b6.cap⟩ fun (x23 : ByteArray) =>
 RdB w ⟨c.a, c.len, c.cap⟩ fun (x24 : ByteArray) =>
 if (!(x23.toList == x24.toList)) = true then (R false w) else (RdB w ⟨x20.a, x20.len, x20.cap⟩ fun (x25 : ByteArray) =>
 if (!(x25.toList == (⟨#[0, 1, 1, 102, 0, 0, 0]⟩ : ByteArray).toList)) = true then (R false w) else (J_3  w)))))) ∧ ∀ w : World, J_3  w → (Nw (.cells #[.slice b6.a b6.len b6.cap, .slice x20.a x20.len x20.cap, .slice d.a d.len d.cap] 34) w fun (b12 : Addr) (w : World) =>
 ∃ Inv_10 : Int → Nat → World → Prop, (∃ n : Nat, Inv_10 0 n w) ∧ ∀ i8 : Int, ∀ m19 : Nat, ∀ w : World, Inv_10 i8 m19 w → (if (decide (i8 < 3)) = true then (∃ Inv_11 : Int → Nat → World → Prop, (∃ n : Nat, Inv_11 0 n w) ∧ ∀ k4 : Int, ∀ m21 : Nat, ∀ w : World, Inv_11 k4 m21 w → (Ix (some b12) 3 i8 1 fun (a23 : Addr) =>
 Ld .sl w a23 fun (x26 : Sl) =>
 if (decide (k4 < (x26.len : Int))) = true then (Ix (some b12) 3 i8 1 fun (a24 : Addr) =>
 Ld .sl w a24 fun (x27 : Sl) =>
 Ix x27.a x27.len k4 1 fun (a25 : Addr) =>
 St a25 (.int .u8 (IntKind.u8.wrap (IntKind.i64.wrap (i8 + 1)))) w fun (w : World) =>
 ∃ m22 : Nat, m22 < m21 ∧ Inv_11 (IntKind.i64.wrap (k4 + 1)) m22 w) else (∃ m20 : Nat, m20 < m19 ∧ Inv_10 (IntKind.i64.wrap (i8 + 1)) m20 w))) else (∃ Inv_12 : Sl → Int → Nat → World → Prop, (∃ n : Nat, Inv_12 ⟨some b12, 3, 3⟩ 0 n w) ∧ ∀ l3 : Sl, ∀ i9 : Int, ∀ m23 : Nat, ∀ w : World, Inv_12 l3 i9 m23 w → (if (decide (i9 < 3)) = true then (Ix l3.a l3.len i9 1 fun (a26 : Addr) =>
 Ld .sl w a26 fun (w_2 : Sl) =>
 ∃ Inv_13 : Sl → Int → Nat → World → Prop, (∃ n : Nat, Inv_13 w_2 0 n w) ∧ ∀ w_3 : Sl, ∀ k5 : Int, ∀ m25 : Nat, ∀ w : World, Inv_13 w_3 k5 m25 w → (if (decide (k5 < 70)) = true then (Nw (.cells #[.int .u8 (IntKind.u8.wrap (IntKind.i64.wrap (i9 + 1)))] 5) w fun (b13 : Addr) (w : World) =>
 Run .sl Tryz.prog (Builtin.append_ #[34, 34] 34 #[.slice w_3.a w_3.len w_3.cap, .slice (some b13) 1 1]) w fun (w_4 : Sl) (w : World) =>
 ∃ m26 : Nat, m26 < m25 ∧ Inv_13 w_4 (IntKind.i64.wrap (k5 + 1)) m26 w) else (Nw (.cells #[.slice w_3.a w_3.len w_3.cap] 34) w fun (b14 : Addr) (w : World) =>
 Run .sl Tryz.prog (Builtin.append_ #[62, 62] 62 #[.slice l3.a l3.len l3.cap, .slice (some b14) 1 1]) w fun (l4 : Sl) (w : World) =>
 ∃ m24 : Nat, m24 < m23 ∧ Inv_12 l4 (IntKind.i64.wrap (i9 + 1)) m24 w))) else (∃ Inv_14 : Int → Nat → World → Prop, (∃ n : Nat, Inv_14 0 n w) ∧ ∀ i10 : Int, ∀ m27 : Nat, ∀ w : World, Inv_14 i10 m27 w → (if (decide (i10 < (l3.len : Int))) = true then (∃ Inv_15 : Int → Nat → World → Prop, (∃ n : Nat, Inv_15 0 n w) ∧ ∀ k6 : Int, ∀ m29 : Nat, ∀ w : World, Inv_15 k6 m29 w → (Ix l3.a l3.len i10 1 fun (a27 : Addr) =>
 Ld .sl w a27 fun (x28 : Sl) =>
 if (decide (k6 < (x28.len : Int))) = true then (Ix l3.a l3.len i10 1 fun (a28 : Addr) =>
 Ld .sl w a28 fun (x29 : Sl) =>
 Ix x29.a x29.len k6 1 fun (a29 : Addr) =>
 Ld (.i .u8) w a29 fun (x30 : Int) =>
 (3 : Int) ≠ 0 ∧ (if (x30 != (IntKind.u8.wrap (IntKind.i64.wrap ((Int.tmod i10 3) + 1)))) = true then (R false w) else (∃ m30 : Nat, m30 < m29 ∧ Inv_15 (IntKind.i64.wrap (k6 + 1)) m30 w))) else (∃ m28 : Nat, m28 < m27 ∧ Inv_14 (IntKind.i64.wrap (i10 + 1)) m28 w))) else (R true w)))))))))))))))))))))))
def f6 (r_Name : ByteArray) (r_Params r_Locals : Int) (r_Code : Sl) (s : ByteArray) (w : World) (R : Bool → World → Prop) : Prop :=
 Nw (.cells #[.string r_Name, .int .i64 r_Params, .int .i64 r_Locals, .slice r_Code.a r_Code.len r_Code.cap] 30) w fun (r : Addr) (w : World) =>
 c8  w fun (head : Bool) (w : World) =>
 Ld .s w r fun (r_Name2 : ByteArray) => Ld (.i .i64) w (r.add 1) fun (r_Params2 : Int) => Ld (.i .i64) w (r.add 2) fun (r_Locals2 : Int) => Ld .sl w (r.add 3) fun (r_Code2 : Sl) =>
 c20 r_Name2 r_Params2 r_Locals2 r_Code2 w fun (x_Name : ByteArray) (x_Params x_Locals : Int) (x_Code l : Sl) (w : World) =>
 Nw (.cells #[.string (⟨#[]⟩ : ByteArray), .int .i64 0, .int .i64 0, .slice none 0 0] 30) w fun (x : Addr) (w : World) =>
 St x (.string x_Name) w fun (w : World) =>
 St (x.add 1) (.int .i64 x_Params) w fun (w : World) =>
 St (x.add 2) (.int .i64 x_Locals) w fun (w : World) =>
 St (x.add 3) (.slice x_Code.a x_Code.len x_Code.cap) w fun (w : World) =>
 Ld .s w x fun (x_Name2 : ByteArray) => Ld (.i .i64) w (x.add 1) fun (x_Params2 : Int) => Ld (.i .i64) w (x.add 2) fun (x_Locals2 : Int) => Ld .sl w (x.add 3) fun (x_Code2 : Sl) =>
 c25 x_Name2 x_Params2 x_Locals2 x_Code2 w fun (t : ByteArray) (w : World) =>
 Ld .s w r fun (r_Name3 : ByteArray) => Ld (.i .i64) w (r.add 1) fun (r_Params3 : Int) => Ld (.i .i64) w (r.add 2) fun (r_Locals3 : Int) => Ld .sl w (r.add 3) fun (r_Code3 : Sl) =>
 c24 l r_Name3 r_Params3 r_Locals3 r_Code3 w fun (k : Bool) (w : World) =>
 ∃ Inv_ : Int → Nat → World → Prop, (∃ n : Nat, Inv_ 0 n w) ∧ ∀ i : Int, ∀ m : Nat, ∀ w : World, Inv_ i m w → (if (decide (i < (l.len : Int))) = true then (Ix l.a l.len i 2 fun (a : Addr) =>
 St a (.int .i64 24) w fun (w : World) =>
 St (a.add 1) (.int .i64 0) w fun (w : World) =>
 ∃ m2 : Nat, m2 < m ∧ Inv_ (IntKind.i64.wrap (i + 1)) m2 w) else (Ld .s w r fun (now_Name : ByteArray) => Ld (.i .i64) w (r.add 1) fun (now_Params : Int) => Ld (.i .i64) w (r.add 2) fun (now_Locals : Int) => Ld .sl w (r.add 3) fun (now_Code : Sl) =>
 Nw (.cells #[.string (⟨#[]⟩ : ByteArray), .int .i64 0, .int .i64 0, .slice none 0 0] 30) w fun (now : Addr) (w : World) =>
 St now (.string now_Name) w fun (w : World) =>
 St (now.add 1) (.int .i64 now_Params) w fun (w : World) =>
 St (now.add 2) (.int .i64 now_Locals) w fun (w : World) =>
 St (now.add 3) (.slice now_Code.a now_Code.len now_Code.cap) w fun (w : World) =>
 Nw (.cells #[] 23) w fun (b : Addr) (w : World) =>
 Ld .sl w (x.add 3) fun (Code : Sl) =>
 Run .sl Tryz.prog (Builtin.append_ #[28, 28] 28 #[.slice (some b) 0 0, .slice Code.a Code.len Code.cap]) w fun (s2 : Sl) (w : World) =>
 St (now.add 3) (.slice s2.a s2.len s2.cap) w fun (w : World) =>
 ∃ J_ : Bool → World → Prop, (Dr w fun (w : World) =>
 if k = true then (Ld .s w x fun (x_Name3 : ByteArray) => Ld (.i .i64) w (x.add 1) fun (x_Params3 : Int) => Ld (.i .i64) w (x.add 2) fun (x_Locals3 : Int) => Ld .sl w (x.add 3) fun (x_Code3 : Sl) =>
 Ld .s w now fun (now_Name2 : ByteArray) => Ld (.i .i64) w (now.add 1) fun (now_Params2 : Int) => Ld (.i .i64) w (now.add 2) fun (now_Locals2 : Int) => Ld .sl w (now.add 3) fun (now_Code2 : Sl) =>
 c25 x_Name3 x_Params3 x_Locals3 x_Code3 w fun (r2 : ByteArray) (w : World) =>
 w.cell? now = some (.string now_Name2) ∧ w.cell? (now.add 1) = some (.int .i64 now_Params2) ∧ w.cell? (now.add 2) = some (.int .i64 now_Locals2) ∧ w.cell? (now.add 3) = some (.slice now_Code2.a now_Code2.len now_Code2.cap) ∧ (c26 now_Name2 now_Params2 now_Locals2 now_Code2 w fun (r3 : ByteArray) (w : World) =>
 J_ (r2.toList == r3.toList) w)) else (J_ false w)) ∧ ∀ k2 : Bool, ∀ w : World, J_ k2 w → (c27 s w fun (a_Name : ByteArray) (a_Params a_Locals : Int) (a_Code : Sl) (e : Value) (w : World) =>
 Nw (.cells #[.string (⟨#[]⟩ : ByteArray), .int .i64 0, .int .i64 0, .slice none 0 0] 30) w fun (a2 : Addr) (w : World) =>
 St a2 (.string a_Name) w fun (w : World) =>
 St (a2.add 1) (.int .i64 a_Params) w fun (w : World) =>
 St (a2.add 2) (.int .i64 a_Locals) w fun (w : World) =>
 St (a2.add 3) (.slice a_Code.a a_Code.len a_Code.cap) w fun (w : World) =>
 c16 e w fun (at_ bad : Int) (is : Bool) (w : World) =>
 c28 s w fun (b_Name : ByteArray) (b_Params b_Locals : Int) (b_Code : Sl) (place worse : Int) (w : World) =>
 Nw (.cells #[.string (⟨#[]⟩ : ByteArray), .int .i64 0, .int .i64 0, .slice none 0 0] 30) w fun (b2 : Addr) (w : World) =>
 St b2 (.string b_Name) w fun (w : World) =>
 St (b2.add 1) (.int .i64 b_Params) w fun (w : World) =>
 St (b2.add 2) (.int .i64 b_Locals) w fun (w : World) =>
 St (b2.add 3) (.slice b_Code.a b_Code.len b_Code.cap) w fun (w : World) =>
 c27 s w fun (c_Name : ByteArray) (c_Params c_Locals : Int) (c_Code : Sl) (f : Value) (w : World) =>
 Nw (.cells #[.string (⟨#[]⟩ : ByteArray), .int .i64 0, .int .i64 0, .slice none 0 0] 30) w fun (c : Addr) (w : World) =>
 St c (.string c_Name) w fun (w : World) =>
 St (c.add 1) (.int .i64 c_Params) w fun (w : World) =>
 St (c.add 2) (.int .i64 c_Locals) w fun (w : World) =>
 St (c.add 3) (.slice c_Code.a c_Code.len c_Code.cap) w fun (w : World) =>
 Ld .s w a2 fun (a_Name2 : ByteArray) => Ld (.i .i64) w (a2.add 1) fun (a_Params2 : Int) => Ld (.i .i64) w (a2.add 2) fun (a_Locals2 : Int) => Ld .sl w (a2.add 3) fun (a_Code2 : Sl) =>
 Ld .s w b2 fun (b_Name2 : ByteArray) => Ld (.i .i64) w (b2.add 1) fun (b_Params2 : Int) => Ld (.i .i64) w (b2.add 2) fun (b_Locals2 : Int) => Ld .sl w (b2.add 3) fun (b_Code2 : Sl) =>
 c29 a_Name2 a_Params2 a_Locals2 a_Code2 b_Name2 b_Params2 b_Locals2 b_Code2 w fun (one : Bool) (w : World) =>
 Ld .sl w (a2.add 3) fun (Code2 : Sl) =>
 Nw (.cells #[.slice Code2.a Code2.len Code2.cap] 28) w fun (b3 : Addr) (w : World) =>
 c30 ⟨some b3, 1, 1⟩ w fun (apart : Bool) (w : World) =>
 Ld .s w c fun (c_Name2 : ByteArray) => Ld (.i .i64) w (c.add 1) fun (c_Params2 : Int) => Ld (.i .i64) w (c.add 2) fun (c_Locals2 : Int) => Ld .sl w (c.add 3) fun (c_Code2 : Sl) =>
 Ld .s w b2 fun (b_Name3 : ByteArray) => Ld (.i .i64) w (b2.add 1) fun (b_Params3 : Int) => Ld (.i .i64) w (b2.add 2) fun (b_Locals3 : Int) => Ld .sl w (b2.add 3) fun (b_Code3 : Sl) =>
 c29 c_Name2 c_Params2 c_Locals2 c_Code2 b_Name3 b_Params3 b_Locals3 b_Code3 w fun (two : Bool) (w : World) =>
 Dr w fun (w : World) =>
 if head = true then (if k2 = true then (if apart = true then (Ld .s w r fun (r_Name4 : ByteArray) => Ld (.i .i64) w (r.add 1) fun (r_Params4 : Int) => Ld (.i .i64) w (r.add 2) fun (r_Locals4 : Int) => Ld .sl w (r.add 3) fun (r_Code4 : Sl) =>
 c26 r_Name4 r_Params4 r_Locals4 r_Code4 w fun (r4 : ByteArray) (w : World) =>
 if (t.toList == r4.toList) = true then (if one = true then (if two = true then (if is = true then (if (at_ == place) = true then (if (bad == worse) = true then (RunRo .b Tryz.prog (binSem .eql 39 (.tmp 125) (.const (.nilIface)) (f) (.nilIface)) w fun (eq : Bool) =>
 RunRo .b Tryz.prog (binSem .eql 39 (.tmp 127) (.const (.nilIface)) (e) (.nilIface)) w fun (eq2 : Bool) =>
 R (eq == eq2) w) else (R false w)) else (R false w)) else (R false w)) else (R false w)) else (R false w)) else (R false w)) else (R false w)) else (R false w)) else (R false w))))
def f8 (w : World) (R : Bool → World → Prop) : Prop :=
 Nw (.cells #[.int .i64 2, .int .i64 0, .int .i64 1, .int .i64 (-3), .int .i64 6, .int .i64 0, .int .i64 22, .int .i64 0] 23) w fun (b : Addr) (w : World) =>
 Nw (.cells #[.string (⟨#[]⟩ : ByteArray), .int .i64 0, .int .i64 0, .slice none 0 0] 30) w fun (r : Addr) (w : World) =>
 St r (.string (⟨#[102]⟩ : ByteArray)) w fun (w : World) =>
 St (r.add 1) (.int .i64 1) w fun (w : World) =>
 St (r.add 2) (.int .i64 2) w fun (w : World) =>
 St (r.add 3) (.slice (some b) 4 4) w fun (w : World) =>
 Ld .s w r fun (r_Name : ByteArray) => Ld (.i .i64) w (r.add 1) fun (r_Params : Int) => Ld (.i .i64) w (r.add 2) fun (r_Locals : Int) => Ld .sl w (r.add 3) fun (r_Code : Sl) =>
 c25 r_Name r_Params r_Locals r_Code w fun (s : ByteArray) (w : World) =>
 c27 (⟨#[102, 32, 49, 32, 50, 10, 112, 117, 115, 104, 32, 55, 10]⟩ : ByteArray) w fun (x_Name : ByteArray) (x_Params x_Locals : Int) (x_Code : Sl) (e : Value) (w : World) =>
 Nw (.cells #[.string (⟨#[]⟩ : ByteArray), .int .i64 0, .int .i64 0, .slice none 0 0] 30) w fun (x : Addr) (w : World) =>
 St x (.string x_Name) w fun (w : World) =>
 St (x.add 1) (.int .i64 x_Params) w fun (w : World) =>
 St (x.add 2) (.int .i64 x_Locals) w fun (w : World) =>
 St (x.add 3) (.slice x_Code.a x_Code.len x_Code.cap) w fun (w : World) =>
 c27 (⟨#[102, 32, 49, 32, 50, 10, 108, 111, 97, 100, 32, 48, 48, 10]⟩ : ByteArray) w fun (x__Name : ByteArray) (x__Params x__Locals : Int) (x__Code : Sl) (f : Value) (w : World) =>
 Nw (.cells #[.string (⟨#[]⟩ : ByteArray), .int .i64 0, .int .i64 0, .slice none 0 0] 30) w fun (x_ : Addr) (w : World) =>
 St x_ (.string x__Name) w fun (w : World) =>
 St (x_.add 1) (.int .i64 x__Params) w fun (w : World) =>
 St (x_.add 2) (.int .i64 x__Locals) w fun (w : World) =>
 St (x_.add 3) (.slice x__Code.a x__Code.len x__Code.cap) w fun (w : World) =>
 c16 f w fun (at_ bad : Int) (is : Bool) (w : World) =>
 c9 26 26 ⟨none, 0, 0⟩ w fun (t p : Int) (w : World) =>
 c22 ⟨none, 0, 0⟩ ⟨none, 0, 0⟩ w fun (b2 : Sl) (g : Int) (w : World) =>
 Nw (.cells #[.int .u8 0, .int .u8 0, .int .u8 0] 5) w fun (b3 : Addr) (w : World) =>
 c15 ⟨some b3, 3, 3⟩ w fun (x__Systems x__Funcs : Sl) (h : Value) (w : World) =>
 Nw (.cells #[.slice none 0 0, .slice none 0 0] 37) w fun (x_2 : Addr) (w : World) =>
 St x_2 (.slice x__Systems.a x__Systems.len x__Systems.cap) w fun (w : World) =>
 St (x_2.add 1) (.slice x__Funcs.a x__Funcs.len x__Funcs.cap) w fun (w : World) =>
 c16 h w fun (place worse : Int) (also : Bool) (w : World) =>
 Nw (.cells #[.int .u8 0, .int .u8 1, .int .u8 1, .int .u8 102, .int .u8 0, .int .u8 0, .int .u8 1, .int .u8 22] 5) w fun (b4 : Addr) (w : World) =>
 c15 ⟨some b4, 8, 8⟩ w fun (q_Systems q_Funcs : Sl) (i : Value) (w : World) =>
 Nw (.cells #[.slice none 0 0, .slice none 0 0] 37) w fun (q : Addr) (w : World) =>
 St q (.slice q_Systems.a q_Systems.len q_Systems.cap) w fun (w : World) =>
 St (q.add 1) (.slice q_Funcs.a q_Funcs.len q_Funcs.cap) w fun (w : World) =>
 if (s.toList == (⟨#[102, 32, 49, 32, 50, 10, 108, 111, 97, 100, 32, 48, 10, 112, 117, 115, 104, 32, 45, 51, 10, 97, 100, 100, 10, 114, 101, 116, 10]⟩ : ByteArray).toList) = true then (RunRo .b Tryz.prog (binSem .eql 39 (.tmp 72) (.const (.nilIface)) (e) (.nilIface)) w fun (eq : Bool) =>
 if eq = true then (Ld .sl w (x.add 3) fun (Code : Sl) =>
 if ((Code.len : Int) == 1) = true then (Ld .sl w (x.add 3) fun (Code2 : Sl) =>
 Ix Code2.a Code2.len 0 2 fun (a : Addr) =>
 Ld (.i .i64) w (a.add 1) fun (A : Int) =>
 if (A == 7) = true then (if (at_ == 6) = true then (if (bad == 130) = true then (if is = true then (if (t == 2) = true then (if (p == 0) = true then (RdB w ⟨b2.a, b2.len, b2.cap⟩ fun (x2 : ByteArray) =>
 if (x2.toList == (⟨#[0, 0]⟩ : ByteArray).toList) = true then (if (g == 0) = true then (if (place == 2) = true then (if (worse == 130) = true then (if also = true then (RunRo .b Tryz.prog (binSem .eql 39 (.tmp 129) (.const (.nilIface)) (i) (.nilIface)) w fun (eq2 : Bool) =>
 if eq2 = true then (Ld .sl w (q.add 1) fun (Funcs : Sl) =>
 if ((Funcs.len : Int) == 1) = true then (Ld .sl w (q.add 1) fun (Funcs2 : Sl) =>
 Ix Funcs2.a Funcs2.len 0 4 fun (a2 : Addr) =>
 Ld .sl w (a2.add 3) fun (Code3 : Sl) =>
 if ((Code3.len : Int) == 1) = true then (c11 1 w fun (r2 : ByteArray) (w : World) =>
 if (r2.toList == (⟨#[112, 117, 115, 104]⟩ : ByteArray).toList) = true then (c13 (⟨#[100, 114, 111, 112]⟩ : ByteArray) w fun (r3 : Int) (w : World) =>
 R (r3 == 39) w) else (R false w)) else (R false w)) else (R false w)) else (R false w)) else (R false w)) else (R false w)) else (R false w)) else (R false w)) else (R false w)) else (R false w)) else (R false w)) else (R false w)) else (R false w)) else (R false w)) else (R false w)) else (R false w)) else (R false w)) else (R false w)
theorem c8_of {w R} (h : f8  w R) : c8  w R :=
  callK_of (H := ⟨[], []⟩) okP Tryz.func8 (cast (by kernel_rfl) h)
def f9 (i_Op i_A : Int) (funcs : Sl) (w : World) (R : Int → Int → World → Prop) : Prop :=
 Nw (.cells #[.int .i64 i_Op, .int .i64 i_A] 23) w fun (i : Addr) (w : World) =>
 Ld (.i .i64) w i fun (Op : Int) =>
 c31 Op w fun (r : Bool) (w : World) =>
 if (!r) = true then (R 0 0 w) else (Ld (.i .i64) w i fun (Op2 : Int) =>
 c32 Op2 w fun (s_word : ByteArray) (s_number : Bool) (s_takes s_puts s_by : Int) (w : World) =>
 Nw (.cells #[.string (⟨#[]⟩ : ByteArray), .bool false, .int .i64 0, .int .i64 0, .int .i64 0] 74) w fun (s : Addr) (w : World) =>
 St s (.string s_word) w fun (w : World) =>
 St (s.add 1) (.bool s_number) w fun (w : World) =>
 St (s.add 2) (.int .i64 s_takes) w fun (w : World) =>
 St (s.add 3) (.int .i64 s_puts) w fun (w : World) =>
 St (s.add 4) (.int .i64 s_by) w fun (w : World) =>
 ∃ J_ : World → Prop, (∃ J_2 : Bool → World → Prop, (Ld (.i .i64) w (s.add 4) fun (by_ : Int) =>
 if (by_ == 1) = true then (Ld (.i .i64) w (i.add 1) fun (A : Int) =>
 if (decide (A ≥ 0)) = true then (Ld (.i .i64) w (i.add 1) fun (A2 : Int) =>
 J_2 (decide (A2 < (funcs.len : Int))) w) else (J_2 false w)) else (J_2 false w)) ∧ ∀ t14 : Bool, ∀ w : World, J_2 t14 w → (if t14 = true then (Ld (.i .i64) w (i.add 1) fun (A3 : Int) =>
 Ix funcs.a funcs.len A3 4 fun (a : Addr) =>
 Ld (.i .i64) w (a.add 1) fun (Params : Int) =>
 St (s.add 2) (.int .i64 (if 0 > Params then 0 else Params)) w fun (w : World) =>
 J_  w) else (∃ J_3 : Bool → World → Prop, (Ld (.i .i64) w (s.add 4) fun (by_2 : Int) =>
 if (by_2 == 2) = true then (Ld (.i .i64) w (i.add 1) fun (A4 : Int) =>
 J_3 (decide (A4 ≥ 0)) w) else (J_3 false w)) ∧ ∀ t38 : Bool, ∀ w : World, J_3 t38 w → (if t38 = true then (Ld (.i .i64) w (i.add 1) fun (A5 : Int) =>
 (8 : Int) ≠ 0 ∧ (St (s.add 2) (.int .i64 (Int.tmod A5 8)) w fun (w : World) =>
 J_  w)) else (J_  w))))) ∧ ∀ w : World, J_  w → (Dr w fun (w : World) =>
 Ld (.i .i64) w (s.add 2) fun (takes : Int) =>
 Ld (.i .i64) w (s.add 3) fun (puts : Int) =>
 R takes puts w))
theorem c9_of {i_Op i_A funcs w R} (h : f9 i_Op i_A funcs w R) : c9 i_Op i_A funcs w R :=
  callK_of (H := ⟨[], [(5, ⟨[(14, .b)], [1, 2, 6]⟩), (7, ⟨[(38, .b)], [2, 6]⟩), (8, ⟨[], [6]⟩)]⟩) okP Tryz.func9 (cast (by kernel_rfl) h)
def f11 (op : Int) (w : World) (R : ByteArray → World → Prop) : Prop :=
 c31 op w fun (r : Bool) (w : World) =>
 if (!r) = true then (R (⟨#[]⟩ : ByteArray) w) else (c32 op w fun (r_word : ByteArray) (r_number : Bool) (r_takes r_puts r_by : Int) (w : World) =>
 R r_word w)
theorem c11_of {op w R} (h : f11 op w R) : c11 op w R :=
  callK_of (H := ⟨[], []⟩) okP Tryz.func11 (cast (by kernel_rfl) h)
def f13 (name : ByteArray) (w : World) (R : Int → World → Prop) : Prop :=
 ∃ Inv_ : Int → Nat → World → Prop, (∃ n : Nat, Inv_ 1 n w) ∧ ∀ op : Int, ∀ m : Nat, ∀ w : World, Inv_ op m w → (if (decide (op ≤ 39)) = true then (c32 op w fun (r_word : ByteArray) (r_number : Bool) (r_takes r_puts r_by : Int) (w : World) =>
 if (r_word.toList == name.toList) = true then (R op w) else (∃ m2 : Nat, m2 < m ∧ Inv_ (IntKind.i64.wrap (op + 1)) m2 w)) else (R 0 w))
theorem c13_of {name w R} (h : f13 name w R) : c13 name w R :=
  callK_of (H := ⟨[(2, ⟨[(3, .i .i64)], [0]⟩)], []⟩) okP Tryz.func13 (cast (by kernel_rfl) h)
def f16 (e : Value) (w : World) (R : Int → Int → Bool → World → Prop) : Prop :=
 RunRo .b Tryz.prog (binSem .eql 39 (.tmp 7) (.const (.nilIface)) (e) (.nilIface)) w fun (eq : Bool) =>
 if eq = true then (R 0 0 true w) else (RunRoL [.one .p, .one .b] Tryz.prog (Instr.typeAssert (e) 39 86 true) w fun (x : Option Addr) (ok : Bool) (_ : World) =>
 if (cond (!ok) true x.isNone) = true then (R 0 0 false w) else (Dr w fun (w : World) =>
 NN x fun (f_ : Addr) =>
 Ld (.i .i64) w f_ fun (At : Int) =>
 NN x fun (f_2 : Addr) =>
 Ld (.i .i64) w (f_2.add 1) fun (Err : Int) =>
 NN x fun (f_3 : Addr) =>
 Ld (.i .i64) w (f_3.add 1) fun (Err2 : Int) =>
 R At Err (Err2 != 0) w))
theorem c16_of {e w R} (h : f16 e w R) : c16 e w R :=
  callK_of (H := ⟨[], []⟩) okP Tryz.func16 (cast (by kernel_rfl) h)
def f17 (b : Sl) (w : World) (R : Sl → Sl → Int → Int → World → Prop) : Prop :=
 Nw (.cells #[.slice none 0 0, .slice none 0 0] 37) w fun (a : Addr) (w : World) =>
 Nw (.cells #[.slice b.a b.len b.cap, .int .i64 0, .bool false, .int .i64 0] 92) w fun (r : Addr) (w : World) =>
 Nw (.cells #[.slice none 0 0, .slice none 0 0] 37) w fun (p : Addr) (w : World) =>
 St p (.slice none 0 0) w fun (w : World) =>
 St (p.add 1) (.slice none 0 0) w fun (w : World) =>
 c38 (some r) 0 16 w fun (n_ : Int) (w : World) =>
 ∃ J_ : World → Prop, (∃ Inv_ : Int → Nat → World → Prop, (∃ n : Nat, Inv_ 0 n w) ∧ ∀ i : Int, ∀ m : Nat, ∀ w : World, Inv_ i m w → (∃ J_2 : World → Prop, (if (decide (i < n_)) = true then (Ld .b w (r.add 2) fun (bad : Bool) =>
 if (!bad) = true then (J_2  w) else (J_  w)) else (J_  w)) ∧ ∀ w : World, J_2  w → (Nw (.cells #[.slice none 0 0, .slice none 0 0, .slice none 0 0, .slice none 0 0, .string (⟨#[]⟩ : ByteArray), .int .i64 0, .int .i64 0, .slice none 0 0] 54) w fun (s : Addr) (w : World) =>
 St s (.slice none 0 0) w fun (w : World) =>
 St (s.add 1) (.slice none 0 0) w fun (w : World) =>
 St (s.add 2) (.slice none 0 0) w fun (w : World) =>
 St (s.add 3) (.slice none 0 0) w fun (w : World) =>
 St (s.add 4) (.string (⟨#[]⟩ : ByteArray)) w fun (w : World) =>
 St (s.add 5) (.int .i64 0) w fun (w : World) =>
 St (s.add 6) (.int .i64 0) w fun (w : World) =>
 St (s.add 7) (.slice none 0 0) w fun (w : World) =>
 c39 (some r) w fun (r2 : Sl) (w : World) =>
 St s (.slice r2.a r2.len r2.cap) w fun (w : World) =>
 c39 (some r) w fun (r3 : Sl) (w : World) =>
 St (s.add 1) (.slice r3.a r3.len r3.cap) w fun (w : World) =>
 c39 (some r) w fun (r4 : Sl) (w : World) =>
 St (s.add 2) (.slice r4.a r4.len r4.cap) w fun (w : World) =>
 c39 (some r) w fun (r5 : Sl) (w : World) =>
 St (s.add 3) (.slice r5.a r5.len r5.cap) w fun (w : World) =>
 c40 (some r) w fun (r_Name : ByteArray) (r_Params r_Locals : Int) (r_Code : Sl) (w : World) =>
 St (s.add 4) (.string r_Name) w fun (w : World) =>
 St ((s.add 4).add 1) (.int .i64 r_Params) w fun (w : World) =>
 St ((s.add 4).add 2) (.int .i64 r_Locals) w fun (w : World) =>
 St ((s.add 4).add 3) (.slice r_Code.a r_Code.len r_Code.cap) w fun (w : World) =>
 Ld .sl w p fun (Systems : Sl) =>
 Ld .sl w s fun (s_With : Sl) => Ld .sl w (s.add 1) fun (s_Without : Sl) => Ld .sl w (s.add 2) fun (s_Reads : Sl) => Ld .sl w (s.add 3) fun (s_Writes : Sl) => Ld .s w (s.add 4) fun (s_Run_Name : ByteArray) => Ld (.i .i64) w (s.add 5) fun (s_Run_Params : Int) => Ld (.i .i64) w (s.add 6) fun (s_Run_Locals : Int) => Ld .sl w (s.add 7) fun (s_Run_Code : Sl) =>
 Nw (.cells #[.slice s_With.a s_With.len s_With.cap, .slice s_Without.a s_Without.len s_Without.cap, .slice s_Reads.a s_Reads.len s_Reads.cap, .slice s_Writes.a s_Writes.len s_Writes.cap, .string s_Run_Name, .int .i64 s_Run_Params, .int .i64 s_Run_Locals, .slice s_Run_Code.a s_Run_Code.len s_Run_Code.cap] 54) w fun (b2 : Addr) (w : World) =>
 Run .sl Tryz.prog (Builtin.append_ #[35, 35] 35 #[.slice Systems.a Systems.len Systems.cap, .slice (some b2) 1 1]) w fun (s2 : Sl) (w : World) =>
 St p (.slice s2.a s2.len s2.cap) w fun (w : World) =>
 ∃ m2 : Nat, m2 < m ∧ Inv_ (IntKind.i64.wrap (i + 1)) m2 w))) ∧ ∀ w : World, J_  w → (c38 (some r) 0 16 w fun (m3 : Int) (w : World) =>
 ∃ J_3 : World → Prop, (∃ Inv_2 : Int → Nat → World → Prop, (∃ n : Nat, Inv_2 0 n w) ∧ ∀ i2 : Int, ∀ m4 : Nat, ∀ w : World, Inv_2 i2 m4 w → (∃ J_4 : World → Prop, (if (decide (i2 < m3)) = true then (Ld .b w (r.add 2) fun (bad2 : Bool) =>
 if (!bad2) = true then (J_4  w) else (J_3  w)) else (J_3  w)) ∧ ∀ w : World, J_4  w → (Dr w fun (w : World) =>
 Ld .sl w (p.add 1) fun (Funcs : Sl) =>
 c40 (some r) w fun (r_Name2 : ByteArray) (r_Params2 r_Locals2 : Int) (r_Code2 : Sl) (w : World) =>
 w.cell? (p.add 1) = some (.slice Funcs.a Funcs.len Funcs.cap) ∧ (Nw (.cells #[.string r_Name2, .int .i64 r_Params2, .int .i64 r_Locals2, .slice r_Code2.a r_Code2.len r_Code2.cap] 30) w fun (b3 : Addr) (w : World) =>
 Run .sl Tryz.prog (Builtin.append_ #[24, 24] 24 #[.slice Funcs.a Funcs.len Funcs.cap, .slice (some b3) 1 1]) w fun (s3 : Sl) (w : World) =>
 St (p.add 1) (.slice s3.a s3.len s3.cap) w fun (w : World) =>
 ∃ m5 : Nat, m5 < m4 ∧ Inv_2 (IntKind.i64.wrap (i2 + 1)) m5 w)))) ∧ ∀ w : World, J_3  w → (∃ J_5 : Bool → World → Prop, (Ld .b w (r.add 2) fun (bad3 : Bool) =>
 if bad3 = true then (J_5 true w) else (Ld (.i .i64) w (r.add 1) fun (at_ : Int) =>
 J_5 (decide (at_ < (b.len : Int))) w)) ∧ ∀ t85 : Bool, ∀ w : World, J_5 t85 w → (if t85 = true then (Dr w fun (w : World) =>
 Ld (.i .i64) w (r.add 1) fun (at_2 : Int) =>
 St a (.slice none 0 0) w fun (w : World) =>
 St (a.add 1) (.slice none 0 0) w fun (w : World) =>
 w.cell? (r.add 1) = some (.int .i64 at_2) ∧ (Ld .sl w a fun (r_Systems : Sl) => Ld .sl w (a.add 1) fun (r_Funcs : Sl) =>
 R r_Systems r_Funcs at_2 130 w)) else (Ld .sl w p fun (p_Systems : Sl) => Ld .sl w (p.add 1) fun (p_Funcs : Sl) =>
 St a (.slice p_Systems.a p_Systems.len p_Systems.cap) w fun (w : World) =>
 St (a.add 1) (.slice p_Funcs.a p_Funcs.len p_Funcs.cap) w fun (w : World) =>
 Ld .sl w a fun (r_Systems2 : Sl) => Ld .sl w (a.add 1) fun (r_Funcs2 : Sl) =>
 R r_Systems2 r_Funcs2 0 0 w))))
theorem c17_of {b w R} (h : f17 b w R) : c17 b w R :=
  callK_of (H := ⟨[(5, ⟨[(8, .i .i64)], [0, 2, 5, 6, 7]⟩), (16, ⟨[(11, .i .i64)], [0, 2, 5, 6, 10]⟩)], [(7, ⟨[], [0, 2, 5, 6, 7, 8]⟩), (14, ⟨[], [0, 2, 5, 6]⟩), (18, ⟨[], [0, 2, 5, 6, 10, 11]⟩), (19, ⟨[], [0, 2, 5, 6]⟩), (20, ⟨[(85, .b)], [2, 5, 6]⟩)]⟩) okP Tryz.func17 (cast (by kernel_rfl) h)
def f18 (a_Systems a_Funcs : Sl) (b_Systems b_Funcs : Sl) (w : World) (R : Bool → World → Prop) : Prop :=
 Nw (.cells #[.slice a_Systems.a a_Systems.len a_Systems.cap, .slice a_Funcs.a a_Funcs.len a_Funcs.cap] 37) w fun (a : Addr) (w : World) =>
 Nw (.cells #[.slice b_Systems.a b_Systems.len b_Systems.cap, .slice b_Funcs.a b_Funcs.len b_Funcs.cap] 37) w fun (b : Addr) (w : World) =>
 ∃ J_ : World → Prop, (Ld .sl w a fun (Systems : Sl) =>
 Ld .sl w b fun (Systems2 : Sl) =>
 if ((Systems.len : Int) != (Systems2.len : Int)) = true then (R false w) else (Ld .sl w (a.add 1) fun (Funcs : Sl) =>
 Ld .sl w (b.add 1) fun (Funcs2 : Sl) =>
 if ((Funcs.len : Int) != (Funcs2.len : Int)) = true then (R false w) else (J_  w))) ∧ ∀ w : World, J_  w → (∃ Inv_ : Int → Nat → World → Prop, (∃ n : Nat, Inv_ 0 n w) ∧ ∀ i : Int, ∀ m : Nat, ∀ w : World, Inv_ i m w → (Ld .sl w a fun (Systems3 : Sl) =>
 if (decide (i < (Systems3.len : Int))) = true then (Ld .sl w a fun (Systems4 : Sl) =>
 Ix Systems4.a Systems4.len i 8 fun (a2 : Addr) =>
 Ld .sl w a2 fun (x_With : Sl) => Ld .sl w (a2.add 1) fun (x_Without : Sl) => Ld .sl w (a2.add 2) fun (x_Reads : Sl) => Ld .sl w (a2.add 3) fun (x_Writes : Sl) => Ld .s w (a2.add 4) fun (x_Run_Name : ByteArray) => Ld (.i .i64) w (a2.add 5) fun (x_Run_Params : Int) => Ld (.i .i64) w (a2.add 6) fun (x_Run_Locals : Int) => Ld .sl w (a2.add 7) fun (x_Run_Code : Sl) =>
 Nw (.cells #[.slice none 0 0, .slice none 0 0, .slice none 0 0, .slice none 0 0, .string (⟨#[]⟩ : ByteArray), .int .i64 0, .int .i64 0, .slice none 0 0] 54) w fun (x : Addr) (w : World) =>
 St x (.slice x_With.a x_With.len x_With.cap) w fun (w : World) =>
 St (x.add 1) (.slice x_Without.a x_Without.len x_Without.cap) w fun (w : World) =>
 St (x.add 2) (.slice x_Reads.a x_Reads.len x_Reads.cap) w fun (w : World) =>
 St (x.add 3) (.slice x_Writes.a x_Writes.len x_Writes.cap) w fun (w : World) =>
 St (x.add 4) (.string x_Run_Name) w fun (w : World) =>
 St (x.add 5) (.int .i64 x_Run_Params) w fun (w : World) =>
 St (x.add 6) (.int .i64 x_Run_Locals) w fun (w : World) =>
 St (x.add 7) (.slice x_Run_Code.a x_Run_Code.len x_Run_Code.cap) w fun (w : World) =>
 Ld .sl w b fun (Systems5 : Sl) =>
 Ix Systems5.a Systems5.len i 8 fun (a3 : Addr) =>
 Ld .sl w a3 fun (y_With : Sl) => Ld .sl w (a3.add 1) fun (y_Without : Sl) => Ld .sl w (a3.add 2) fun (y_Reads : Sl) => Ld .sl w (a3.add 3) fun (y_Writes : Sl) => Ld .s w (a3.add 4) fun (y_Run_Name : ByteArray) => Ld (.i .i64) w (a3.add 5) fun (y_Run_Params : Int) => Ld (.i .i64) w (a3.add 6) fun (y_Run_Locals : Int) => Ld .sl w (a3.add 7) fun (y_Run_Code : Sl) =>
 Nw (.cells #[.slice none 0 0, .slice none 0 0, .slice none 0 0, .slice none 0 0, .string (⟨#[]⟩ : ByteArray), .int .i64 0, .int .i64 0, .slice none 0 0] 54) w fun (y : Addr) (w : World) =>
 St y (.slice y_With.a y_With.len y_With.cap) w fun (w : World) =>
 St (y.add 1) (.slice y_Without.a y_Without.len y_Without.cap) w fun (w : World) =>
 St (y.add 2) (.slice y_Reads.a y_Reads.len y_Reads.cap) w fun (w : World) =>
 St (y.add 3) (.slice y_Writes.a y_Writes.len y_Writes.cap) w fun (w : World) =>
 St (y.add 4) (.string y_Run_Name) w fun (w : World) =>
 St (y.add 5) (.int .i64 y_Run_Params) w fun (w : World) =>
 St (y.add 6) (.int .i64 y_Run_Locals) w fun (w : World) =>
 St (y.add 7) (.slice y_Run_Code.a y_Run_Code.len y_Run_Code.cap) w fun (w : World) =>
 ∃ J_2 : Bool → World → Prop, (Ld .sl w x fun (With : Sl) =>
 Ld .sl w y fun (With2 : Sl) =>
 c41 With With2 w fun (r : Bool) (w : World) =>
 if r = true then (Ld .sl w (x.add 1) fun (Without : Sl) =>
 Ld .sl w (y.add 1) fun (Without2 : Sl) =>
 c41 Without Without2 w fun (r2 : Bool) (w : World) =>
 if r2 = true then (Ld .sl w (x.add 2) fun (Reads : Sl) =>
 Ld .sl w (y.add 2) fun (Reads2 : Sl) =>
 c41 Reads Reads2 w fun (r3 : Bool) (w : World) =>
 if r3 = true then (Ld .sl w (x.add 3) fun (Writes : Sl) =>
 Ld .sl w (y.add 3) fun (Writes2 : Sl) =>
 c41 Writes Writes2 w fun (r4 : Bool) (w : World) =>
 J_2 r4 w) else (J_2 false w)) else (J_2 false w)) else (J_2 false w)) ∧ ∀ one : Bool, ∀ w : World, J_2 one w → (Ld .s w (x.add 4) fun (Run_Name : ByteArray) => Ld (.i .i64) w ((x.add 4).add 1) fun (Run_Params : Int) => Ld (.i .i64) w ((x.add 4).add 2) fun (Run_Locals : Int) => Ld .sl w ((x.add 4).add 3) fun (Run_Code : Sl) =>
 Ld .s w (y.add 4) fun (Run_Name2 : ByteArray) => Ld (.i .i64) w ((y.add 4).add 1) fun (Run_Params2 : Int) => Ld (.i .i64) w ((y.add 4).add 2) fun (Run_Locals2 : Int) => Ld .sl w ((y.add 4).add 3) fun (Run_Code2 : Sl) =>
 c29 Run_Name Run_Params Run_Locals Run_Code Run_Name2 Run_Params2 Run_Locals2 Run_Code2 w fun (two : Bool) (w : World) =>
 if (cond (!one) true (!two)) = true then (R false w) else (∃ m2 : Nat, m2 < m ∧ Inv_ (IntKind.i64.wrap (i + 1)) m2 w))) else (∃ Inv_2 : Int → Nat → World → Prop, (∃ n : Nat, Inv_2 0 n w) ∧ ∀ i2 : Int, ∀ m3 : Nat, ∀ w : World, Inv_2 i2 m3 w → (Ld .sl w (a.add 1) fun (Funcs3 : Sl) =>
 if (decide (i2 < (Funcs3.len : Int))) = true then (Dr w fun (w : World) =>
 Ld .sl w (a.add 1) fun (Funcs4 : Sl) =>
 Ix Funcs4.a Funcs4.len i2 4 fun (a4 : Addr) =>
 Ld .s w a4 fun (x_Name : ByteArray) => Ld (.i .i64) w (a4.add 1) fun (x_Params : Int) => Ld (.i .i64) w (a4.add 2) fun (x_Locals : Int) => Ld .sl w (a4.add 3) fun (x_Code : Sl) =>
 Ld .sl w (b.add 1) fun (Funcs5 : Sl) =>
 Ix Funcs5.a Funcs5.len i2 4 fun (a5 : Addr) =>
 Ld .s w a5 fun (x_Name2 : ByteArray) => Ld (.i .i64) w (a5.add 1) fun (x_Params2 : Int) => Ld (.i .i64) w (a5.add 2) fun (x_Locals2 : Int) => Ld .sl w (a5.add 3) fun (x_Code2 : Sl) =>
 c29 x_Name x_Params x_Locals x_Code x_Name2 x_Params2 x_Locals2 x_Code2 w fun (ok : Bool) (w : World) =>
 if (!ok) = true then (R false w) else (∃ m4 : Nat, m4 < m3 ∧ Inv_2 (IntKind.i64.wrap (i2 + 1)) m4 w)) else (R true w)))))
theorem c18_of {a_Systems a_Funcs b_Systems b_Funcs w R} (h : f18 a_Systems a_Funcs b_Systems b_Funcs w R) : c18 a_Systems a_Funcs b_Systems b_Funcs w R :=
  callK_of (H := ⟨[(4, ⟨[(5, .i .i64)], [2, 3]⟩), (13, ⟨[(10, .i .i64)], [2, 3]⟩)], [(3, ⟨[], [2, 3]⟩), (9, ⟨[(8, .b)], [2, 3, 5, 6, 7]⟩)]⟩) okP Tryz.func18 (cast (by kernel_rfl) h)
def f19 (p_Systems p_Funcs : Sl) (w : World) (R : Bool → World → Prop) : Prop :=
 Nw (.cells #[.slice p_Systems.a p_Systems.len p_Systems.cap, .slice p_Funcs.a p_Funcs.len p_Funcs.cap] 37) w fun (p : Addr) (w : World) =>
 ∃ Inv_ : Sl → Sl → Int → Nat → World → Prop, (∃ n : Nat, Inv_ ⟨none, 0, 0⟩ ⟨none, 0, 0⟩ 0 n w) ∧ ∀ sets : Sl, ∀ codes : Sl, ∀ i : Int, ∀ m : Nat, ∀ w : World, Inv_ sets codes i m w → (Ld .sl w p fun (Systems : Sl) =>
 if (decide (i < (Systems.len : Int))) = true then (Ld .sl w p fun (Systems2 : Sl) =>
 Ix Systems2.a Systems2.len i 8 fun (a : Addr) =>
 Ld .sl w a fun (s_With : Sl) => Ld .sl w (a.add 1) fun (s_Without : Sl) => Ld .sl w (a.add 2) fun (s_Reads : Sl) => Ld .sl w (a.add 3) fun (s_Writes : Sl) => Ld .s w (a.add 4) fun (s_Run_Name : ByteArray) => Ld (.i .i64) w (a.add 5) fun (s_Run_Params : Int) => Ld (.i .i64) w (a.add 6) fun (s_Run_Locals : Int) => Ld .sl w (a.add 7) fun (s_Run_Code : Sl) =>
 Nw (.cells #[.slice none 0 0, .slice none 0 0, .slice none 0 0, .slice none 0 0, .string (⟨#[]⟩ : ByteArray), .int .i64 0, .int .i64 0, .slice none 0 0] 54) w fun (s : Addr) (w : World) =>
 St s (.slice s_With.a s_With.len s_With.cap) w fun (w : World) =>
 St (s.add 1) (.slice s_Without.a s_Without.len s_Without.cap) w fun (w : World) =>
 St (s.add 2) (.slice s_Reads.a s_Reads.len s_Reads.cap) w fun (w : World) =>
 St (s.add 3) (.slice s_Writes.a s_Writes.len s_Writes.cap) w fun (w : World) =>
 St (s.add 4) (.string s_Run_Name) w fun (w : World) =>
 St (s.add 5) (.int .i64 s_Run_Params) w fun (w : World) =>
 St (s.add 6) (.int .i64 s_Run_Locals) w fun (w : World) =>
 St (s.add 7) (.slice s_Run_Code.a s_Run_Code.len s_Run_Code.cap) w fun (w : World) =>
 Ld .sl w s fun (With : Sl) =>
 Ld .sl w (s.add 1) fun (Without : Sl) =>
 Ld .sl w (s.add 2) fun (Reads : Sl) =>
 Ld .sl w (s.add 3) fun (Writes : Sl) =>
 Nw (.cells #[.slice With.a With.len With.cap, .slice Without.a Without.len Without.cap, .slice Reads.a Reads.len Reads.cap, .slice Writes.a Writes.len Writes.cap] 52) w fun (b : Addr) (w : World) =>
 Run .sl Tryz.prog (Builtin.append_ #[51, 51] 51 #[.slice sets.a sets.len sets.cap, .slice (some b) 4 4]) w fun (sets2 : Sl) (w : World) =>
 Ld .sl w ((s.add 4).add 3) fun (Code : Sl) =>
 Nw (.cells #[.slice Code.a Code.len Code.cap] 28) w fun (b2 : Addr) (w : World) =>
 Run .sl Tryz.prog (Builtin.append_ #[50, 50] 50 #[.slice codes.a codes.len codes.cap, .slice (some b2) 1 1]) w fun (codes2 : Sl) (w : World) =>
 ∃ m2 : Nat, m2 < m ∧ Inv_ sets2 codes2 (IntKind.i64.wrap (i + 1)) m2 w) else (∃ Inv_2 : Sl → Int → Nat → World → Prop, (∃ n : Nat, Inv_2 codes 0 n w) ∧ ∀ codes3 : Sl, ∀ i2 : Int, ∀ m3 : Nat, ∀ w : World, Inv_2 codes3 i2 m3 w → (Ld .sl w (p.add 1) fun (Funcs : Sl) =>
 if (decide (i2 < (Funcs.len : Int))) = true then (Ld .sl w (p.add 1) fun (Funcs2 : Sl) =>
 Ix Funcs2.a Funcs2.len i2 4 fun (a2 : Addr) =>
 Ld .sl w (a2.add 3) fun (Code2 : Sl) =>
 Nw (.cells #[.slice Code2.a Code2.len Code2.cap] 28) w fun (b3 : Addr) (w : World) =>
 Run .sl Tryz.prog (Builtin.append_ #[50, 50] 50 #[.slice codes3.a codes3.len codes3.cap, .slice (some b3) 1 1]) w fun (codes4 : Sl) (w : World) =>
 ∃ m4 : Nat, m4 < m3 ∧ Inv_2 codes4 (IntKind.i64.wrap (i2 + 1)) m4 w) else (Ld .sl w p fun (Systems3 : Sl) =>
 Ld .sl w (p.add 1) fun (Funcs3 : Sl) =>
 ∃ Inv_3 : Int → Nat → World → Prop, (∃ n : Nat, Inv_3 0 n w) ∧ ∀ i3 : Int, ∀ m5 : Nat, ∀ w : World, Inv_3 i3 m5 w → (if (decide (i3 < (Systems3.len : Int))) = true then (Ix Systems3.a Systems3.len i3 8 fun (a3 : Addr) =>
 St a3 (.slice none 0 0) w fun (w : World) =>
 St (a3.add 1) (.slice none 0 0) w fun (w : World) =>
 St (a3.add 2) (.slice none 0 0) w fun (w : World) =>
 St (a3.add 3) (.slice none 0 0) w fun (w : World) =>
 St (a3.add 4) (.string (⟨#[109, 105, 110, 101]⟩ : ByteArray)) w fun (w : World) =>
 St (a3.add 5) (.int .i64 0) w fun (w : World) =>
 St (a3.add 6) (.int .i64 0) w fun (w : World) =>
 St (a3.add 7) (.slice none 0 0) w fun (w : World) =>
 ∃ m6 : Nat, m6 < m5 ∧ Inv_3 (IntKind.i64.wrap (i3 + 1)) m6 w) else (∃ Inv_4 : Int → Nat → World → Prop, (∃ n : Nat, Inv_4 0 n w) ∧ ∀ i4 : Int, ∀ m7 : Nat, ∀ w : World, Inv_4 i4 m7 w → (if (decide (i4 < (Funcs3.len : Int))) = true then (Ix Funcs3.a Funcs3.len i4 4 fun (a4 : Addr) =>
 St a4 (.string (⟨#[109, 105, 110, 101]⟩ : ByteArray)) w fun (w : World) =>
 St (a4.add 1) (.int .i64 0) w fun (w : World) =>
 St (a4.add 2) (.int .i64 0) w fun (w : World) =>
 St (a4.add 3) (.slice none 0 0) w fun (w : World) =>
 ∃ m8 : Nat, m8 < m7 ∧ Inv_4 (IntKind.i64.wrap (i4 + 1)) m8 w) else (c42 sets w fun (one : Bool) (w : World) =>
 c30 codes3 w fun (two : Bool) (w : World) =>
 ∃ Inv_5 : Sl → Int → Nat → World → Prop, (∃ n : Nat, Inv_5 Systems3 0 n w) ∧ ∀ systems : Sl, ∀ i5 : Int, ∀ m9 : Nat, ∀ w : World, Inv_5 systems i5 m9 w → (if (decide (i5 < 64)) = true then (Nw (.cells #[.slice none 0 0, .slice none 0 0, .slice none 0 0, .slice none 0 0, .string (⟨#[109, 105, 110, 101]⟩ : ByteArray), .int .i64 0, .int .i64 0, .slice none 0 0] 54) w fun (b4 : Addr) (w : World) =>
 Run .sl Tryz.prog (Builtin.append_ #[35, 35] 35 #[.slice systems.a systems.len systems.cap, .slice (some b4) 1 1]) w fun (systems2 : Sl) (w : World) =>
 ∃ m10 : Nat, m10 < m9 ∧ Inv_5 systems2 (IntKind.i64.wrap (i5 + 1)) m10 w) else (∃ Inv_6 : Sl → Int → Nat → World → Prop, (∃ n : Nat, Inv_6 Funcs3 0 n w) ∧ ∀ funcs : Sl, ∀ i6 : Int, ∀ m11 : Nat, ∀ w : World, Inv_6 funcs i6 m11 w → (if (decide (i6 < 64)) = true then (Nw (.cells #[.string (⟨#[109, 105, 110, 101]⟩ : ByteArray), .int .i64 0, .int .i64 0, .slice none 0 0] 30) w fun (b5 : Addr) (w : World) =>
 Run .sl Tryz.prog (Builtin.append_ #[24, 24] 24 #[.slice funcs.a funcs.len funcs.cap, .slice (some b5) 1 1]) w fun (funcs2 : Sl) (w : World) =>
 ∃ m12 : Nat, m12 < m11 ∧ Inv_6 funcs2 (IntKind.i64.wrap (i6 + 1)) m12 w) else (∃ Inv_7 : Bool → Int → Nat → World → Prop, (∃ n : Nat, Inv_7 true 0 n w) ∧ ∀ three : Bool, ∀ i7 : Int, ∀ m13 : Nat, ∀ w : World, Inv_7 three i7 m13 w → (if (decide (i7 < (systems.len : Int))) = true then (if three = true then (Ix systems.a systems.len i7 8 fun (a5 : Addr) =>
 Ld .s w (a5.add 4) fun (Name : ByteArray) =>
 if (Name.toList == (⟨#[109, 105, 110, 101]⟩ : ByteArray).toList) = true then (Ix systems.a systems.len i7 8 fun (a6 : Addr) =>
 Ld .sl w ((a6.add 4).add 3) fun (Code3 : Sl) =>
 ∃ m14 : Nat, m14 < m13 ∧ Inv_7 ((Code3.len : Int) == 0) (IntKind.i64.wrap (i7 + 1)) m14 w) else (∃ m14 : Nat, m14 < m13 ∧ Inv_7 false (IntKind.i64.wrap (i7 + 1)) m14 w)) else (∃ m14 : Nat, m14 < m13 ∧ Inv_7 false (IntKind.i64.wrap (i7 + 1)) m14 w)) else (∃ Inv_8 : Bool → Int → Nat → World → Prop, (∃ n : Nat, Inv_8 three 0 n w) ∧ ∀ three2 : Bool, ∀ i8 : Int, ∀ m15 : Nat, ∀ w : World, Inv_8 three2 i8 m15 w → (if (decide (i8 < (funcs.len : Int))) = true then (if three2 = true then (Ix funcs.a funcs.len i8 4 fun (a7 : Addr) =>
 Ld .s w a7 fun (Name2 : ByteArray) =>
 if (Name2.toList == (⟨#[109, 105, 110, 101]⟩ : ByteArray).toList) = true then (Ix funcs.a funcs.len i8 4 fun (a8 : Addr) =>
 Ld .sl w (a8.add 3) fun (Code4 : Sl) =>
 ∃ m16 : Nat, m16 < m15 ∧ Inv_8 ((Code4.len : Int) == 0) (IntKind.i64.wrap (i8 + 1)) m16 w) else (∃ m16 : Nat, m16 < m15 ∧ Inv_8 false (IntKind.i64.wrap (i8 + 1)) m16 w)) else (∃ m16 : Nat, m16 < m15 ∧ Inv_8 false (IntKind.i64.wrap (i8 + 1)) m16 w)) else (R (cond (cond one two false) three2 false) w))))))))))))))))
theorem c19_of {p_Systems p_Funcs w R} (h : f19 p_Systems p_Funcs w R) : c19 p_Systems p_Funcs w R :=
  callK_of (H := ⟨[(4, ⟨[(3, .sl), (4, .sl), (5, .i .i64)], [1]⟩), (10, ⟨[(4, .sl), (7, .i .i64)], [1, 3]⟩), (16, ⟨[(10, .i .i64)], [3, 4, 8, 9]⟩), (20, ⟨[(11, .i .i64)], [3, 4, 8, 9]⟩), (26, ⟨[(8, .sl), (14, .i .i64)], [9, 12, 13]⟩), (30, ⟨[(9, .sl), (15, .i .i64)], [8, 12, 13]⟩), (35, ⟨[(16, .b), (17, .i .i64)], [8, 9, 12, 13]⟩), (39, ⟨[(16, .b), (18, .i .i64)], [9, 12, 13]⟩)], []⟩) okP Tryz.func19 (cast (by kernel_rfl) h)
def f22 (p_Systems p_Funcs : Sl) (w : World) (R : Sl → Int → World → Prop) : Prop :=
 Nw (.cells #[.slice p_Systems.a p_Systems.len p_Systems.cap, .slice p_Funcs.a p_Funcs.len p_Funcs.cap] 37) w fun (p : Addr) (w : World) =>
 Ld .sl w p fun (p_Systems2 : Sl) => Ld .sl w (p.add 1) fun (p_Funcs2 : Sl) =>
 c43 p_Systems2 p_Funcs2 w fun (r : Bool) (w : World) =>
 if (!r) = true then (R ⟨none, 0, 0⟩ 130 w) else (Ld .sl w p fun (Systems : Sl) =>
 c44 ⟨none, 0, 0⟩ (Systems.len : Int) w fun (b : Sl) (w : World) =>
 Ld .sl w p fun (Systems2 : Sl) =>
 ∃ Inv_ : Sl → Int → Nat → World → Prop, (∃ n : Nat, Inv_ b 0 n w) ∧ ∀ b2 : Sl, ∀ t23 : Int, ∀ m : Nat, ∀ w : World, Inv_ b2 t23 m w → (if (decide (t23 < (Systems2.len : Int))) = true then (Ix Systems2.a Systems2.len t23 8 fun (a : Addr) =>
 Ld .sl w a fun (s_With : Sl) => Ld .sl w (a.add 1) fun (s_Without : Sl) => Ld .sl w (a.add 2) fun (s_Reads : Sl) => Ld .sl w (a.add 3) fun (s_Writes : Sl) => Ld .s w (a.add 4) fun (s_Run_Name : ByteArray) => Ld (.i .i64) w (a.add 5) fun (s_Run_Params : Int) => Ld (.i .i64) w (a.add 6) fun (s_Run_Locals : Int) => Ld .sl w (a.add 7) fun (s_Run_Code : Sl) =>
 Nw (.cells #[.slice none 0 0, .slice none 0 0, .slice none 0 0, .slice none 0 0, .string (⟨#[]⟩ : ByteArray), .int .i64 0, .int .i64 0, .slice none 0 0] 54) w fun (s : Addr) (w : World) =>
 St s (.slice s_With.a s_With.len s_With.cap) w fun (w : World) =>
 St (s.add 1) (.slice s_Without.a s_Without.len s_Without.cap) w fun (w : World) =>
 St (s.add 2) (.slice s_Reads.a s_Reads.len s_Reads.cap) w fun (w : World) =>
 St (s.add 3) (.slice s_Writes.a s_Writes.len s_Writes.cap) w fun (w : World) =>
 St (s.add 4) (.string s_Run_Name) w fun (w : World) =>
 St (s.add 5) (.int .i64 s_Run_Params) w fun (w : World) =>
 St (s.add 6) (.int .i64 s_Run_Locals) w fun (w : World) =>
 St (s.add 7) (.slice s_Run_Code.a s_Run_Code.len s_Run_Code.cap) w fun (w : World) =>
 c45 (some s) w fun (r_0 r_1 : Option Addr) (r_2 r_3 : Option Addr) (w : World) =>
 ∃ Inv_2 : Sl → Int → Nat → World → Prop, (∃ n : Nat, Inv_2 b2 0 n w) ∧ ∀ b3 : Sl, ∀ t28 : Int, ∀ m3 : Nat, ∀ w : World, Inv_2 b3 t28 m3 w → (if (decide (t28 < 4)) = true then (IxV [.pointer r_0, .pointer r_1, .pointer r_2, .pointer r_3] 4 t28 .p fun (l : Option Addr) =>
 NN l fun (l_ : Addr) =>
 Ld .sl w l_ fun (x : Sl) =>
 c44 b3 (x.len : Int) w fun (b4 : Sl) (w : World) =>
 NN l fun (l_2 : Addr) =>
 Ld .sl w l_2 fun (x2 : Sl) =>
 ∃ Inv_3 : Sl → Int → Nat → World → Prop, (∃ n : Nat, Inv_3 b4 0 n w) ∧ ∀ b5 : Sl, ∀ t41 : Int, ∀ m5 : Nat, ∀ w : World, Inv_3 b5 t41 m5 w → (if (decide (t41 < (x2.len : Int))) = true then (Ix x2.a x2.len t41 1 fun (a2 : Addr) =>
 Ld (.i .i64) w a2 fun (k : Int) =>
 c44 b5 k w fun (b6 : Sl) (w : World) =>
 ∃ m6 : Nat, m6 < m5 ∧ Inv_3 b6 (IntKind.i64.wrap (t41 + 1)) m6 w) else (∃ m4 : Nat, m4 < m3 ∧ Inv_2 b5 (IntKind.i64.wrap (t28 + 1)) m4 w))) else (Ld .s w (s.add 4) fun (Run_Name : ByteArray) => Ld (.i .i64) w ((s.add 4).add 1) fun (Run_Params : Int) => Ld (.i .i64) w ((s.add 4).add 2) fun (Run_Locals : Int) => Ld .sl w ((s.add 4).add 3) fun (Run_Code : Sl) =>
 c46 b3 Run_Name Run_Params Run_Locals Run_Code w fun (b7 : Sl) (w : World) =>
 ∃ m2 : Nat, m2 < m ∧ Inv_ b7 (IntKind.i64.wrap (t23 + 1)) m2 w))) else (Ld .sl w (p.add 1) fun (Funcs : Sl) =>
 c44 b2 (Funcs.len : Int) w fun (b8 : Sl) (w : World) =>
 Ld .sl w (p.add 1) fun (Funcs2 : Sl) =>
 ∃ Inv_4 : Sl → Int → Nat → World → Prop, (∃ n : Nat, Inv_4 b8 0 n w) ∧ ∀ b9 : Sl, ∀ t63 : Int, ∀ m7 : Nat, ∀ w : World, Inv_4 b9 t63 m7 w → (if (decide (t63 < (Funcs2.len : Int))) = true then (Ix Funcs2.a Funcs2.len t63 4 fun (a3 : Addr) =>
 Ld .s w a3 fun (r_Name : ByteArray) => Ld (.i .i64) w (a3.add 1) fun (r_Params : Int) => Ld (.i .i64) w (a3.add 2) fun (r_Locals : Int) => Ld .sl w (a3.add 3) fun (r_Code : Sl) =>
 Nw (.cells #[.string (⟨#[]⟩ : ByteArray), .int .i64 0, .int .i64 0, .slice none 0 0] 30) w fun (r2 : Addr) (w : World) =>
 St r2 (.string r_Name) w fun (w : World) =>
 St (r2.add 1) (.int .i64 r_Params) w fun (w : World) =>
 St (r2.add 2) (.int .i64 r_Locals) w fun (w : World) =>
 St (r2.add 3) (.slice r_Code.a r_Code.len r_Code.cap) w fun (w : World) =>
 Ld .s w r2 fun (r_Name2 : ByteArray) => Ld (.i .i64) w (r2.add 1) fun (r_Params2 : Int) => Ld (.i .i64) w (r2.add 2) fun (r_Locals2 : Int) => Ld .sl w (r2.add 3) fun (r_Code2 : Sl) =>
 c46 b9 r_Name2 r_Params2 r_Locals2 r_Code2 w fun (b10 : Sl) (w : World) =>
 ∃ m8 : Nat, m8 < m7 ∧ Inv_4 b10 (IntKind.i64.wrap (t63 + 1)) m8 w) else (R b9 0 w)))))
theorem c22_of {p_Systems p_Funcs w R} (h : f22 p_Systems p_Funcs w R) : c22 p_Systems p_Funcs w R :=
  callK_of (H := ⟨[(5, ⟨[(4, .sl), (23, .i .i64)], [1, 21, 22]⟩), (8, ⟨[(4, .sl), (28, .i .i64)], [1, 6, 21, 22, 23, 27]⟩), (12, ⟨[(4, .sl), (41, .i .i64)], [1, 6, 21, 22, 23, 27, 28, 39, 40]⟩), (21, ⟨[(4, .sl), (63, .i .i64)], [61, 62]⟩)], []⟩) okP Tryz.func22 (cast (by kernel_rfl) h)
def f25 (r_Name : ByteArray) (r_Params r_Locals : Int) (r_Code : Sl) (w : World) (R : ByteArray → World → Prop) : Prop :=
 Nw (.cells #[.string r_Name, .int .i64 r_Params, .int .i64 r_Locals, .slice r_Code.a r_Code.len r_Code.cap] 30) w fun (r : Addr) (w : World) =>
 Nw (.cells #[.int .i64 0] 3) w fun (left : Addr) (w : World) =>
 St left (.int .i64 2000) w fun (w : World) =>
 ∃ J_ : World → Prop, (Ld .s w r fun (Name : ByteArray) =>
 c51 Name w fun (r2 : Bool) (w : World) =>
 if (!r2) = true then (R (⟨#[]⟩ : ByteArray) w) else (Ld .s w r fun (r_Name2 : ByteArray) => Ld (.i .i64) w (r.add 1) fun (r_Params2 : Int) => Ld (.i .i64) w (r.add 2) fun (r_Locals2 : Int) => Ld .sl w (r.add 3) fun (r_Code2 : Sl) =>
 c52 r_Name2 r_Params2 r_Locals2 r_Code2 (some left) w fun (r3 : Bool) (w : World) =>
 if (!r3) = true then (R (⟨#[]⟩ : ByteArray) w) else (J_  w))) ∧ ∀ w : World, J_  w → (Nw (.cells #[.pointer none, .slice none 0 0] 112) w fun (out : Addr) (w : World) =>
 Dr w fun (w : World) =>
 Ld .s w r fun (Name2 : ByteArray) =>
 Name2.size + (⟨#[32]⟩ : ByteArray).size ≤ 9223372036854775807 ∧ (Ld (.i .i64) w (r.add 1) fun (Params : Int) =>
 Ld (.i .i64) w (r.add 2) fun (Locals : Int) =>
 c54 Params w fun (r4 : ByteArray) (w : World) =>
 w.cell? (r.add 2) = some (.int .i64 Locals) ∧ w.cell? r = some (.string Name2) ∧ ((Name2 ++ (⟨#[32]⟩ : ByteArray)).size + r4.size ≤ 9223372036854775807 ∧ (((Name2 ++ (⟨#[32]⟩ : ByteArray)) ++ r4).size + (⟨#[32]⟩ : ByteArray).size ≤ 9223372036854775807 ∧ (c54 Locals w fun (r5 : ByteArray) (w : World) =>
 w.cell? r = some (.string Name2) ∧ ((((Name2 ++ (⟨#[32]⟩ : ByteArray)) ++ r4) ++ (⟨#[32]⟩ : ByteArray)).size + r5.size ≤ 9223372036854775807 ∧ (((((Name2 ++ (⟨#[32]⟩ : ByteArray)) ++ r4) ++ (⟨#[32]⟩ : ByteArray)) ++ r5).size + (⟨#[10]⟩ : ByteArray).size ≤ 9223372036854775807 ∧ (c53 (some out) (((((Name2 ++ (⟨#[32]⟩ : ByteArray)) ++ r4) ++ (⟨#[32]⟩ : ByteArray)) ++ r5) ++ (⟨#[10]⟩ : ByteArray)) w fun (r6 : Int) (r7 : Value) (w : World) =>
 Ld .sl w (r.add 3) fun (Code : Sl) =>
 ∃ Inv_ : Int → Nat → World → Prop, (∃ n : Nat, Inv_ 0 n w) ∧ ∀ t33 : Int, ∀ m : Nat, ∀ w : World, Inv_ t33 m w → (if (decide (t33 < (Code.len : Int))) = true then (Ix Code.a Code.len t33 2 fun (a : Addr) =>
 Ld (.i .i64) w a fun (i_Op : Int) => Ld (.i .i64) w (a.add 1) fun (i_A : Int) =>
 Nw (.cells #[.int .i64 0, .int .i64 0] 23) w fun (i : Addr) (w : World) =>
 St i (.int .i64 i_Op) w fun (w : World) =>
 St (i.add 1) (.int .i64 i_A) w fun (w : World) =>
 Ld (.i .i64) w i fun (i_Op2 : Int) => Ld (.i .i64) w (i.add 1) fun (i_A2 : Int) =>
 c55 i_Op2 i_A2 w fun (r8 : ByteArray) (w : World) =>
 r8.size + (⟨#[10]⟩ : ByteArray).size ≤ 9223372036854775807 ∧ (c53 (some out) (r8 ++ (⟨#[10]⟩ : ByteArray)) w fun (r9 : Int) (r10 : Value) (w : World) =>
 ∃ m2 : Nat, m2 < m ∧ Inv_ (IntKind.i64.wrap (t33 + 1)) m2 w)) else (c56 (some out) w fun (r11 : ByteArray) (w : World) =>
 R r11 w))))))))))
theorem c25_of {r_Name r_Params r_Locals r_Code w R} (h : f25 r_Name r_Params r_Locals r_Code w R) : c25 r_Name r_Params r_Locals r_Code w R :=
  callK_of (H := ⟨[(7, ⟨[(33, .i .i64)], [4, 31, 32]⟩)], [(4, ⟨[], [1]⟩)]⟩) okP Tryz.func25 (cast (by kernel_rfl) h)
def f27 (s : ByteArray) (w : World) (R : ByteArray → Int → Int → Sl → Value → World → Prop) : Prop :=
 Nw (.cells #[.string (⟨#[]⟩ : ByteArray), .int .i64 0, .int .i64 0, .slice none 0 0] 30) w fun (a : Addr) (w : World) =>
 Nw (.cells #[.string (⟨#[]⟩ : ByteArray), .int .i64 0, .int .i64 0, .slice none 0 0] 30) w fun (r : Addr) (w : World) =>
 ∃ Inv_ : Int → Bool → Nat → World → Prop, (∃ n : Nat, Inv_ 0 true n w) ∧ ∀ at_ : Int, ∀ first : Bool, ∀ m : Nat, ∀ w : World, Inv_ at_ first m w → (if (cond first true (decide (at_ < (s.size : Int)))) = true then (CutS s at_ (s.size : Int) fun (s2 : ByteArray) =>
 c60 s2 (⟨#[10]⟩ : ByteArray) w fun (text x_ : ByteArray) (whole : Bool) (w : World) =>
 ∃ J_ : Bool → World → Prop, (if whole = true then (if first = true then (J_ true w) else (Ld .sl w (r.add 3) fun (Code : Sl) =>
 J_ (decide ((Code.len : Int) < 2000)) w)) else (J_ false w)) ∧ ∀ good : Bool, ∀ w : World, J_ good w → (∃ J_2 : Bool → World → Prop, (if (!good) = true then (J_2 good w) else (if first = true then (c61 text w fun (r_Name : ByteArray) (r_Params r_Locals : Int) (r_Code : Sl) (good2 : Bool) (w : World) =>
 St r (.string r_Name) w fun (w : World) =>
 St (r.add 1) (.int .i64 r_Params) w fun (w : World) =>
 St (r.add 2) (.int .i64 r_Locals) w fun (w : World) =>
 St (r.add 3) (.slice r_Code.a r_Code.len r_Code.cap) w fun (w : World) =>
 J_2 good2 w) else (Nw (.cells #[.int .i64 0, .int .i64 0] 23) w fun (i : Addr) (w : World) =>
 c62 text w fun (i_Op i_A : Int) (good3 : Bool) (w : World) =>
 St i (.int .i64 i_Op) w fun (w : World) =>
 St (i.add 1) (.int .i64 i_A) w fun (w : World) =>
 Ld .sl w (r.add 3) fun (Code2 : Sl) =>
 Ld (.i .i64) w i fun (i_Op2 : Int) => Ld (.i .i64) w (i.add 1) fun (i_A2 : Int) =>
 Nw (.cells #[.int .i64 i_Op2, .int .i64 i_A2] 23) w fun (b : Addr) (w : World) =>
 Run .sl Tryz.prog (Builtin.append_ #[28, 28] 28 #[.slice Code2.a Code2.len Code2.cap, .slice (some b) 1 1]) w fun (s3 : Sl) (w : World) =>
 St (r.add 3) (.slice s3.a s3.len s3.cap) w fun (w : World) =>
 J_2 good3 w))) ∧ ∀ good4 : Bool, ∀ w : World, J_2 good4 w → (if (!good4) = true then (Nw (.cells #[.int .i64 at_, .int .i64 130] 89) w fun (a2 : Addr) (w : World) =>
 St a (.string (⟨#[]⟩ : ByteArray)) w fun (w : World) =>
 St (a.add 1) (.int .i64 0) w fun (w : World) =>
 St (a.add 2) (.int .i64 0) w fun (w : World) =>
 St (a.add 3) (.slice none 0 0) w fun (w : World) =>
 Ld .s w a fun (r_Name2 : ByteArray) => Ld (.i .i64) w (a.add 1) fun (r_Params2 : Int) => Ld (.i .i64) w (a.add 2) fun (r_Locals2 : Int) => Ld .sl w (a.add 3) fun (r_Code2 : Sl) =>
 R r_Name2 r_Params2 r_Locals2 r_Code2 (.iface 86 (.pointer (some a2))) w) else (∃ m2 : Nat, m2 < m ∧ Inv_ (IntKind.i64.wrap (at_ + (IntKind.i64.wrap ((text.size : Int) + 1)))) false m2 w)))) else (Ld .s w r fun (r_Name3 : ByteArray) => Ld (.i .i64) w (r.add 1) fun (r_Params3 : Int) => Ld (.i .i64) w (r.add 2) fun (r_Locals3 : Int) => Ld .sl w (r.add 3) fun (r_Code3 : Sl) =>
 St a (.string r_Name3) w fun (w : World) =>
 St (a.add 1) (.int .i64 r_Params3) w fun (w : World) =>
 St (a.add 2) (.int .i64 r_Locals3) w fun (w : World) =>
 St (a.add 3) (.slice r_Code3.a r_Code3.len r_Code3.cap) w fun (w : World) =>
 Ld .s w a fun (r_Name4 : ByteArray) => Ld (.i .i64) w (a.add 1) fun (r_Params4 : Int) => Ld (.i .i64) w (a.add 2) fun (r_Locals4 : Int) => Ld .sl w (a.add 3) fun (r_Code4 : Sl) =>
 R r_Name4 r_Params4 r_Locals4 r_Code4 .nilIface w))
theorem c27_of {s w R} (h : f27 s w R) : c27 s w R :=
  callK_of (H := ⟨[(3, ⟨[(5, .i .i64), (6, .b)], [0, 2, 4]⟩)], [(10, ⟨[(10, .b)], [0, 2, 4, 5, 6, 7]⟩), (13, ⟨[(10, .b)], [0, 2, 4, 5, 7]⟩)]⟩) okP Tryz.func27 (cast (by kernel_rfl) h)
def f29 (a_Name : ByteArray) (a_Params a_Locals : Int) (a_Code : Sl) (b_Name : ByteArray) (b_Params b_Locals : Int) (b_Code : Sl) (w : World) (R : Bool → World → Prop) : Prop :=
 Nw (.cells #[.string a_Name, .int .i64 a_Params, .int .i64 a_Locals, .slice a_Code.a a_Code.len a_Code.cap] 30) w fun (a : Addr) (w : World) =>
 Nw (.cells #[.string b_Name, .int .i64 b_Params, .int .i64 b_Locals, .slice b_Code.a b_Code.len b_Code.cap] 30) w fun (b : Addr) (w : World) =>
 Ld .sl w (a.add 3) fun (Code : Sl) =>
 Ld .sl w (b.add 3) fun (Code2 : Sl) =>
 c65 Code Code2 w fun (ok : Bool) (w : World) =>
 if ok = true then (Ld .s w a fun (Name : ByteArray) =>
 Ld .s w b fun (Name2 : ByteArray) =>
 if (Name.toList == Name2.toList) = true then (Ld (.i .i64) w (a.add 1) fun (Params : Int) =>
 Ld (.i .i64) w (b.add 1) fun (Params2 : Int) =>
 if (Params == Params2) = true then (Ld (.i .i64) w (a.add 2) fun (Locals : Int) =>
 Ld (.i .i64) w (b.add 2) fun (Locals2 : Int) =>
 R (Locals == Locals2) w) else (R false w)) else (R false w)) else (R false w)
theorem c29_of {a_Name a_Params a_Locals a_Code b_Name b_Params b_Locals b_Code w R} (h : f29 a_Name a_Params a_Locals a_Code b_Name b_Params b_Locals b_Code w R) : c29 a_Name a_Params a_Locals a_Code b_Name b_Params b_Locals b_Code w R :=
  callK_of (H := ⟨[], []⟩) okP Tryz.func29 (cast (by kernel_rfl) h)
def f30 (l : Sl) (w : World) (R : Bool → World → Prop) : Prop :=
 ∃ Inv_ : Int → Nat → World → Prop, (∃ n : Nat, Inv_ 0 n w) ∧ ∀ i : Int, ∀ m : Nat, ∀ w : World, Inv_ i m w → (if (decide (i < (l.len : Int))) = true then (∃ Inv_2 : Int → Nat → World → Prop, (∃ n : Nat, Inv_2 0 n w) ∧ ∀ k : Int, ∀ m3 : Nat, ∀ w : World, Inv_2 k m3 w → (Ix l.a l.len i 1 fun (a : Addr) =>
 Ld .sl w a fun (x : Sl) =>
 if (decide (k < (x.len : Int))) = true then (Ix l.a l.len i 1 fun (a2 : Addr) =>
 Ld .sl w a2 fun (x2 : Sl) =>
 Ix x2.a x2.len k 2 fun (a3 : Addr) =>
 St a3 (.int .i64 (IntKind.i64.wrap ((-1000) - i))) w fun (w : World) =>
 St (a3.add 1) (.int .i64 0) w fun (w : World) =>
 ∃ m4 : Nat, m4 < m3 ∧ Inv_2 (IntKind.i64.wrap (k + 1)) m4 w) else (∃ m2 : Nat, m2 < m ∧ Inv_ (IntKind.i64.wrap (i + 1)) m2 w))) else (∃ Inv_3 : Sl → Int → Nat → World → Prop, (∃ n : Nat, Inv_3 l 0 n w) ∧ ∀ l2 : Sl, ∀ i2 : Int, ∀ m5 : Nat, ∀ w : World, Inv_3 l2 i2 m5 w → (if (decide (i2 < (l.len : Int))) = true then (Ix l2.a l2.len i2 1 fun (a4 : Addr) =>
 Ld .sl w a4 fun (g : Sl) =>
 ∃ Inv_4 : Sl → Int → Nat → World → Prop, (∃ n : Nat, Inv_4 g 0 n w) ∧ ∀ g2 : Sl, ∀ k2 : Int, ∀ m7 : Nat, ∀ w : World, Inv_4 g2 k2 m7 w → (if (decide (k2 < 100)) = true then (Nw (.cells #[.int .i64 (IntKind.i64.wrap ((-1000) - i2)), .int .i64 0] 23) w fun (b : Addr) (w : World) =>
 Run .sl Tryz.prog (Builtin.append_ #[28, 28] 28 #[.slice g2.a g2.len g2.cap, .slice (some b) 1 1]) w fun (g3 : Sl) (w : World) =>
 ∃ m8 : Nat, m8 < m7 ∧ Inv_4 g3 (IntKind.i64.wrap (k2 + 1)) m8 w) else (Nw (.cells #[.slice g2.a g2.len g2.cap] 28) w fun (b2 : Addr) (w : World) =>
 Run .sl Tryz.prog (Builtin.append_ #[50, 50] 50 #[.slice l2.a l2.len l2.cap, .slice (some b2) 1 1]) w fun (l3 : Sl) (w : World) =>
 ∃ m6 : Nat, m6 < m5 ∧ Inv_3 l3 (IntKind.i64.wrap (i2 + 1)) m6 w))) else (∃ Inv_5 : Int → Nat → World → Prop, (∃ n : Nat, Inv_5 0 n w) ∧ ∀ i3 : Int, ∀ m9 : Nat, ∀ w : World, Inv_5 i3 m9 w → (if (decide (i3 < (l2.len : Int))) = true then (∃ Inv_6 : Int → Nat → World → Prop, (∃ n : Nat, Inv_6 0 n w) ∧ ∀ k3 : Int, ∀ m11 : Nat, ∀ w : World, Inv_6 k3 m11 w → (Ix l2.a l2.len i3 1 fun (a5 : Addr) =>
 Ld .sl w a5 fun (x3 : Sl) =>
 if (decide (k3 < (x3.len : Int))) = true then (Dr w fun (w : World) =>
 Ix l2.a l2.len i3 1 fun (a6 : Addr) =>
 Ld .sl w a6 fun (x4 : Sl) =>
 Ix x4.a x4.len k3 2 fun (a7 : Addr) =>
 Ld (.i .i64) w a7 fun (x_Op : Int) => Ld (.i .i64) w (a7.add 1) fun (x_A : Int) =>
 ((l.len : Int) : Int) ≠ 0 ∧ (RunRo .b Tryz.prog (binSem .neq 23 (.tmp 80) (.tmp 85) (.agg #[.int .i64 x_Op, .int .i64 x_A]) (.agg #[.int .i64 (IntKind.i64.wrap ((-1000) - (Int.tmod i3 (l.len : Int)))), .int .i64 0])) w fun (eq : Bool) =>
 if eq = true then (R false w) else (∃ m12 : Nat, m12 < m11 ∧ Inv_6 (IntKind.i64.wrap (k3 + 1)) m12 w))) else (∃ m10 : Nat, m10 < m9 ∧ Inv_5 (IntKind.i64.wrap (i3 + 1)) m10 w))) else (R true w))))))
theorem c30_of {l w R} (h : f30 l w R) : c30 l w R :=
  callK_of (H := ⟨[(3, ⟨[(4, .i .i64)], [0, 3]⟩), (6, ⟨[(5, .i .i64)], [0, 3, 4]⟩), (10, ⟨[(0, .sl), (6, .i .i64)], [3]⟩), (14, ⟨[(7, .sl), (8, .i .i64)], [0, 3, 6]⟩), (19, ⟨[(9, .i .i64)], [0, 3]⟩), (22, ⟨[(10, .i .i64)], [0, 3, 9]⟩)], []⟩) okP Tryz.func30 (cast (by kernel_rfl) h)
def f31 (op : Int) (w : World) (R : Bool → World → Prop) : Prop :=
 R (cond (decide (op > 0)) (decide (op ≤ 39)) false) w
theorem c31_of {op w R} (h : f31 op w R) : c31 op w R :=
  callK_of (H := ⟨[], []⟩) okP Tryz.func31 (cast (by kernel_rfl) h)
def f32 (op : Int) (w : World) (R : ByteArray → Bool → Int → Int → Int → World → Prop) : Prop :=
 Nw (.cells #[.string (⟨#[]⟩ : ByteArray), .bool false, .int .i64 0, .int .i64 0, .int .i64 0] 74) w fun (a : Addr) (w : World) =>
 if (decide (op < 19)) = true then (c66 op w fun (r_word : ByteArray) (r_number : Bool) (r_takes r_puts r_by : Int) (w : World) =>
 St a (.string r_word) w fun (w : World) =>
 St (a.add 1) (.bool r_number) w fun (w : World) =>
 St (a.add 2) (.int .i64 r_takes) w fun (w : World) =>
 St (a.add 3) (.int .i64 r_puts) w fun (w : World) =>
 St (a.add 4) (.int .i64 r_by) w fun (w : World) =>
 Ld .s w a fun (r_word2 : ByteArray) => Ld .b w (a.add 1) fun (r_number2 : Bool) => Ld (.i .i64) w (a.add 2) fun (r_takes2 : Int) => Ld (.i .i64) w (a.add 3) fun (r_puts2 : Int) => Ld (.i .i64) w (a.add 4) fun (r_by2 : Int) =>
 R r_word2 r_number2 r_takes2 r_puts2 r_by2 w) else (c67 op w fun (r_word3 : ByteArray) (r_number3 : Bool) (r_takes3 r_puts3 r_by3 : Int) (w : World) =>
 St a (.string r_word3) w fun (w : World) =>
 St (a.add 1) (.bool r_number3) w fun (w : World) =>
 St (a.add 2) (.int .i64 r_takes3) w fun (w : World) =>
 St (a.add 3) (.int .i64 r_puts3) w fun (w : World) =>
 St (a.add 4) (.int .i64 r_by3) w fun (w : World) =>
 Ld .s w a fun (r_word4 : ByteArray) => Ld .b w (a.add 1) fun (r_number4 : Bool) => Ld (.i .i64) w (a.add 2) fun (r_takes4 : Int) => Ld (.i .i64) w (a.add 3) fun (r_puts4 : Int) => Ld (.i .i64) w (a.add 4) fun (r_by4 : Int) =>
 R r_word4 r_number4 r_takes4 r_puts4 r_by4 w)
theorem c32_of {op w R} (h : f32 op w R) : c32 op w R :=
  callK_of (H := ⟨[], []⟩) okP Tryz.func32 (cast (by kernel_rfl) h)
def f33 (op : Int) (w : World) (R : Bool → World → Prop) : Prop :=
 R (cond (decide (op ≥ 1)) (decide (op ≤ 39)) false) w
theorem c33_of {op w R} (h : f33 op w R) : c33 op w R :=
  callK_of (H := ⟨[], []⟩) okP Tryz.func33 (cast (by kernel_rfl) h)
def f34 (w : World) (R : Sl → World → Prop) : Prop :=
 Nw (.cells #[.string (⟨#[]⟩ : ByteArray), .bool false, .int .i64 0, .int .i64 0, .string (⟨#[112, 117, 115, 104]⟩ : ByteArray), .bool true, .int .i64 0, .int .i64 1, .string (⟨#[108, 111, 97, 100]⟩ : ByteArray), .bool true, .int .i64 0, .int .i64 1, .string (⟨#[115, 116, 111, 114, 101]⟩ : ByteArray), .bool true, .int .i64 1, .int .i64 0, .string (⟨#[102, 105, 101, 108, 100]⟩ : ByteArray), .bool true, .int .i64 0, .int .i64 1, .string (⟨#[112, 117, 116]⟩ : ByteArray), .bool true, .int .i64 1, .int .i64 0, .string (⟨#[97, 100, 100]⟩ : ByteArray), .bool false, .int .i64 2, .int .i64 1, .string (⟨#[115, 117, 98]⟩ : ByteArray), .bool false, .int .i64 2, .int .i64 1, .string (⟨#[109, 117, 108]⟩ : ByteArray), .bool false, .int .i64 2, .int .i64 1, .string (⟨#[100, 105, 118]⟩ : ByteArray), .bool false, .int .i64 2, .int .i64 1, .string (⟨#[114, 101, 109]⟩ : ByteArray), .bool false, .int .i64 2, .int .i64 1, .string (⟨#[110, 101, 103]⟩ : ByteArray), .bool false, .int .i64 1, .int .i64 1, .string (⟨#[101, 113]⟩ : ByteArray), .bool false, .int .i64 2, .int .i64 1, .string (⟨#[110, 101]⟩ : ByteArray), .bool false, .int .i64 2, .int .i64 1, .string (⟨#[108, 116]⟩ : ByteArray), .bool false, .int .i64 2, .int .i64 1, .string (⟨#[108, 101]⟩ : ByteArray), .bool false, .int .i64 2, .int .i64 1, .string (⟨#[103, 116]⟩ : ByteArray), .bool false, .int .i64 2, .int .i64 1, .string (⟨#[103, 101]⟩ : ByteArray), .bool false, .int .i64 2, .int .i64 1, .string (⟨#[110, 111, 116]⟩ : ByteArray), .bool false, .int .i64 1, .int .i64 1, .string (⟨#[106, 117, 109, 112]⟩ : ByteArray), .bool true, .int .i64 0, .int .i64 0, .string (⟨#[122, 101, 114, 111]⟩ : ByteArray), .bool true, .int .i64 1, .int .i64 0, .string (⟨#[99, 97, 108, 108]⟩ : ByteArray), .bool true, .int .i64 (-1), .int .i64 1, .string (⟨#[114, 101, 116]⟩ : ByteArray), .bool false, .int .i64 1, .int .i64 0, .string (⟨#[115, 116, 111, 112]⟩ : ByteArray), .bool false, .int .i64 0, .int .i64 0, .string (⟨#[115, 116, 101, 112]⟩ : ByteArray), .bool false, .int .i64 0, .int .i64 0, .string (⟨#[101, 109, 105, 116]⟩ : ByteArray), .bool false, .int .i64 2, .int .i64 0, .string (⟨#[112, 97, 114, 116]⟩ : ByteArray), .bool true, .int .i64 (-2), .int .i64 0, .string (⟨#[115, 112, 97, 119, 110]⟩ : ByteArray), .bool false, .int .i64 0, .int .i64 0, .string (⟨#[103, 105, 118, 101]⟩ : ByteArray), .bool true, .int .i64 (-2), .int .i64 0, .string (⟨#[116, 97, 107, 101]⟩ : ByteArray), .bool true, .int .i64 0, .int .i64 0, .string (⟨#[100, 105, 101]⟩ : ByteArray), .bool false, .int .i64 0, .int .i64 0, .string (⟨#[114, 97, 110, 100]⟩ : ByteArray), .bool false, .int .i64 1, .int .i64 1, .string (⟨#[116, 105, 99, 107]⟩ : ByteArray), .bool false, .int .i64 0, .int .i64 1, .string (⟨#[109, 101]⟩ : ByteArray), .bool false, .int .i64 0, .int .i64 1, .string (⟨#[105, 110, 112, 117, 116]⟩ : ByteArray), .bool false, .int .i64 2, .int .i64 1, .string (⟨#[104, 97, 115]⟩ : ByteArray), .bool true, .int .i64 0, .int .i64 1, .string (⟨#[109, 105, 110]⟩ : ByteArray), .bool false, .int .i64 2, .int .i64 1, .string (⟨#[109, 97, 120]⟩ : ByteArray), .bool false, .int .i64 2, .int .i64 1, .string (⟨#[97, 98, 115]⟩ : ByteArray), .bool false, .int .i64 1, .int .i64 1, .string (⟨#[100, 114, 111, 112]⟩ : ByteArray), .bool false, .int .i64 1, .int .i64 0] 77) w fun (b : Addr) (w : World) =>
 R ⟨some b, 40, 40⟩ w
theorem c34_of {w R} (h : f34  w R) : c34  w R :=
  callK_of (H := ⟨[], []⟩) okP Tryz.func34 (cast (by kernel_rfl) h)
def f37 (r : Option Addr) (w : World) (R : Sl → Sl → World → Prop) (E : List PanicEntry → World → Prop) : Prop :=
 Nw (.cells #[.slice none 0 0, .slice none 0 0] 37) w fun (a : Addr) (w : World) =>
 Nw (.cells #[.slice none 0 0, .slice none 0 0] 37) w fun (p : Addr) (w : World) =>
 c68 r 0 16 w (fun (n_ : Int) (w : World) =>
 ∃ Inv_ : Int → Nat → World → Prop, (∃ n : Nat, Inv_ n_ n w) ∧ ∀ n_2 : Int, ∀ m : Nat, ∀ w : World, Inv_ n_2 m w → (if (decide (n_2 > 0)) = true then (Nw (.cells #[.slice none 0 0, .slice none 0 0, .slice none 0 0, .slice none 0 0, .string (⟨#[]⟩ : ByteArray), .int .i64 0, .int .i64 0, .slice none 0 0] 54) w fun (s : Addr) (w : World) =>
 c45 (some s) w fun (r_0 r_1 : Option Addr) (r_2 r_3 : Option Addr) (w : World) =>
 ∃ Inv_2 : Int → Nat → World → Prop, (∃ n : Nat, Inv_2 0 n w) ∧ ∀ t16 : Int, ∀ m3 : Nat, ∀ w : World, Inv_2 t16 m3 w → (if (decide (t16 < 4)) = true then (IxV [.pointer r_0, .pointer r_1, .pointer r_2, .pointer r_3] 4 t16 .p fun (l : Option Addr) =>
 c69 r w (fun (r2 : Sl) (w : World) =>
 NN l fun (l_ : Addr) =>
 St l_ (.slice r2.a r2.len r2.cap) w fun (w : World) =>
 ∃ m4 : Nat, m4 < m3 ∧ Inv_2 (IntKind.i64.wrap (t16 + 1)) m4 w) E) else (c70 r w (fun (r_Name : ByteArray) (r_Params r_Locals : Int) (r_Code : Sl) (w : World) =>
 St (s.add 4) (.string r_Name) w fun (w : World) =>
 St ((s.add 4).add 1) (.int .i64 r_Params) w fun (w : World) =>
 St ((s.add 4).add 2) (.int .i64 r_Locals) w fun (w : World) =>
 St ((s.add 4).add 3) (.slice r_Code.a r_Code.len r_Code.cap) w fun (w : World) =>
 Ld .sl w p fun (Systems : Sl) =>
 Ld .sl w s fun (s_With : Sl) => Ld .sl w (s.add 1) fun (s_Without : Sl) => Ld .sl w (s.add 2) fun (s_Reads : Sl) => Ld .sl w (s.add 3) fun (s_Writes : Sl) => Ld .s w (s.add 4) fun (s_Run_Name : ByteArray) => Ld (.i .i64) w (s.add 5) fun (s_Run_Params : Int) => Ld (.i .i64) w (s.add 6) fun (s_Run_Locals : Int) => Ld .sl w (s.add 7) fun (s_Run_Code : Sl) =>
 Nw (.cells #[.slice s_With.a s_With.len s_With.cap, .slice s_Without.a s_Without.len s_Without.cap, .slice s_Reads.a s_Reads.len s_Reads.cap, .slice s_Writes.a s_Writes.len s_Writes.cap, .string s_Run_Name, .int .i64 s_Run_Params, .int .i64 s_Run_Locals, .slice s_Run_Code.a s_Run_Code.len s_Run_Code.cap] 54) w fun (b : Addr) (w : World) =>
 Run .sl Tryz.prog (Builtin.append_ #[35, 35] 35 #[.slice Systems.a Systems.len Systems.cap, .slice (some b) 1 1]) w fun (s2 : Sl) (w : World) =>
 St p (.slice s2.a s2.len s2.cap) w fun (w : World) =>
 ∃ m2 : Nat, m2 < m ∧ Inv_ (IntKind.i64.wrap (n_2 - 1)) m2 w) E))) else (c68 r 0 16 w (fun (n_3 : Int) (w : World) =>
 ∃ Inv_3 : Int → Nat → World → Prop, (∃ n : Nat, Inv_3 n_3 n w) ∧ ∀ n_4 : Int, ∀ m5 : Nat, ∀ w : World, Inv_3 n_4 m5 w → (if (decide (n_4 > 0)) = true then (Dr w fun (w : World) =>
 Ld .sl w (p.add 1) fun (Funcs : Sl) =>
 c70 r w (fun (r_Name2 : ByteArray) (r_Params2 r_Locals2 : Int) (r_Code2 : Sl) (w : World) =>
 w.cell? (p.add 1) = some (.slice Funcs.a Funcs.len Funcs.cap) ∧ (Nw (.cells #[.string r_Name2, .int .i64 r_Params2, .int .i64 r_Locals2, .slice r_Code2.a r_Code2.len r_Code2.cap] 30) w fun (b2 : Addr) (w : World) =>
 Run .sl Tryz.prog (Builtin.append_ #[24, 24] 24 #[.slice Funcs.a Funcs.len Funcs.cap, .slice (some b2) 1 1]) w fun (s3 : Sl) (w : World) =>
 St (p.add 1) (.slice s3.a s3.len s3.cap) w fun (w : World) =>
 ∃ m6 : Nat, m6 < m5 ∧ Inv_3 (IntKind.i64.wrap (n_4 - 1)) m6 w)) E) else (Dr w fun (w : World) =>
 NN r fun (r_ : Addr) =>
 Ld (.i .i64) w (r_.add 1) fun (at_ : Int) =>
 NN r fun (r_4 : Addr) =>
 Ld .sl w r_4 fun (b3 : Sl) =>
 if (decide (at_ < (b3.len : Int))) = true then (NN r fun (r_5 : Addr) =>
 Ld (.i .i64) w (r_5.add 1) fun (at_2 : Int) =>
 c71 at_2 w (fun  (w : World) =>
 Ld .sl w p fun (p_Systems : Sl) => Ld .sl w (p.add 1) fun (p_Funcs : Sl) =>
 St a (.slice p_Systems.a p_Systems.len p_Systems.cap) w fun (w : World) =>
 St (a.add 1) (.slice p_Funcs.a p_Funcs.len p_Funcs.cap) w fun (w : World) =>
 Ld .sl w a fun (r_Systems : Sl) => Ld .sl w (a.add 1) fun (r_Funcs : Sl) =>
 R r_Systems r_Funcs w) E) else (Ld .sl w p fun (p_Systems2 : Sl) => Ld .sl w (p.add 1) fun (p_Funcs2 : Sl) =>
 St a (.slice p_Systems2.a p_Systems2.len p_Systems2.cap) w fun (w : World) =>
 St (a.add 1) (.slice p_Funcs2.a p_Funcs2.len p_Funcs2.cap) w fun (w : World) =>
 Ld .sl w a fun (r_Systems2 : Sl) => Ld .sl w (a.add 1) fun (r_Funcs2 : Sl) =>
 R r_Systems2 r_Funcs2 w)))) E))) E
theorem f37_eq (r : Option Addr) (w : World) (R : Sl → Sl → World → Prop) (E : List PanicEntry → World → Prop) :
  f37 r w R E = dFuncE Tryz.prog ⟨[(3, ⟨[(4, .i .i64)], [0, 2, 3]⟩), (7, ⟨[(16, .i .i64)], [0, 2, 3, 4, 5, 15]⟩), (14, ⟨[(8, .i .i64)], [0, 2, 3]⟩)], []⟩ [37, 68, 69, 70, 71] Tryz.f37 [.pointer r] (fun v w' => viewRet [.agg [.sl, .sl]] v R w') E w := by kernel_rfl
theorem c37_of {r : Option Addr} {w : World} {R : Sl → Sl → World → Prop} {E : List PanicEntry → World → Prop} (h : f37 r w R E) : c37 r w R E :=
 callP_of okP (pan := [37, 68, 69, 70, 71]) Tryz.func37 (by rw [← f37_eq]; exact h)
def f38 (r : Option Addr) (least most : Int) (w : World) (R : Int → World → Prop) : Prop :=
 NN r fun (r_ : Addr) =>
 Ld .b w (r_.add 2) fun (bad : Bool) =>
 if bad = true then (R least w) else (Dr w fun (w : World) =>
 NN r fun (r_2 : Addr) =>
 Ld .sl w r_2 fun (b : Sl) =>
 NN r fun (r_3 : Addr) =>
 Ld (.i .i64) w (r_3.add 1) fun (at_ : Int) =>
 Cut ⟨b.a, b.len, b.cap⟩ at_ (b.len : Int) (b.cap : Int) 1 fun (s : Sl) =>
 c72 s w fun (n_ k : Int) (w : World) =>
 if (cond (cond (cond (k == 0) true (decide (n_ < (IntKind.u64.wrap least)))) true (decide (n_ > (IntKind.u64.wrap most)))) true (decide (most < least))) = true then (NN r fun (r_4 : Addr) =>
 St (r_4.add 2) (.bool true) w fun (w : World) =>
 R least w) else (NN r fun (r_5 : Addr) =>
 Ld (.i .i64) w (r_5.add 1) fun (at_2 : Int) =>
 NN r fun (r_6 : Addr) =>
 St (r_6.add 1) (.int .i64 (IntKind.i64.wrap (at_2 + k))) w fun (w : World) =>
 R (IntKind.i64.wrap n_) w))
theorem c38_of {r least most w R} (h : f38 r least most w R) : c38 r least most w R :=
  callK_of (H := ⟨[], []⟩) okP Tryz.func38 (cast (by kernel_rfl) h)
def f39 (r : Option Addr) (w : World) (R : Sl → World → Prop) : Prop :=
 c38 r 0 12 w fun (n_ : Int) (w : World) =>
 ∃ Inv_ : Sl → Int → Int → Nat → World → Prop, (∃ n : Nat, Inv_ ⟨none, 0, 0⟩ 0 0 n w) ∧ ∀ l : Sl, ∀ last : Int, ∀ i : Int, ∀ m : Nat, ∀ w : World, Inv_ l last i m w → (∃ J_ : World → Prop, (if (decide (i < n_)) = true then (NN r fun (r_ : Addr) =>
 Ld .b w (r_.add 2) fun (bad : Bool) =>
 if (!bad) = true then (J_  w) else (R l w)) else (R l w)) ∧ ∀ w : World, J_  w → (c38 r (IntKind.i64.wrap (last + 1)) 12 w fun (last2 : Int) (w : World) =>
 Nw (.cells #[.int .i64 last2] 3) w fun (b : Addr) (w : World) =>
 Run .sl Tryz.prog (Builtin.append_ #[52, 52] 52 #[.slice l.a l.len l.cap, .slice (some b) 1 1]) w fun (l2 : Sl) (w : World) =>
 ∃ m2 : Nat, m2 < m ∧ Inv_ l2 last2 (IntKind.i64.wrap (i + 1)) m2 w))
theorem c39_of {r w R} (h : f39 r w R) : c39 r w R :=
  callK_of (H := ⟨[(5, ⟨[(4, .sl), (5, .i .i64), (6, .i .i64)], [0, 3]⟩)], [(7, ⟨[], [0, 3, 4, 5, 6]⟩)]⟩) okP Tryz.func39 (cast (by kernel_rfl) h)
def f40 (r : Option Addr) (w : World) (R : ByteArray → Int → Int → Sl → World → Prop) : Prop :=
 Nw (.cells #[.string (⟨#[]⟩ : ByteArray), .int .i64 0, .int .i64 0, .slice none 0 0] 30) w fun (a : Addr) (w : World) =>
 Nw (.cells #[.string (⟨#[]⟩ : ByteArray), .int .i64 0, .int .i64 0, .slice none 0 0] 30) w fun (out : Addr) (w : World) =>
 St out (.string (⟨#[]⟩ : ByteArray)) w fun (w : World) =>
 St (out.add 1) (.int .i64 0) w fun (w : World) =>
 St (out.add 2) (.int .i64 0) w fun (w : World) =>
 St (out.add 3) (.slice none 0 0) w fun (w : World) =>
 NN r fun (r_ : Addr) =>
 Ld .b w (r_.add 2) fun (bad : Bool) =>
 if bad = true then (Ld .s w out fun (out_Name : ByteArray) => Ld (.i .i64) w (out.add 1) fun (out_Params : Int) => Ld (.i .i64) w (out.add 2) fun (out_Locals : Int) => Ld .sl w (out.add 3) fun (out_Code : Sl) =>
 St a (.string out_Name) w fun (w : World) =>
 St (a.add 1) (.int .i64 out_Params) w fun (w : World) =>
 St (a.add 2) (.int .i64 out_Locals) w fun (w : World) =>
 St (a.add 3) (.slice out_Code.a out_Code.len out_Code.cap) w fun (w : World) =>
 Ld .s w a fun (r_Name : ByteArray) => Ld (.i .i64) w (a.add 1) fun (r_Params : Int) => Ld (.i .i64) w (a.add 2) fun (r_Locals : Int) => Ld .sl w (a.add 3) fun (r_Code : Sl) =>
 R r_Name r_Params r_Locals r_Code w) else (Dr w fun (w : World) =>
 NN r fun (r_2 : Addr) =>
 Ld .sl w r_2 fun (b : Sl) =>
 NN r fun (r_3 : Addr) =>
 Ld (.i .i64) w (r_3.add 1) fun (at_ : Int) =>
 Cut ⟨b.a, b.len, b.cap⟩ at_ (b.len : Int) (b.cap : Int) 1 fun (s : Sl) =>
 c73 s w fun (s2 : ByteArray) (k : Int) (w : World) =>
 if (cond (cond (k == 0) true (decide ((s2.size : Int) < 1))) true (decide ((s2.size : Int) > 16))) = true then (NN r fun (r_4 : Addr) =>
 St (r_4.add 2) (.bool true) w fun (w : World) =>
 Ld .s w out fun (out_Name2 : ByteArray) => Ld (.i .i64) w (out.add 1) fun (out_Params2 : Int) => Ld (.i .i64) w (out.add 2) fun (out_Locals2 : Int) => Ld .sl w (out.add 3) fun (out_Code2 : Sl) =>
 St a (.string out_Name2) w fun (w : World) =>
 St (a.add 1) (.int .i64 out_Params2) w fun (w : World) =>
 St (a.add 2) (.int .i64 out_Locals2) w fun (w : World) =>
 St (a.add 3) (.slice out_Code2.a out_Code2.len out_Code2.cap) w fun (w : World) =>
 Ld .s w a fun (r_Name2 : ByteArray) => Ld (.i .i64) w (a.add 1) fun (r_Params2 : Int) => Ld (.i .i64) w (a.add 2) fun (r_Locals2 : Int) => Ld .sl w (a.add 3) fun (r_Code2 : Sl) =>
 R r_Name2 r_Params2 r_Locals2 r_Code2 w) else (NN r fun (r_5 : Addr) =>
 Ld (.i .i64) w (r_5.add 1) fun (at_2 : Int) =>
 NN r fun (r_6 : Addr) =>
 St (r_6.add 1) (.int .i64 (IntKind.i64.wrap (at_2 + k))) w fun (w : World) =>
 St out (.string s2) w fun (w : World) =>
 c38 r 0 4 w fun (r2 : Int) (w : World) =>
 St (out.add 1) (.int .i64 r2) w fun (w : World) =>
 Ld (.i .i64) w (out.add 1) fun (Params : Int) =>
 c38 r Params 32 w fun (r3 : Int) (w : World) =>
 St (out.add 2) (.int .i64 r3) w fun (w : World) =>
 NN r fun (r_7 : Addr) =>
 Ld (.i .i64) w (r_7.add 3) fun (code : Int) =>
 c38 r 0 (IntKind.i64.wrap (2000 - code)) w fun (n_ : Int) (w : World) =>
 NN r fun (r_8 : Addr) =>
 Ld (.i .i64) w (r_8.add 3) fun (code2 : Int) =>
 NN r fun (r_9 : Addr) =>
 St (r_9.add 3) (.int .i64 (IntKind.i64.wrap (code2 + n_))) w fun (w : World) =>
 ∃ Inv_ : Int → Nat → World → Prop, (∃ n : Nat, Inv_ 0 n w) ∧ ∀ i : Int, ∀ m : Nat, ∀ w : World, Inv_ i m w → (∃ J_ : World → Prop, (if (decide (i < n_)) = true then (NN r fun (r_10 : Addr) =>
 Ld .b w (r_10.add 2) fun (bad2 : Bool) =>
 if (!bad2) = true then (J_  w) else (Ld .s w out fun (out_Name3 : ByteArray) => Ld (.i .i64) w (out.add 1) fun (out_Params3 : Int) => Ld (.i .i64) w (out.add 2) fun (out_Locals3 : Int) => Ld .sl w (out.add 3) fun (out_Code3 : Sl) =>
 St a (.string out_Name3) w fun (w : World) =>
 St (a.add 1) (.int .i64 out_Params3) w fun (w : World) =>
 St (a.add 2) (.int .i64 out_Locals3) w fun (w : World) =>
 St (a.add 3) (.slice out_Code3.a out_Code3.len out_Code3.cap) w fun (w : World) =>
 Ld .s w a fun (r_Name3 : ByteArray) => Ld (.i .i64) w (a.add 1) fun (r_Params3 : Int) => Ld (.i .i64) w (a.add 2) fun (r_Locals3 : Int) => Ld .sl w (a.add 3) fun (r_Code3 : Sl) =>
 R r_Name3 r_Params3 r_Locals3 r_Code3 w)) else (Ld .s w out fun (out_Name4 : ByteArray) => Ld (.i .i64) w (out.add 1) fun (out_Params4 : Int) => Ld (.i .i64) w (out.add 2) fun (out_Locals4 : Int) => Ld .sl w (out.add 3) fun (out_Code4 : Sl) =>
 St a (.string out_Name4) w fun (w : World) =>
 St (a.add 1) (.int .i64 out_Params4) w fun (w : World) =>
 St (a.add 2) (.int .i64 out_Locals4) w fun (w : World) =>
 St (a.add 3) (.slice out_Code4.a out_Code4.len out_Code4.cap) w fun (w : World) =>
 Ld .s w a fun (r_Name4 : ByteArray) => Ld (.i .i64) w (a.add 1) fun (r_Params4 : Int) => Ld (.i .i64) w (a.add 2) fun (r_Locals4 : Int) => Ld .sl w (a.add 3) fun (r_Code4 : Sl) =>
 R r_Name4 r_Params4 r_Locals4 r_Code4 w)) ∧ ∀ w : World, J_  w → (c38 r 1 39 w fun (r4 : Int) (w : World) =>
 Nw (.cells #[.int .i64 0, .int .i64 0] 23) w fun (x : Addr) (w : World) =>
 St x (.int .i64 r4) w fun (w : World) =>
 St (x.add 1) (.int .i64 0) w fun (w : World) =>
 Ld (.i .i64) w x fun (Op : Int) =>
 c59 Op w fun (has : Bool) (w : World) =>
 ∃ J_2 : World → Prop, (∃ J_3 : Bool → World → Prop, (if has = true then (NN r fun (r_11 : Addr) =>
 Ld .b w (r_11.add 2) fun (bad3 : Bool) =>
 J_3 (!bad3) w) else (J_3 false w)) ∧ ∀ t107 : Bool, ∀ w : World, J_3 t107 w → (if t107 = true then (Dr w fun (w : World) =>
 NN r fun (r_12 : Addr) =>
 Ld .sl w r_12 fun (b2 : Sl) =>
 NN r fun (r_13 : Addr) =>
 Ld (.i .i64) w (r_13.add 1) fun (at_3 : Int) =>
 Cut ⟨b2.a, b2.len, b2.cap⟩ at_3 (b2.len : Int) (b2.cap : Int) 1 fun (s3 : Sl) =>
 c74 s3 w fun (a2 m3 : Int) (w : World) =>
 ∃ J_4 : World → Prop, (if (m3 == 0) = true then (NN r fun (r_14 : Addr) =>
 St (r_14.add 2) (.bool true) w fun (w : World) =>
 J_4  w) else (J_4  w)) ∧ ∀ w : World, J_4  w → (NN r fun (r_15 : Addr) =>
 Ld (.i .i64) w (r_15.add 1) fun (at_4 : Int) =>
 NN r fun (r_16 : Addr) =>
 St (r_16.add 1) (.int .i64 (IntKind.i64.wrap (at_4 + m3))) w fun (w : World) =>
 St (x.add 1) (.int .i64 a2) w fun (w : World) =>
 J_2  w)) else (J_2  w))) ∧ ∀ w : World, J_2  w → (Ld .sl w (out.add 3) fun (Code : Sl) =>
 Ld (.i .i64) w x fun (x_Op : Int) => Ld (.i .i64) w (x.add 1) fun (x_A : Int) =>
 Nw (.cells #[.int .i64 x_Op, .int .i64 x_A] 23) w fun (b3 : Addr) (w : World) =>
 Run .sl Tryz.prog (Builtin.append_ #[28, 28] 28 #[.slice Code.a Code.len Code.cap, .slice (some b3) 1 1]) w fun (s4 : Sl) (w : World) =>
 St (out.add 3) (.slice s4.a s4.len s4.cap) w fun (w : World) =>
 ∃ m2 : Nat, m2 < m ∧ Inv_ (IntKind.i64.wrap (i + 1)) m2 w)))))
theorem c40_of {r w R} (h : f40 r w R) : c40 r w R :=
  callK_of (H := ⟨[(15, ⟨[(7, .i .i64)], [0, 2, 3, 6]⟩)], [(17, ⟨[], [0, 2, 3, 6, 7]⟩), (20, ⟨[(107, .b)], [0, 2, 3, 6, 7, 8]⟩), (23, ⟨[], [0, 2, 3, 6, 7, 8, 10, 11]⟩), (25, ⟨[], [0, 2, 3, 6, 7, 8]⟩)]⟩) okP Tryz.func40 (cast (by kernel_rfl) h)
def f41 (a b : Sl) (w : World) (R : Bool → World → Prop) : Prop :=
 if ((a.len : Int) != (b.len : Int)) = true then (R false w) else (∃ Inv_ : Int → Nat → World → Prop, (∃ n : Nat, Inv_ 0 n w) ∧ ∀ i : Int, ∀ m : Nat, ∀ w : World, Inv_ i m w → (if (decide (i < (a.len : Int))) = true then (Dr w fun (w : World) =>
 Ix a.a a.len i 1 fun (a2 : Addr) =>
 Ld (.i .i64) w a2 fun (x : Int) =>
 Ix b.a b.len i 1 fun (a3 : Addr) =>
 Ld (.i .i64) w a3 fun (x2 : Int) =>
 if (x != x2) = true then (R false w) else (∃ m2 : Nat, m2 < m ∧ Inv_ (IntKind.i64.wrap (i + 1)) m2 w)) else (R true w)))
theorem c41_of {a b w R} (h : f41 a b w R) : c41 a b w R :=
  callK_of (H := ⟨[(4, ⟨[(5, .i .i64)], [0, 1]⟩)], []⟩) okP Tryz.func41 (cast (by kernel_rfl) h)
def f42 (l : Sl) (w : World) (R : Bool → World → Prop) : Prop :=
 ∃ Inv_ : Int → Nat → World → Prop, (∃ n : Nat, Inv_ 0 n w) ∧ ∀ i : Int, ∀ m : Nat, ∀ w : World, Inv_ i m w → (if (decide (i < (l.len : Int))) = true then (∃ Inv_2 : Int → Nat → World → Prop, (∃ n : Nat, Inv_2 0 n w) ∧ ∀ k : Int, ∀ m3 : Nat, ∀ w : World, Inv_2 k m3 w → (Ix l.a l.len i 1 fun (a : Addr) =>
 Ld .sl w a fun (x : Sl) =>
 if (decide (k < (x.len : Int))) = true then (Ix l.a l.len i 1 fun (a2 : Addr) =>
 Ld .sl w a2 fun (x2 : Sl) =>
 Ix x2.a x2.len k 1 fun (a3 : Addr) =>
 St a3 (.int .i64 (IntKind.i64.wrap ((-1000) - i))) w fun (w : World) =>
 ∃ m4 : Nat, m4 < m3 ∧ Inv_2 (IntKind.i64.wrap (k + 1)) m4 w) else (∃ m2 : Nat, m2 < m ∧ Inv_ (IntKind.i64.wrap (i + 1)) m2 w))) else (∃ Inv_3 : Sl → Int → Nat → World → Prop, (∃ n : Nat, Inv_3 l 0 n w) ∧ ∀ l2 : Sl, ∀ i2 : Int, ∀ m5 : Nat, ∀ w : World, Inv_3 l2 i2 m5 w → (if (decide (i2 < (l.len : Int))) = true then (Ix l2.a l2.len i2 1 fun (a4 : Addr) =>
 Ld .sl w a4 fun (g : Sl) =>
 ∃ Inv_4 : Sl → Int → Nat → World → Prop, (∃ n : Nat, Inv_4 g 0 n w) ∧ ∀ g2 : Sl, ∀ k2 : Int, ∀ m7 : Nat, ∀ w : World, Inv_4 g2 k2 m7 w → (if (decide (k2 < 64)) = true then (Nw (.cells #[.int .i64 (IntKind.i64.wrap ((-1000) - i2))] 3) w fun (b : Addr) (w : World) =>
 Run .sl Tryz.prog (Builtin.append_ #[52, 52] 52 #[.slice g2.a g2.len g2.cap, .slice (some b) 1 1]) w fun (g3 : Sl) (w : World) =>
 ∃ m8 : Nat, m8 < m7 ∧ Inv_4 g3 (IntKind.i64.wrap (k2 + 1)) m8 w) else (Nw (.cells #[.slice g2.a g2.len g2.cap] 52) w fun (b2 : Addr) (w : World) =>
 Run .sl Tryz.prog (Builtin.append_ #[51, 51] 51 #[.slice l2.a l2.len l2.cap, .slice (some b2) 1 1]) w fun (l3 : Sl) (w : World) =>
 ∃ m6 : Nat, m6 < m5 ∧ Inv_3 l3 (IntKind.i64.wrap (i2 + 1)) m6 w))) else (∃ Inv_5 : Int → Nat → World → Prop, (∃ n : Nat, Inv_5 0 n w) ∧ ∀ i3 : Int, ∀ m9 : Nat, ∀ w : World, Inv_5 i3 m9 w → (if (decide (i3 < (l2.len : Int))) = true then (∃ Inv_6 : Int → Nat → World → Prop, (∃ n : Nat, Inv_6 0 n w) ∧ ∀ k3 : Int, ∀ m11 : Nat, ∀ w : World, Inv_6 k3 m11 w → (Ix l2.a l2.len i3 1 fun (a5 : Addr) =>
 Ld .sl w a5 fun (x3 : Sl) =>
 if (decide (k3 < (x3.len : Int))) = true then (Dr w fun (w : World) =>
 Ix l2.a l2.len i3 1 fun (a6 : Addr) =>
 Ld .sl w a6 fun (x4 : Sl) =>
 Ix x4.a x4.len k3 1 fun (a7 : Addr) =>
 Ld (.i .i64) w a7 fun (x5 : Int) =>
 ((l.len : Int) : Int) ≠ 0 ∧ (if (x5 != (IntKind.i64.wrap ((-1000) - (Int.tmod i3 (l.len : Int))))) = true then (R false w) else (∃ m12 : Nat, m12 < m11 ∧ Inv_6 (IntKind.i64.wrap (k3 + 1)) m12 w))) else (∃ m10 : Nat, m10 < m9 ∧ Inv_5 (IntKind.i64.wrap (i3 + 1)) m10 w))) else (R true w))))))
theorem c42_of {l w R} (h : f42 l w R) : c42 l w R :=
  callK_of (H := ⟨[(3, ⟨[(4, .i .i64)], [0, 3]⟩), (6, ⟨[(5, .i .i64)], [0, 3, 4]⟩), (10, ⟨[(0, .sl), (6, .i .i64)], [3]⟩), (14, ⟨[(7, .sl), (8, .i .i64)], [0, 3, 6]⟩), (19, ⟨[(9, .i .i64)], [0, 3]⟩), (22, ⟨[(10, .i .i64)], [0, 3, 9]⟩)], []⟩) okP Tryz.func42 (cast (by kernel_rfl) h)
def f43 (p_Systems p_Funcs : Sl) (w : World) (R : Bool → World → Prop) : Prop :=
 Nw (.cells #[.slice p_Systems.a p_Systems.len p_Systems.cap, .slice p_Funcs.a p_Funcs.len p_Funcs.cap] 37) w fun (p : Addr) (w : World) =>
 Nw (.cells #[.int .i64 0] 3) w fun (left : Addr) (w : World) =>
 St left (.int .i64 2000) w fun (w : World) =>
 ∃ J_ : World → Prop, (Ld .sl w p fun (Systems : Sl) =>
 if (decide ((Systems.len : Int) > 16)) = true then (R false w) else (Ld .sl w (p.add 1) fun (Funcs : Sl) =>
 if (decide ((Funcs.len : Int) > 16)) = true then (R false w) else (J_  w))) ∧ ∀ w : World, J_  w → (Ld .sl w p fun (Systems2 : Sl) =>
 ∃ Inv_ : Int → Nat → World → Prop, (∃ n : Nat, Inv_ 0 n w) ∧ ∀ t23 : Int, ∀ m : Nat, ∀ w : World, Inv_ t23 m w → (if (decide (t23 < (Systems2.len : Int))) = true then (Ix Systems2.a Systems2.len t23 8 fun (a : Addr) =>
 Ld .sl w a fun (s_With : Sl) => Ld .sl w (a.add 1) fun (s_Without : Sl) => Ld .sl w (a.add 2) fun (s_Reads : Sl) => Ld .sl w (a.add 3) fun (s_Writes : Sl) => Ld .s w (a.add 4) fun (s_Run_Name : ByteArray) => Ld (.i .i64) w (a.add 5) fun (s_Run_Params : Int) => Ld (.i .i64) w (a.add 6) fun (s_Run_Locals : Int) => Ld .sl w (a.add 7) fun (s_Run_Code : Sl) =>
 Nw (.cells #[.slice none 0 0, .slice none 0 0, .slice none 0 0, .slice none 0 0, .string (⟨#[]⟩ : ByteArray), .int .i64 0, .int .i64 0, .slice none 0 0] 54) w fun (s : Addr) (w : World) =>
 St s (.slice s_With.a s_With.len s_With.cap) w fun (w : World) =>
 St (s.add 1) (.slice s_Without.a s_Without.len s_Without.cap) w fun (w : World) =>
 St (s.add 2) (.slice s_Reads.a s_Reads.len s_Reads.cap) w fun (w : World) =>
 St (s.add 3) (.slice s_Writes.a s_Writes.len s_Writes.cap) w fun (w : World) =>
 St (s.add 4) (.string s_Run_Name) w fun (w : World) =>
 St (s.add 5) (.int .i64 s_Run_Params) w fun (w : World) =>
 St (s.add 6) (.int .i64 s_Run_Locals) w fun (w : World) =>
 St (s.add 7) (.slice s_Run_Code.a s_Run_Code.len s_Run_Code.cap) w fun (w : World) =>
 c45 (some s) w fun (r_0 r_1 : Option Addr) (r_2 r_3 : Option Addr) (w : World) =>
 ∃ Inv_2 : Int → Nat → World → Prop, (∃ n : Nat, Inv_2 0 n w) ∧ ∀ t28 : Int, ∀ m3 : Nat, ∀ w : World, Inv_2 t28 m3 w → (if (decide (t28 < 4)) = true then (IxV [.pointer r_0, .pointer r_1, .pointer r_2, .pointer r_3] 4 t28 .p fun (l : Option Addr) =>
 NN l fun (l_ : Addr) =>
 Ld .sl w l_ fun (x : Sl) =>
 c75 x w fun (r : Bool) (w : World) =>
 if (!r) = true then (R false w) else (∃ m4 : Nat, m4 < m3 ∧ Inv_2 (IntKind.i64.wrap (t28 + 1)) m4 w)) else (Ld .s w (s.add 4) fun (Run_Name : ByteArray) => Ld (.i .i64) w ((s.add 4).add 1) fun (Run_Params : Int) => Ld (.i .i64) w ((s.add 4).add 2) fun (Run_Locals : Int) => Ld .sl w ((s.add 4).add 3) fun (Run_Code : Sl) =>
 c52 Run_Name Run_Params Run_Locals Run_Code (some left) w fun (r2 : Bool) (w : World) =>
 if (!r2) = true then (R false w) else (∃ m2 : Nat, m2 < m ∧ Inv_ (IntKind.i64.wrap (t23 + 1)) m2 w)))) else (Ld .sl w (p.add 1) fun (Funcs2 : Sl) =>
 ∃ Inv_3 : Int → Nat → World → Prop, (∃ n : Nat, Inv_3 0 n w) ∧ ∀ t45 : Int, ∀ m5 : Nat, ∀ w : World, Inv_3 t45 m5 w → (if (decide (t45 < (Funcs2.len : Int))) = true then (Ix Funcs2.a Funcs2.len t45 4 fun (a2 : Addr) =>
 Ld .s w a2 fun (r_Name : ByteArray) => Ld (.i .i64) w (a2.add 1) fun (r_Params : Int) => Ld (.i .i64) w (a2.add 2) fun (r_Locals : Int) => Ld .sl w (a2.add 3) fun (r_Code : Sl) =>
 Nw (.cells #[.string (⟨#[]⟩ : ByteArray), .int .i64 0, .int .i64 0, .slice none 0 0] 30) w fun (r3 : Addr) (w : World) =>
 St r3 (.string r_Name) w fun (w : World) =>
 St (r3.add 1) (.int .i64 r_Params) w fun (w : World) =>
 St (r3.add 2) (.int .i64 r_Locals) w fun (w : World) =>
 St (r3.add 3) (.slice r_Code.a r_Code.len r_Code.cap) w fun (w : World) =>
 Ld .s w r3 fun (r_Name2 : ByteArray) => Ld (.i .i64) w (r3.add 1) fun (r_Params2 : Int) => Ld (.i .i64) w (r3.add 2) fun (r_Locals2 : Int) => Ld .sl w (r3.add 3) fun (r_Code2 : Sl) =>
 c52 r_Name2 r_Params2 r_Locals2 r_Code2 (some left) w fun (r4 : Bool) (w : World) =>
 if (!r4) = true then (R false w) else (∃ m6 : Nat, m6 < m5 ∧ Inv_3 (IntKind.i64.wrap (t45 + 1)) m6 w)) else (R true w)))))
theorem c43_of {p_Systems p_Funcs w R} (h : f43 p_Systems p_Funcs w R) : c43 p_Systems p_Funcs w R :=
  callK_of (H := ⟨[(5, ⟨[(23, .i .i64)], [1, 3, 21, 22]⟩), (8, ⟨[(28, .i .i64)], [1, 3, 5, 21, 22, 23, 27]⟩), (17, ⟨[(45, .i .i64)], [3, 43, 44]⟩)], [(4, ⟨[], [1, 3]⟩)]⟩) okP Tryz.func43 (cast (by kernel_rfl) h)
def f44 (b : Sl) (n_ : Int) (w : World) (R : Sl → World → Prop) : Prop :=
 c76 b (IntKind.u64.wrap n_) w fun (r : Sl) (w : World) =>
 R r w
theorem c44_of {b n_ w R} (h : f44 b n_ w R) : c44 b n_ w R :=
  callK_of (H := ⟨[], []⟩) okP Tryz.func44 (cast (by kernel_rfl) h)
def f45 (s : Option Addr) (w : World) (R : Option Addr → Option Addr → Option Addr → Option Addr → World → Prop) : Prop :=
 Nw (.cells #[.pointer none, .pointer none, .pointer none, .pointer none] 100) w fun (a : Addr) (w : World) =>
 Dr w fun (w : World) =>
 NN s fun (s_ : Addr) =>
 NN s fun (s_2 : Addr) =>
 NN s fun (s_3 : Addr) =>
 NN s fun (s_4 : Addr) =>
 St a (.pointer (some s_)) w fun (w : World) =>
 St (a.add 1) (.pointer (some (s_2.add 1))) w fun (w : World) =>
 St (a.add 2) (.pointer (some (s_3.add 2))) w fun (w : World) =>
 St (a.add 3) (.pointer (some (s_4.add 3))) w fun (w : World) =>
 Ld .p w a fun (r_0 : Option Addr) => Ld .p w (a.add 1) fun (r_1 : Option Addr) => Ld .p w (a.add 2) fun (r_2 : Option Addr) => Ld .p w (a.add 3) fun (r_3 : Option Addr) =>
 R r_0 r_1 r_2 r_3 w
theorem c45_of {s w R} (h : f45 s w R) : c45 s w R :=
  callK_of (H := ⟨[], []⟩) okP Tryz.func45 (cast (by kernel_rfl) h)
def f46 (b : Sl) (r_Name : ByteArray) (r_Params r_Locals : Int) (r_Code : Sl) (w : World) (R : Sl → World → Prop) : Prop :=
 Nw (.cells #[.string r_Name, .int .i64 r_Params, .int .i64 r_Locals, .slice r_Code.a r_Code.len r_Code.cap] 30) w fun (r : Addr) (w : World) =>
 Dr w fun (w : World) =>
 Ld .s w r fun (Name : ByteArray) =>
 Ld (.i .i64) w (r.add 1) fun (Params : Int) =>
 Ld (.i .i64) w (r.add 2) fun (Locals : Int) =>
 Ld .sl w (r.add 3) fun (Code : Sl) =>
 c77 b Name w fun (r2 : Sl) (w : World) =>
 w.cell? (r.add 3) = some (.slice Code.a Code.len Code.cap) ∧ w.cell? (r.add 2) = some (.int .i64 Locals) ∧ w.cell? (r.add 1) = some (.int .i64 Params) ∧ (c44 r2 Params w fun (r3 : Sl) (w : World) =>
 w.cell? (r.add 3) = some (.slice Code.a Code.len Code.cap) ∧ w.cell? (r.add 2) = some (.int .i64 Locals) ∧ (c44 r3 Locals w fun (r4 : Sl) (w : World) =>
 w.cell? (r.add 3) = some (.slice Code.a Code.len Code.cap) ∧ (c44 r4 (Code.len : Int) w fun (b2 : Sl) (w : World) =>
 Ld .sl w (r.add 3) fun (Code2 : Sl) =>
 ∃ Inv_ : Sl → Int → Nat → World → Prop, (∃ n : Nat, Inv_ b2 0 n w) ∧ ∀ b3 : Sl, ∀ t24 : Int, ∀ m : Nat, ∀ w : World, Inv_ b3 t24 m w → (if (decide (t24 < (Code2.len : Int))) = true then (Ix Code2.a Code2.len t24 2 fun (a : Addr) =>
 Ld (.i .i64) w a fun (i_Op : Int) => Ld (.i .i64) w (a.add 1) fun (i_A : Int) =>
 Nw (.cells #[.int .i64 0, .int .i64 0] 23) w fun (i : Addr) (w : World) =>
 St i (.int .i64 i_Op) w fun (w : World) =>
 St (i.add 1) (.int .i64 i_A) w fun (w : World) =>
 Ld (.i .i64) w i fun (Op : Int) =>
 c44 b3 Op w fun (b4 : Sl) (w : World) =>
 Ld (.i .i64) w i fun (Op2 : Int) =>
 c32 Op2 w fun (r_word : ByteArray) (r_number : Bool) (r_takes r_puts r_by : Int) (w : World) =>
 if r_number = true then (Ld (.i .i64) w (i.add 1) fun (A : Int) =>
 c78 b4 A w fun (b5 : Sl) (w : World) =>
 ∃ m2 : Nat, m2 < m ∧ Inv_ b5 (IntKind.i64.wrap (t24 + 1)) m2 w) else (∃ m2 : Nat, m2 < m ∧ Inv_ b4 (IntKind.i64.wrap (t24 + 1)) m2 w)) else (R b3 w)))))
theorem c46_of {b r_Name r_Params r_Locals r_Code w R} (h : f46 b r_Name r_Params r_Locals r_Code w R) : c46 b r_Name r_Params r_Locals r_Code w R :=
  callK_of (H := ⟨[(3, ⟨[(0, .sl), (24, .i .i64)], [22, 23]⟩)], []⟩) okP Tryz.func46 (cast (by kernel_rfl) h)
def f51 (name : ByteArray) (w : World) (R : Bool → World → Prop) : Prop :=
 ∃ Inv_ : Int → Nat → World → Prop, (∃ n : Nat, Inv_ 0 n w) ∧ ∀ t6 : Int, ∀ m : Nat, ∀ w : World, Inv_ t6 m w → (if (decide (t6 < (name.size : Int))) = true then (IxS name t6 fun (c : Int) =>
 if (decide (c < 33)) = true then (R false w) else (IxS name t6 fun (c2 : Int) =>
 if (decide (c2 > 126)) = true then (R false w) else (∃ m2 : Nat, m2 < m ∧ Inv_ (IntKind.i64.wrap (t6 + 1)) m2 w))) else (R (cond (!(name.toList == (⟨#[]⟩ : ByteArray).toList)) (decide ((name.size : Int) ≤ 16)) false) w))
theorem c51_of {name w R} (h : f51 name w R) : c51 name w R :=
  callK_of (H := ⟨[(2, ⟨[(6, .i .i64)], [0, 5]⟩)], []⟩) okP Tryz.func51 (cast (by kernel_rfl) h)
def f52 (r_Name : ByteArray) (r_Params r_Locals : Int) (r_Code : Sl) (left : Option Addr) (w : World) (R : Bool → World → Prop) : Prop :=
 Nw (.cells #[.string r_Name, .int .i64 r_Params, .int .i64 r_Locals, .slice r_Code.a r_Code.len r_Code.cap] 30) w fun (r : Addr) (w : World) =>
 Dr w fun (w : World) =>
 NN left fun (left_ : Addr) =>
 Ld (.i .i64) w left_ fun (x : Int) =>
 Ld .sl w (r.add 3) fun (Code : Sl) =>
 NN left fun (left_2 : Addr) =>
 St left_2 (.int .i64 (IntKind.i64.wrap (x - (Code.len : Int)))) w fun (w : World) =>
 ∃ J_ : World → Prop, (Ld .s w r fun (Name : ByteArray) =>
 if (decide ((Name.size : Int) < 1)) = true then (R false w) else (Ld .s w r fun (Name2 : ByteArray) =>
 if (decide ((Name2.size : Int) > 16)) = true then (R false w) else (Ld .s w r fun (r_Name2 : ByteArray) => Ld (.i .i64) w (r.add 1) fun (r_Params2 : Int) => Ld (.i .i64) w (r.add 2) fun (r_Locals2 : Int) => Ld .sl w (r.add 3) fun (r_Code2 : Sl) =>
 c83 r_Name2 r_Params2 r_Locals2 r_Code2 w fun (r2 : Bool) (w : World) =>
 if (!r2) = true then (R false w) else (NN left fun (left_3 : Addr) =>
 Ld (.i .i64) w left_3 fun (x2 : Int) =>
 if (decide (x2 < 0)) = true then (R false w) else (J_  w))))) ∧ ∀ w : World, J_  w → (Ld .sl w (r.add 3) fun (Code2 : Sl) =>
 ∃ Inv_ : Int → Nat → World → Prop, (∃ n : Nat, Inv_ 0 n w) ∧ ∀ t39 : Int, ∀ m : Nat, ∀ w : World, Inv_ t39 m w → (if (decide (t39 < (Code2.len : Int))) = true then (Ix Code2.a Code2.len t39 2 fun (a : Addr) =>
 Ld (.i .i64) w a fun (i_Op : Int) => Ld (.i .i64) w (a.add 1) fun (i_A : Int) =>
 Nw (.cells #[.int .i64 0, .int .i64 0] 23) w fun (i : Addr) (w : World) =>
 St i (.int .i64 i_Op) w fun (w : World) =>
 St (i.add 1) (.int .i64 i_A) w fun (w : World) =>
 Ld (.i .i64) w i fun (i_Op2 : Int) => Ld (.i .i64) w (i.add 1) fun (i_A2 : Int) =>
 c84 i_Op2 i_A2 w fun (r3 : Bool) (w : World) =>
 if (!r3) = true then (R false w) else (∃ m2 : Nat, m2 < m ∧ Inv_ (IntKind.i64.wrap (t39 + 1)) m2 w)) else (R true w)))
theorem c52_of {r_Name r_Params r_Locals r_Code left w R} (h : f52 r_Name r_Params r_Locals r_Code left w R) : c52 r_Name r_Params r_Locals r_Code left w R :=
  callK_of (H := ⟨[(5, ⟨[(39, .i .i64)], [37, 38]⟩)], [(4, ⟨[], [2]⟩)]⟩) okP Tryz.func52 (cast (by kernel_rfl) h)
def f53 (b : Option Addr) (s : ByteArray) (w : World) (R : Int → Value → World → Prop) : Prop :=
 c85 b w fun  (w : World) =>
 NN b fun (b_ : Addr) =>
 Ld .sl w (b_.add 1) fun (buf : Sl) =>
 Run .sl Tryz.prog (Builtin.append_ #[34, 9] 34 #[.slice buf.a buf.len buf.cap, .string s]) w fun (s2 : Sl) (w : World) =>
 NN b fun (b_2 : Addr) =>
 St (b_2.add 1) (.slice s2.a s2.len s2.cap) w fun (w : World) =>
 R (s.size : Int) .nilIface w
theorem c53_of {b s w R} (h : f53 b s w R) : c53 b s w R :=
  callK_of (H := ⟨[], []⟩) okP Tryz.func53 (cast (by kernel_rfl) h)
def f54 (i : Int) (w : World) (R : ByteArray → World → Prop) : Prop :=
 c86 i w fun (r : ByteArray) (w : World) =>
 R r w
theorem c54_of {i w R} (h : f54 i w R) : c54 i w R :=
  callK_of (H := ⟨[], []⟩) okP Tryz.func54 (cast (by kernel_rfl) h)
def f55 (i_Op i_A : Int) (w : World) (R : ByteArray → World → Prop) : Prop :=
 Nw (.cells #[.int .i64 i_Op, .int .i64 i_A] 23) w fun (i : Addr) (w : World) =>
 Ld (.i .i64) w i fun (Op : Int) =>
 c32 Op w fun (s_word : ByteArray) (s_number : Bool) (s_takes s_puts s_by : Int) (w : World) =>
 Nw (.cells #[.string (⟨#[]⟩ : ByteArray), .bool false, .int .i64 0, .int .i64 0, .int .i64 0] 74) w fun (s : Addr) (w : World) =>
 St s (.string s_word) w fun (w : World) =>
 St (s.add 1) (.bool s_number) w fun (w : World) =>
 St (s.add 2) (.int .i64 s_takes) w fun (w : World) =>
 St (s.add 3) (.int .i64 s_puts) w fun (w : World) =>
 St (s.add 4) (.int .i64 s_by) w fun (w : World) =>
 Ld .b w (s.add 1) fun (number : Bool) =>
 if number = true then (Dr w fun (w : World) =>
 Ld .s w s fun (word : ByteArray) =>
 word.size + (⟨#[32]⟩ : ByteArray).size ≤ 9223372036854775807 ∧ (Ld (.i .i64) w (i.add 1) fun (A : Int) =>
 c87 A 10 w fun (r : ByteArray) (w : World) =>
 w.cell? s = some (.string word) ∧ ((word ++ (⟨#[32]⟩ : ByteArray)).size + r.size ≤ 9223372036854775807 ∧ (R ((word ++ (⟨#[32]⟩ : ByteArray)) ++ r) w)))) else (Ld .s w s fun (word2 : ByteArray) =>
 R word2 w)
theorem c55_of {i_Op i_A w R} (h : f55 i_Op i_A w R) : c55 i_Op i_A w R :=
  callK_of (H := ⟨[], []⟩) okP Tryz.func55 (cast (by kernel_rfl) h)
def f59 (op : Int) (w : World) (R : Bool → World → Prop) : Prop :=
 c33 op w fun (is : Bool) (w : World) =>
 if is = true then (c34  w fun (r : Sl) (w : World) =>
 Ix r.a r.len op 4 fun (a : Addr) =>
 Ld .b w (a.add 1) fun (a2 : Bool) =>
 R a2 w) else (R false w)
theorem c59_of {op w R} (h : f59 op w R) : c59 op w R :=
  callK_of (H := ⟨[], []⟩) okP Tryz.func59 (cast (by kernel_rfl) h)
def f61 (s : ByteArray) (w : World) (R : ByteArray → Int → Int → Sl → Bool → World → Prop) : Prop :=
 Nw (.cells #[.string (⟨#[]⟩ : ByteArray), .int .i64 0, .int .i64 0, .slice none 0 0] 30) w fun (a : Addr) (w : World) =>
 c89 s (⟨#[32]⟩ : ByteArray) w fun (l : Sl) (w : World) =>
 ∃ J_ : Bool → World → Prop, (if ((l.len : Int) != 3) = true then (J_ true w) else (Ix l.a l.len 0 1 fun (a2 : Addr) =>
 Ld .s w a2 fun (x : ByteArray) =>
 c51 x w fun (r : Bool) (w : World) =>
 J_ (!r) w)) ∧ ∀ t20 : Bool, ∀ w : World, J_ t20 w → (if t20 = true then (St a (.string (⟨#[]⟩ : ByteArray)) w fun (w : World) =>
 St (a.add 1) (.int .i64 0) w fun (w : World) =>
 St (a.add 2) (.int .i64 0) w fun (w : World) =>
 St (a.add 3) (.slice none 0 0) w fun (w : World) =>
 Ld .s w a fun (r_Name : ByteArray) => Ld (.i .i64) w (a.add 1) fun (r_Params : Int) => Ld (.i .i64) w (a.add 2) fun (r_Locals : Int) => Ld .sl w (a.add 3) fun (r_Code : Sl) =>
 R r_Name r_Params r_Locals r_Code false w) else (Ix l.a l.len 1 1 fun (a3 : Addr) =>
 Ld .s w a3 fun (x2 : ByteArray) =>
 c90 x2 w fun (params : Int) (one : Bool) (w : World) =>
 Ix l.a l.len 2 1 fun (a4 : Addr) =>
 Ld .s w a4 fun (x3 : ByteArray) =>
 c90 x3 w fun (locals : Int) (two : Bool) (w : World) =>
 if (cond (cond (cond (cond (cond (!one) true (!two)) true (decide (params < 0))) true (decide (params > 4))) true (decide (locals < params))) true (decide (locals > 32))) = true then (St a (.string (⟨#[]⟩ : ByteArray)) w fun (w : World) =>
 St (a.add 1) (.int .i64 0) w fun (w : World) =>
 St (a.add 2) (.int .i64 0) w fun (w : World) =>
 St (a.add 3) (.slice none 0 0) w fun (w : World) =>
 Ld .s w a fun (r_Name2 : ByteArray) => Ld (.i .i64) w (a.add 1) fun (r_Params2 : Int) => Ld (.i .i64) w (a.add 2) fun (r_Locals2 : Int) => Ld .sl w (a.add 3) fun (r_Code2 : Sl) =>
 R r_Name2 r_Params2 r_Locals2 r_Code2 false w) else (Ix l.a l.len 0 1 fun (a5 : Addr) =>
 Ld .s w a5 fun (x4 : ByteArray) =>
 St a (.string x4) w fun (w : World) =>
 St (a.add 1) (.int .i64 params) w fun (w : World) =>
 St (a.add 2) (.int .i64 locals) w fun (w : World) =>
 St (a.add 3) (.slice none 0 0) w fun (w : World) =>
 Ld .s w a fun (r_Name3 : ByteArray) => Ld (.i .i64) w (a.add 1) fun (r_Params3 : Int) => Ld (.i .i64) w (a.add 2) fun (r_Locals3 : Int) => Ld .sl w (a.add 3) fun (r_Code3 : Sl) =>
 R r_Name3 r_Params3 r_Locals3 r_Code3 true w)))
theorem c61_of {s w R} (h : f61 s w R) : c61 s w R :=
  callK_of (H := ⟨[], [(3, ⟨[(20, .b)], [2, 4]⟩)]⟩) okP Tryz.func61 (cast (by kernel_rfl) h)
def f62 (s : ByteArray) (w : World) (R : Int → Int → Bool → World → Prop) : Prop :=
 Nw (.cells #[.int .i64 0, .int .i64 0] 23) w fun (a : Addr) (w : World) =>
 c60 s (⟨#[32]⟩ : ByteArray) w fun (word number : ByteArray) (more : Bool) (w : World) =>
 c13 word w fun (op : Int) (w : World) =>
 ∃ J_ : Bool → World → Prop, (if (op == 0) = true then (J_ true w) else (c32 op w fun (r_word : ByteArray) (r_number : Bool) (r_takes r_puts r_by : Int) (w : World) =>
 J_ (!(r_number == more)) w)) ∧ ∀ t26 : Bool, ∀ w : World, J_ t26 w → (if t26 = true then (St a (.int .i64 0) w fun (w : World) =>
 St (a.add 1) (.int .i64 0) w fun (w : World) =>
 Ld (.i .i64) w a fun (r_Op : Int) => Ld (.i .i64) w (a.add 1) fun (r_A : Int) =>
 R r_Op r_A false w) else (if (!more) = true then (St a (.int .i64 op) w fun (w : World) =>
 St (a.add 1) (.int .i64 0) w fun (w : World) =>
 Ld (.i .i64) w a fun (r_Op2 : Int) => Ld (.i .i64) w (a.add 1) fun (r_A2 : Int) =>
 R r_Op2 r_A2 true w) else (c90 number w fun (a2 : Int) (ok : Bool) (w : World) =>
 St a (.int .i64 op) w fun (w : World) =>
 St (a.add 1) (.int .i64 a2) w fun (w : World) =>
 Ld (.i .i64) w a fun (r_Op3 : Int) => Ld (.i .i64) w (a.add 1) fun (r_A3 : Int) =>
 R r_Op3 r_A3 ok w)))
theorem c62_of {s w R} (h : f62 s w R) : c62 s w R :=
  callK_of (H := ⟨[], [(4, ⟨[(26, .b)], [2, 5, 6, 7]⟩)]⟩) okP Tryz.func62 (cast (by kernel_rfl) h)
def f65 (a b : Sl) (w : World) (R : Bool → World → Prop) : Prop :=
 if ((a.len : Int) != (b.len : Int)) = true then (R false w) else (∃ Inv_ : Int → Nat → World → Prop, (∃ n : Nat, Inv_ 0 n w) ∧ ∀ i : Int, ∀ m : Nat, ∀ w : World, Inv_ i m w → (if (decide (i < (a.len : Int))) = true then (Dr w fun (w : World) =>
 Ix a.a a.len i 2 fun (a2 : Addr) =>
 Ld (.i .i64) w a2 fun (x_Op : Int) => Ld (.i .i64) w (a2.add 1) fun (x_A : Int) =>
 Ix b.a b.len i 2 fun (a3 : Addr) =>
 Ld (.i .i64) w a3 fun (x_Op2 : Int) => Ld (.i .i64) w (a3.add 1) fun (x_A2 : Int) =>
 RunRo .b Tryz.prog (binSem .neq 23 (.tmp 20) (.tmp 24) (.agg #[.int .i64 x_Op, .int .i64 x_A]) (.agg #[.int .i64 x_Op2, .int .i64 x_A2])) w fun (eq : Bool) =>
 if eq = true then (R false w) else (∃ m2 : Nat, m2 < m ∧ Inv_ (IntKind.i64.wrap (i + 1)) m2 w)) else (R true w)))
theorem c65_of {a b w R} (h : f65 a b w R) : c65 a b w R :=
  callK_of (H := ⟨[(4, ⟨[(5, .i .i64)], [0, 1]⟩)], []⟩) okP Tryz.func65 (cast (by kernel_rfl) h)
def f66 (op : Int) (w : World) (R : ByteArray → Bool → Int → Int → Int → World → Prop) : Prop :=
 Nw (.cells #[.string (⟨#[]⟩ : ByteArray), .bool false, .int .i64 0, .int .i64 0, .int .i64 0] 74) w fun (a : Addr) (w : World) =>
 if (op == 1) = true then (St a (.string (⟨#[112, 117, 115, 104]⟩ : ByteArray)) w fun (w : World) =>
 St (a.add 1) (.bool true) w fun (w : World) =>
 St (a.add 2) (.int .i64 0) w fun (w : World) =>
 St (a.add 3) (.int .i64 1) w fun (w : World) =>
 St (a.add 4) (.int .i64 0) w fun (w : World) =>
 Ld .s w a fun (r_word : ByteArray) => Ld .b w (a.add 1) fun (r_number : Bool) => Ld (.i .i64) w (a.add 2) fun (r_takes : Int) => Ld (.i .i64) w (a.add 3) fun (r_puts : Int) => Ld (.i .i64) w (a.add 4) fun (r_by : Int) =>
 R r_word r_number r_takes r_puts r_by w) else (if (op == 2) = true then (St a (.string (⟨#[108, 111, 97, 100]⟩ : ByteArray)) w fun (w : World) =>
 St (a.add 1) (.bool true) w fun (w : World) =>
 St (a.add 2) (.int .i64 0) w fun (w : World) =>
 St (a.add 3) (.int .i64 1) w fun (w : World) =>
 St (a.add 4) (.int .i64 0) w fun (w : World) =>
 Ld .s w a fun (r_word2 : ByteArray) => Ld .b w (a.add 1) fun (r_number2 : Bool) => Ld (.i .i64) w (a.add 2) fun (r_takes2 : Int) => Ld (.i .i64) w (a.add 3) fun (r_puts2 : Int) => Ld (.i .i64) w (a.add 4) fun (r_by2 : Int) =>
 R r_word2 r_number2 r_takes2 r_puts2 r_by2 w) else (if (op == 3) = true then (St a (.string (⟨#[115, 116, 111, 114, 101]⟩ : ByteArray)) w fun (w : World) =>
 St (a.add 1) (.bool true) w fun (w : World) =>
 St (a.add 2) (.int .i64 1) w fun (w : World) =>
 St (a.add 3) (.int .i64 0) w fun (w : World) =>
 St (a.add 4) (.int .i64 0) w fun (w : World) =>
 Ld .s w a fun (r_word3 : ByteArray) => Ld .b w (a.add 1) fun (r_number3 : Bool) => Ld (.i .i64) w (a.add 2) fun (r_takes3 : Int) => Ld (.i .i64) w (a.add 3) fun (r_puts3 : Int) => Ld (.i .i64) w (a.add 4) fun (r_by3 : Int) =>
 R r_word3 r_number3 r_takes3 r_puts3 r_by3 w) else (if (op == 4) = true then (St a (.string (⟨#[102, 105, 101, 108, 100]⟩ : ByteArray)) w fun (w : World) =>
 St (a.add 1) (.bool true) w fun (w : World) =>
 St (a.add 2) (.int .i64 0) w fun (w : World) =>
 St (a.add 3) (.int .i64 1) w fun (w : World) =>
 St (a.add 4) (.int .i64 0) w fun (w : World) =>
 Ld .s w a fun (r_word4 : ByteArray) => Ld .b w (a.add 1) fun (r_number4 : Bool) => Ld (.i .i64) w (a.add 2) fun (r_takes4 : Int) => Ld (.i .i64) w (a.add 3) fun (r_puts4 : Int) => Ld (.i .i64) w (a.add 4) fun (r_by4 : Int) =>
 R r_word4 r_number4 r_takes4 r_puts4 r_by4 w) else (if (op == 5) = true then (St a (.string (⟨#[112, 117, 116]⟩ : ByteArray)) w fun (w : World) =>
 St (a.add 1) (.bool true) w fun (w : World) =>
 St (a.add 2) (.int .i64 1) w fun (w : World) =>
 St (a.add 3) (.int .i64 0) w fun (w : World) =>
 St (a.add 4) (.int .i64 0) w fun (w : World) =>
 Ld .s w a fun (r_word5 : ByteArray) => Ld .b w (a.add 1) fun (r_number5 : Bool) => Ld (.i .i64) w (a.add 2) fun (r_takes5 : Int) => Ld (.i .i64) w (a.add 3) fun (r_puts5 : Int) => Ld (.i .i64) w (a.add 4) fun (r_by5 : Int) =>
 R r_word5 r_number5 r_takes5 r_puts5 r_by5 w) else (if (op == 6) = true then (St a (.string (⟨#[97, 100, 100]⟩ : ByteArray)) w fun (w : World) =>
 St (a.add 1) (.bool false) w fun (w : World) =>
 St (a.add 2) (.int .i64 2) w fun (w : World) =>
 St (a.add 3) (.int .i64 1) w fun (w : World) =>
 St (a.add 4) (.int .i64 0) w fun (w : World) =>
 Ld .s w a fun (r_word6 : ByteArray) => Ld .b w (a.add 1) fun (r_number6 : Bool) => Ld (.i .i64) w (a.add 2) fun (r_takes6 : Int) => Ld (.i .i64) w (a.add 3) fun (r_puts6 : Int) => Ld (.i .i64) w (a.add 4) fun (r_by6 : Int) =>
 R r_word6 r_number6 r_takes6 r_puts6 r_by6 w) else (if (op == 7) = true then (St a (.string (⟨#[115, 117, 98]⟩ : ByteArray)) w fun (w : World) =>
 St (a.add 1) (.bool false) w fun (w : World) =>
 St (a.add 2) (.int .i64 2) w fun (w : World) =>
 St (a.add 3) (.int .i64 1) w fun (w : World) =>
 St (a.add 4) (.int .i64 0) w fun (w : World) =>
 Ld .s w a fun (r_word7 : ByteArray) => Ld .b w (a.add 1) fun (r_number7 : Bool) => Ld (.i .i64) w (a.add 2) fun (r_takes7 : Int) => Ld (.i .i64) w (a.add 3) fun (r_puts7 : Int) => Ld (.i .i64) w (a.add 4) fun (r_by7 : Int) =>
 R r_word7 r_number7 r_takes7 r_puts7 r_by7 w) else (if (op == 8) = true then (St a (.string (⟨#[109, 117, 108]⟩ : ByteArray)) w fun (w : World) =>
 St (a.add 1) (.bool false) w fun (w : World) =>
 St (a.add 2) (.int .i64 2) w fun (w : World) =>
 St (a.add 3) (.int .i64 1) w fun (w : World) =>
 St (a.add 4) (.int .i64 0) w fun (w : World) =>
 Ld .s w a fun (r_word8 : ByteArray) => Ld .b w (a.add 1) fun (r_number8 : Bool) => Ld (.i .i64) w (a.add 2) fun (r_takes8 : Int) => Ld (.i .i64) w (a.add 3) fun (r_puts8 : Int) => Ld (.i .i64) w (a.add 4) fun (r_by8 : Int) =>
 R r_word8 r_number8 r_takes8 r_puts8 r_by8 w) else (if (op == 9) = true then (St a (.string (⟨#[100, 105, 118]⟩ : ByteArray)) w fun (w : World) =>
 St (a.add 1) (.bool false) w fun (w : World) =>
 St (a.add 2) (.int .i64 2) w fun (w : World) =>
 St (a.add 3) (.int .i64 1) w fun (w : World) =>
 St (a.add 4) (.int .i64 0) w fun (w : World) =>
 Ld .s w a fun (r_word9 : ByteArray) => Ld .b w (a.add 1) fun (r_number9 : Bool) => Ld (.i .i64) w (a.add 2) fun (r_takes9 : Int) => Ld (.i .i64) w (a.add 3) fun (r_puts9 : Int) => Ld (.i .i64) w (a.add 4) fun (r_by9 : Int) =>
 R r_word9 r_number9 r_takes9 r_puts9 r_by9 w) else (if (op == 10) = true then (St a (.string (⟨#[114, 101, 109]⟩ : ByteArray)) w fun (w : World) =>
 St (a.add 1) (.bool false) w fun (w : World) =>
 St (a.add 2) (.int .i64 2) w fun (w : World) =>
 St (a.add 3) (.int .i64 1) w fun (w : World) =>
 St (a.add 4) (.int .i64 0) w fun (w : World) =>
 Ld .s w a fun (r_word10 : ByteArray) => Ld .b w (a.add 1) fun (r_number10 : Bool) => Ld (.i .i64) w (a.add 2) fun (r_takes10 : Int) => Ld (.i .i64) w (a.add 3) fun (r_puts10 : Int) => Ld (.i .i64) w (a.add 4) fun (r_by10 : Int) =>
 R r_word10 r_number10 r_takes10 r_puts10 r_by10 w) else (if (op == 11) = true then (St a (.string (⟨#[110, 101, 103]⟩ : ByteArray)) w fun (w : World) =>
 St (a.add 1) (.bool false) w fun (w : World) =>
 St (a.add 2) (.int .i64 1) w fun (w : World) =>
 St (a.add 3) (.int .i64 1) w fun (w : World) =>
 St (a.add 4) (.int .i64 0) w fun (w : World) =>
 Ld .s w a fun (r_word11 : ByteArray) => Ld .b w (a.add 1) fun (r_number11 : Bool) => Ld (.i .i64) w (a.add 2) fun (r_takes11 : Int) => Ld (.i .i64) w (a.add 3) fun (r_puts11 : Int) => Ld (.i .i64) w (a.add 4) fun (r_by11 : Int) =>
 R r_word11 r_number11 r_takes11 r_puts11 r_by11 w) else (if (op == 12) = true then (St a (.string (⟨#[101, 113]⟩ : ByteArray)) w fun (w : World) =>
 St (a.add 1) (.bool false) w fun (w : World) =>
 St (a.add 2) (.int .i64 2) w fun (w : World) =>
 St (a.add 3) (.int .i64 1) w fun (w : World) =>
 St (a.add 4) (.int .i64 0) w fun (w : World) =>
 Ld .s w a fun (r_word12 : ByteArray) => Ld .b w (a.add 1) fun (r_number12 : Bool) => Ld (.i .i64) w (a.add 2) fun (r_takes12 : Int) => Ld (.i .i64) w (a.add 3) fun (r_puts12 : Int) => Ld (.i .i64) w (a.add 4) fun (r_by12 : Int) =>
 R r_word12 r_number12 r_takes12 r_puts12 r_by12 w) else (if (op == 13) = true then (St a (.string (⟨#[110, 101]⟩ : ByteArray)) w fun (w : World) =>
 St (a.add 1) (.bool false) w fun (w : World) =>
 St (a.add 2) (.int .i64 2) w fun (w : World) =>
 St (a.add 3) (.int .i64 1) w fun (w : World) =>
 St (a.add 4) (.int .i64 0) w fun (w : World) =>
 Ld .s w a fun (r_word13 : ByteArray) => Ld .b w (a.add 1) fun (r_number13 : Bool) => Ld (.i .i64) w (a.add 2) fun (r_takes13 : Int) => Ld (.i .i64) w (a.add 3) fun (r_puts13 : Int) => Ld (.i .i64) w (a.add 4) fun (r_by13 : Int) =>
 R r_word13 r_number13 r_takes13 r_puts13 r_by13 w) else (if (op == 14) = true then (St a (.string (⟨#[108, 116]⟩ : ByteArray)) w fun (w : World) =>
 St (a.add 1) (.bool false) w fun (w : World) =>
 St (a.add 2) (.int .i64 2) w fun (w : World) =>
 St (a.add 3) (.int .i64 1) w fun (w : World) =>
 St (a.add 4) (.int .i64 0) w fun (w : World) =>
 Ld .s w a fun (r_word14 : ByteArray) => Ld .b w (a.add 1) fun (r_number14 : Bool) => Ld (.i .i64) w (a.add 2) fun (r_takes14 : Int) => Ld (.i .i64) w (a.add 3) fun (r_puts14 : Int) => Ld (.i .i64) w (a.add 4) fun (r_by14 : Int) =>
 R r_word14 r_number14 r_takes14 r_puts14 r_by14 w) else (if (op == 15) = true then (St a (.string (⟨#[108, 101]⟩ : ByteArray)) w fun (w : World) =>
 St (a.add 1) (.bool false) w fun (w : World) =>
 St (a.add 2) (.int .i64 2) w fun (w : World) =>
 St (a.add 3) (.int .i64 1) w fun (w : World) =>
 St (a.add 4) (.int .i64 0) w fun (w : World) =>
 Ld .s w a fun (r_word15 : ByteArray) => Ld .b w (a.add 1) fun (r_number15 : Bool) => Ld (.i .i64) w (a.add 2) fun (r_takes15 : Int) => Ld (.i .i64) w (a.add 3) fun (r_puts15 : Int) => Ld (.i .i64) w (a.add 4) fun (r_by15 : Int) =>
 R r_word15 r_number15 r_takes15 r_puts15 r_by15 w) else (if (op == 16) = true then (St a (.string (⟨#[103, 116]⟩ : ByteArray)) w fun (w : World) =>
 St (a.add 1) (.bool false) w fun (w : World) =>
 St (a.add 2) (.int .i64 2) w fun (w : World) =>
 St (a.add 3) (.int .i64 1) w fun (w : World) =>
 St (a.add 4) (.int .i64 0) w fun (w : World) =>
 Ld .s w a fun (r_word16 : ByteArray) => Ld .b w (a.add 1) fun (r_number16 : Bool) => Ld (.i .i64) w (a.add 2) fun (r_takes16 : Int) => Ld (.i .i64) w (a.add 3) fun (r_puts16 : Int) => Ld (.i .i64) w (a.add 4) fun (r_by16 : Int) =>
 R r_word16 r_number16 r_takes16 r_puts16 r_by16 w) else (if (op == 17) = true then (St a (.string (⟨#[103, 101]⟩ : ByteArray)) w fun (w : World) =>
 St (a.add 1) (.bool false) w fun (w : World) =>
 St (a.add 2) (.int .i64 2) w fun (w : World) =>
 St (a.add 3) (.int .i64 1) w fun (w : World) =>
 St (a.add 4) (.int .i64 0) w fun (w : World) =>
 Ld .s w a fun (r_word17 : ByteArray) => Ld .b w (a.add 1) fun (r_number17 : Bool) => Ld (.i .i64) w (a.add 2) fun (r_takes17 : Int) => Ld (.i .i64) w (a.add 3) fun (r_puts17 : Int) => Ld (.i .i64) w (a.add 4) fun (r_by17 : Int) =>
 R r_word17 r_number17 r_takes17 r_puts17 r_by17 w) else (if (op == 18) = true then (St a (.string (⟨#[110, 111, 116]⟩ : ByteArray)) w fun (w : World) =>
 St (a.add 1) (.bool false) w fun (w : World) =>
 St (a.add 2) (.int .i64 1) w fun (w : World) =>
 St (a.add 3) (.int .i64 1) w fun (w : World) =>
 St (a.add 4) (.int .i64 0) w fun (w : World) =>
 Ld .s w a fun (r_word18 : ByteArray) => Ld .b w (a.add 1) fun (r_number18 : Bool) => Ld (.i .i64) w (a.add 2) fun (r_takes18 : Int) => Ld (.i .i64) w (a.add 3) fun (r_puts18 : Int) => Ld (.i .i64) w (a.add 4) fun (r_by18 : Int) =>
 R r_word18 r_number18 r_takes18 r_puts18 r_by18 w) else (St a (.string (⟨#[]⟩ : ByteArray)) w fun (w : World) =>
 St (a.add 1) (.bool false) w fun (w : World) =>
 St (a.add 2) (.int .i64 0) w fun (w : World) =>
 St (a.add 3) (.int .i64 0) w fun (w : World) =>
 St (a.add 4) (.int .i64 0) w fun (w : World) =>
 Ld .s w a fun (r_word19 : ByteArray) => Ld .b w (a.add 1) fun (r_number19 : Bool) => Ld (.i .i64) w (a.add 2) fun (r_takes19 : Int) => Ld (.i .i64) w (a.add 3) fun (r_puts19 : Int) => Ld (.i .i64) w (a.add 4) fun (r_by19 : Int) =>
 R r_word19 r_number19 r_takes19 r_puts19 r_by19 w))))))))))))))))))
theorem c66_of {op w R} (h : f66 op w R) : c66 op w R :=
  callK_of (H := ⟨[], []⟩) okP Tryz.func66 (cast (by kernel_rfl) h)
def f67 (op : Int) (w : World) (R : ByteArray → Bool → Int → Int → Int → World → Prop) : Prop :=
 Nw (.cells #[.string (⟨#[]⟩ : ByteArray), .bool false, .int .i64 0, .int .i64 0, .int .i64 0] 74) w fun (a : Addr) (w : World) =>
 if (op == 19) = true then (St a (.string (⟨#[106, 117, 109, 112]⟩ : ByteArray)) w fun (w : World) =>
 St (a.add 1) (.bool true) w fun (w : World) =>
 St (a.add 2) (.int .i64 0) w fun (w : World) =>
 St (a.add 3) (.int .i64 0) w fun (w : World) =>
 St (a.add 4) (.int .i64 0) w fun (w : World) =>
 Ld .s w a fun (r_word : ByteArray) => Ld .b w (a.add 1) fun (r_number : Bool) => Ld (.i .i64) w (a.add 2) fun (r_takes : Int) => Ld (.i .i64) w (a.add 3) fun (r_puts : Int) => Ld (.i .i64) w (a.add 4) fun (r_by : Int) =>
 R r_word r_number r_takes r_puts r_by w) else (if (op == 20) = true then (St a (.string (⟨#[122, 101, 114, 111]⟩ : ByteArray)) w fun (w : World) =>
 St (a.add 1) (.bool true) w fun (w : World) =>
 St (a.add 2) (.int .i64 1) w fun (w : World) =>
 St (a.add 3) (.int .i64 0) w fun (w : World) =>
 St (a.add 4) (.int .i64 0) w fun (w : World) =>
 Ld .s w a fun (r_word2 : ByteArray) => Ld .b w (a.add 1) fun (r_number2 : Bool) => Ld (.i .i64) w (a.add 2) fun (r_takes2 : Int) => Ld (.i .i64) w (a.add 3) fun (r_puts2 : Int) => Ld (.i .i64) w (a.add 4) fun (r_by2 : Int) =>
 R r_word2 r_number2 r_takes2 r_puts2 r_by2 w) else (if (op == 21) = true then (St a (.string (⟨#[99, 97, 108, 108]⟩ : ByteArray)) w fun (w : World) =>
 St (a.add 1) (.bool true) w fun (w : World) =>
 St (a.add 2) (.int .i64 0) w fun (w : World) =>
 St (a.add 3) (.int .i64 1) w fun (w : World) =>
 St (a.add 4) (.int .i64 1) w fun (w : World) =>
 Ld .s w a fun (r_word3 : ByteArray) => Ld .b w (a.add 1) fun (r_number3 : Bool) => Ld (.i .i64) w (a.add 2) fun (r_takes3 : Int) => Ld (.i .i64) w (a.add 3) fun (r_puts3 : Int) => Ld (.i .i64) w (a.add 4) fun (r_by3 : Int) =>
 R r_word3 r_number3 r_takes3 r_puts3 r_by3 w) else (if (op == 22) = true then (St a (.string (⟨#[114, 101, 116]⟩ : ByteArray)) w fun (w : World) =>
 St (a.add 1) (.bool false) w fun (w : World) =>
 St (a.add 2) (.int .i64 1) w fun (w : World) =>
 St (a.add 3) (.int .i64 0) w fun (w : World) =>
 St (a.add 4) (.int .i64 0) w fun (w : World) =>
 Ld .s w a fun (r_word4 : ByteArray) => Ld .b w (a.add 1) fun (r_number4 : Bool) => Ld (.i .i64) w (a.add 2) fun (r_takes4 : Int) => Ld (.i .i64) w (a.add 3) fun (r_puts4 : Int) => Ld (.i .i64) w (a.add 4) fun (r_by4 : Int) =>
 R r_word4 r_number4 r_takes4 r_puts4 r_by4 w) else (if (op == 23) = true then (St a (.string (⟨#[115, 116, 111, 112]⟩ : ByteArray)) w fun (w : World) =>
 St (a.add 1) (.bool false) w fun (w : World) =>
 St (a.add 2) (.int .i64 0) w fun (w : World) =>
 St (a.add 3) (.int .i64 0) w fun (w : World) =>
 St (a.add 4) (.int .i64 0) w fun (w : World) =>
 Ld .s w a fun (r_word5 : ByteArray) => Ld .b w (a.add 1) fun (r_number5 : Bool) => Ld (.i .i64) w (a.add 2) fun (r_takes5 : Int) => Ld (.i .i64) w (a.add 3) fun (r_puts5 : Int) => Ld (.i .i64) w (a.add 4) fun (r_by5 : Int) =>
 R r_word5 r_number5 r_takes5 r_puts5 r_by5 w) else (if (op == 24) = true then (St a (.string (⟨#[115, 116, 101, 112]⟩ : ByteArray)) w fun (w : World) =>
 St (a.add 1) (.bool false) w fun (w : World) =>
 St (a.add 2) (.int .i64 0) w fun (w : World) =>
 St (a.add 3) (.int .i64 0) w fun (w : World) =>
 St (a.add 4) (.int .i64 0) w fun (w : World) =>
 Ld .s w a fun (r_word6 : ByteArray) => Ld .b w (a.add 1) fun (r_number6 : Bool) => Ld (.i .i64) w (a.add 2) fun (r_takes6 : Int) => Ld (.i .i64) w (a.add 3) fun (r_puts6 : Int) => Ld (.i .i64) w (a.add 4) fun (r_by6 : Int) =>
 R r_word6 r_number6 r_takes6 r_puts6 r_by6 w) else (if (op == 25) = true then (St a (.string (⟨#[101, 109, 105, 116]⟩ : ByteArray)) w fun (w : World) =>
 St (a.add 1) (.bool false) w fun (w : World) =>
 St (a.add 2) (.int .i64 2) w fun (w : World) =>
 St (a.add 3) (.int .i64 0) w fun (w : World) =>
 St (a.add 4) (.int .i64 0) w fun (w : World) =>
 Ld .s w a fun (r_word7 : ByteArray) => Ld .b w (a.add 1) fun (r_number7 : Bool) => Ld (.i .i64) w (a.add 2) fun (r_takes7 : Int) => Ld (.i .i64) w (a.add 3) fun (r_puts7 : Int) => Ld (.i .i64) w (a.add 4) fun (r_by7 : Int) =>
 R r_word7 r_number7 r_takes7 r_puts7 r_by7 w) else (if (op == 26) = true then (St a (.string (⟨#[112, 97, 114, 116]⟩ : ByteArray)) w fun (w : World) =>
 St (a.add 1) (.bool true) w fun (w : World) =>
 St (a.add 2) (.int .i64 0) w fun (w : World) =>
 St (a.add 3) (.int .i64 0) w fun (w : World) =>
 St (a.add 4) (.int .i64 2) w fun (w : World) =>
 Ld .s w a fun (r_word8 : ByteArray) => Ld .b w (a.add 1) fun (r_number8 : Bool) => Ld (.i .i64) w (a.add 2) fun (r_takes8 : Int) => Ld (.i .i64) w (a.add 3) fun (r_puts8 : Int) => Ld (.i .i64) w (a.add 4) fun (r_by8 : Int) =>
 R r_word8 r_number8 r_takes8 r_puts8 r_by8 w) else (if (op == 27) = true then (St a (.string (⟨#[115, 112, 97, 119, 110]⟩ : ByteArray)) w fun (w : World) =>
 St (a.add 1) (.bool false) w fun (w : World) =>
 St (a.add 2) (.int .i64 0) w fun (w : World) =>
 St (a.add 3) (.int .i64 0) w fun (w : World) =>
 St (a.add 4) (.int .i64 0) w fun (w : World) =>
 Ld .s w a fun (r_word9 : ByteArray) => Ld .b w (a.add 1) fun (r_number9 : Bool) => Ld (.i .i64) w (a.add 2) fun (r_takes9 : Int) => Ld (.i .i64) w (a.add 3) fun (r_puts9 : Int) => Ld (.i .i64) w (a.add 4) fun (r_by9 : Int) =>
 R r_word9 r_number9 r_takes9 r_puts9 r_by9 w) else (if (op == 28) = true then (St a (.string (⟨#[103, 105, 118, 101]⟩ : ByteArray)) w fun (w : World) =>
 St (a.add 1) (.bool true) w fun (w : World) =>
 St (a.add 2) (.int .i64 0) w fun (w : World) =>
 St (a.add 3) (.int .i64 0) w fun (w : World) =>
 St (a.add 4) (.int .i64 2) w fun (w : World) =>
 Ld .s w a fun (r_word10 : ByteArray) => Ld .b w (a.add 1) fun (r_number10 : Bool) => Ld (.i .i64) w (a.add 2) fun (r_takes10 : Int) => Ld (.i .i64) w (a.add 3) fun (r_puts10 : Int) => Ld (.i .i64) w (a.add 4) fun (r_by10 : Int) =>
 R r_word10 r_number10 r_takes10 r_puts10 r_by10 w) else (if (op == 29) = true then (St a (.string (⟨#[116, 97, 107, 101]⟩ : ByteArray)) w fun (w : World) =>
 St (a.add 1) (.bool true) w fun (w : World) =>
 St (a.add 2) (.int .i64 0) w fun (w : World) =>
 St (a.add 3) (.int .i64 0) w fun (w : World) =>
 St (a.add 4) (.int .i64 0) w fun (w : World) =>
 Ld .s w a fun (r_word11 : ByteArray) => Ld .b w (a.add 1) fun (r_number11 : Bool) => Ld (.i .i64) w (a.add 2) fun (r_takes11 : Int) => Ld (.i .i64) w (a.add 3) fun (r_puts11 : Int) => Ld (.i .i64) w (a.add 4) fun (r_by11 : Int) =>
 R r_word11 r_number11 r_takes11 r_puts11 r_by11 w) else (if (op == 30) = true then (St a (.string (⟨#[100, 105, 101]⟩ : ByteArray)) w fun (w : World) =>
 St (a.add 1) (.bool false) w fun (w : World) =>
 St (a.add 2) (.int .i64 0) w fun (w : World) =>
 St (a.add 3) (.int .i64 0) w fun (w : World) =>
 St (a.add 4) (.int .i64 0) w fun (w : World) =>
 Ld .s w a fun (r_word12 : ByteArray) => Ld .b w (a.add 1) fun (r_number12 : Bool) => Ld (.i .i64) w (a.add 2) fun (r_takes12 : Int) => Ld (.i .i64) w (a.add 3) fun (r_puts12 : Int) => Ld (.i .i64) w (a.add 4) fun (r_by12 : Int) =>
 R r_word12 r_number12 r_takes12 r_puts12 r_by12 w) else (if (op == 31) = true then (St a (.string (⟨#[114, 97, 110, 100]⟩ : ByteArray)) w fun (w : World) =>
 St (a.add 1) (.bool false) w fun (w : World) =>
 St (a.add 2) (.int .i64 1) w fun (w : World) =>
 St (a.add 3) (.int .i64 1) w fun (w : World) =>
 St (a.add 4) (.int .i64 0) w fun (w : World) =>
 Ld .s w a fun (r_word13 : ByteArray) => Ld .b w (a.add 1) fun (r_number13 : Bool) => Ld (.i .i64) w (a.add 2) fun (r_takes13 : Int) => Ld (.i .i64) w (a.add 3) fun (r_puts13 : Int) => Ld (.i .i64) w (a.add 4) fun (r_by13 : Int) =>
 R r_word13 r_number13 r_takes13 r_puts13 r_by13 w) else (if (op == 32) = true then (St a (.string (⟨#[116, 105, 99, 107]⟩ : ByteArray)) w fun (w : World) =>
 St (a.add 1) (.bool false) w fun (w : World) =>
 St (a.add 2) (.int .i64 0) w fun (w : World) =>
 St (a.add 3) (.int .i64 1) w fun (w : World) =>
 St (a.add 4) (.int .i64 0) w fun (w : World) =>
 Ld .s w a fun (r_word14 : ByteArray) => Ld .b w (a.add 1) fun (r_number14 : Bool) => Ld (.i .i64) w (a.add 2) fun (r_takes14 : Int) => Ld (.i .i64) w (a.add 3) fun (r_puts14 : Int) => Ld (.i .i64) w (a.add 4) fun (r_by14 : Int) =>
 R r_word14 r_number14 r_takes14 r_puts14 r_by14 w) else (if (op == 33) = true then (St a (.string (⟨#[109, 101]⟩ : ByteArray)) w fun (w : World) =>
 St (a.add 1) (.bool false) w fun (w : World) =>
 St (a.add 2) (.int .i64 0) w fun (w : World) =>
 St (a.add 3) (.int .i64 1) w fun (w : World) =>
 St (a.add 4) (.int .i64 0) w fun (w : World) =>
 Ld .s w a fun (r_word15 : ByteArray) => Ld .b w (a.add 1) fun (r_number15 : Bool) => Ld (.i .i64) w (a.add 2) fun (r_takes15 : Int) => Ld (.i .i64) w (a.add 3) fun (r_puts15 : Int) => Ld (.i .i64) w (a.add 4) fun (r_by15 : Int) =>
 R r_word15 r_number15 r_takes15 r_puts15 r_by15 w) else (if (op == 34) = true then (St a (.string (⟨#[105, 110, 112, 117, 116]⟩ : ByteArray)) w fun (w : World) =>
 St (a.add 1) (.bool false) w fun (w : World) =>
 St (a.add 2) (.int .i64 2) w fun (w : World) =>
 St (a.add 3) (.int .i64 1) w fun (w : World) =>
 St (a.add 4) (.int .i64 0) w fun (w : World) =>
 Ld .s w a fun (r_word16 : ByteArray) => Ld .b w (a.add 1) fun (r_number16 : Bool) => Ld (.i .i64) w (a.add 2) fun (r_takes16 : Int) => Ld (.i .i64) w (a.add 3) fun (r_puts16 : Int) => Ld (.i .i64) w (a.add 4) fun (r_by16 : Int) =>
 R r_word16 r_number16 r_takes16 r_puts16 r_by16 w) else (if (op == 35) = true then (St a (.string (⟨#[104, 97, 115]⟩ : ByteArray)) w fun (w : World) =>
 St (a.add 1) (.bool true) w fun (w : World) =>
 St (a.add 2) (.int .i64 0) w fun (w : World) =>
 St (a.add 3) (.int .i64 1) w fun (w : World) =>
 St (a.add 4) (.int .i64 0) w fun (w : World) =>
 Ld .s w a fun (r_word17 : ByteArray) => Ld .b w (a.add 1) fun (r_number17 : Bool) => Ld (.i .i64) w (a.add 2) fun (r_takes17 : Int) => Ld (.i .i64) w (a.add 3) fun (r_puts17 : Int) => Ld (.i .i64) w (a.add 4) fun (r_by17 : Int) =>
 R r_word17 r_number17 r_takes17 r_puts17 r_by17 w) else (if (op == 36) = true then (St a (.string (⟨#[109, 105, 110]⟩ : ByteArray)) w fun (w : World) =>
 St (a.add 1) (.bool false) w fun (w : World) =>
 St (a.add 2) (.int .i64 2) w fun (w : World) =>
 St (a.add 3) (.int .i64 1) w fun (w : World) =>
 St (a.add 4) (.int .i64 0) w fun (w : World) =>
 Ld .s w a fun (r_word18 : ByteArray) => Ld .b w (a.add 1) fun (r_number18 : Bool) => Ld (.i .i64) w (a.add 2) fun (r_takes18 : Int) => Ld (.i .i64) w (a.add 3) fun (r_puts18 : Int) => Ld (.i .i64) w (a.add 4) fun (r_by18 : Int) =>
 R r_word18 r_number18 r_takes18 r_puts18 r_by18 w) else (if (op == 37) = true then (St a (.string (⟨#[109, 97, 120]⟩ : ByteArray)) w fun (w : World) =>
 St (a.add 1) (.bool false) w fun (w : World) =>
 St (a.add 2) (.int .i64 2) w fun (w : World) =>
 St (a.add 3) (.int .i64 1) w fun (w : World) =>
 St (a.add 4) (.int .i64 0) w fun (w : World) =>
 Ld .s w a fun (r_word19 : ByteArray) => Ld .b w (a.add 1) fun (r_number19 : Bool) => Ld (.i .i64) w (a.add 2) fun (r_takes19 : Int) => Ld (.i .i64) w (a.add 3) fun (r_puts19 : Int) => Ld (.i .i64) w (a.add 4) fun (r_by19 : Int) =>
 R r_word19 r_number19 r_takes19 r_puts19 r_by19 w) else (if (op == 38) = true then (St a (.string (⟨#[97, 98, 115]⟩ : ByteArray)) w fun (w : World) =>
 St (a.add 1) (.bool false) w fun (w : World) =>
 St (a.add 2) (.int .i64 1) w fun (w : World) =>
 St (a.add 3) (.int .i64 1) w fun (w : World) =>
 St (a.add 4) (.int .i64 0) w fun (w : World) =>
 Ld .s w a fun (r_word20 : ByteArray) => Ld .b w (a.add 1) fun (r_number20 : Bool) => Ld (.i .i64) w (a.add 2) fun (r_takes20 : Int) => Ld (.i .i64) w (a.add 3) fun (r_puts20 : Int) => Ld (.i .i64) w (a.add 4) fun (r_by20 : Int) =>
 R r_word20 r_number20 r_takes20 r_puts20 r_by20 w) else (if (op == 39) = true then (St a (.string (⟨#[100, 114, 111, 112]⟩ : ByteArray)) w fun (w : World) =>
 St (a.add 1) (.bool false) w fun (w : World) =>
 St (a.add 2) (.int .i64 1) w fun (w : World) =>
 St (a.add 3) (.int .i64 0) w fun (w : World) =>
 St (a.add 4) (.int .i64 0) w fun (w : World) =>
 Ld .s w a fun (r_word21 : ByteArray) => Ld .b w (a.add 1) fun (r_number21 : Bool) => Ld (.i .i64) w (a.add 2) fun (r_takes21 : Int) => Ld (.i .i64) w (a.add 3) fun (r_puts21 : Int) => Ld (.i .i64) w (a.add 4) fun (r_by21 : Int) =>
 R r_word21 r_number21 r_takes21 r_puts21 r_by21 w) else (St a (.string (⟨#[]⟩ : ByteArray)) w fun (w : World) =>
 St (a.add 1) (.bool false) w fun (w : World) =>
 St (a.add 2) (.int .i64 0) w fun (w : World) =>
 St (a.add 3) (.int .i64 0) w fun (w : World) =>
 St (a.add 4) (.int .i64 0) w fun (w : World) =>
 Ld .s w a fun (r_word22 : ByteArray) => Ld .b w (a.add 1) fun (r_number22 : Bool) => Ld (.i .i64) w (a.add 2) fun (r_takes22 : Int) => Ld (.i .i64) w (a.add 3) fun (r_puts22 : Int) => Ld (.i .i64) w (a.add 4) fun (r_by22 : Int) =>
 R r_word22 r_number22 r_takes22 r_puts22 r_by22 w)))))))))))))))))))))
theorem c67_of {op w R} (h : f67 op w R) : c67 op w R :=
  callK_of (H := ⟨[], []⟩) okP Tryz.func67 (cast (by kernel_rfl) h)
def f68 (r : Option Addr) (least most : Int) (w : World) (R : Int → World → Prop) (E : List PanicEntry → World → Prop) : Prop :=
 Dr w fun (w : World) =>
 NN r fun (r_ : Addr) =>
 Ld .sl w r_ fun (b : Sl) =>
 NN r fun (r_2 : Addr) =>
 Ld (.i .i64) w (r_2.add 1) fun (at_ : Int) =>
 Cut ⟨b.a, b.len, b.cap⟩ at_ (b.len : Int) (b.cap : Int) 1 fun (s : Sl) =>
 c93 s w fun (n_ size : Int) (w : World) =>
 ∃ J_ : World → Prop, (if (cond (cond (size == 0) true (decide (n_ < (IntKind.u64.wrap least)))) true (decide (n_ > (IntKind.u64.wrap most)))) = true then (NN r fun (r_3 : Addr) =>
 Ld (.i .i64) w (r_3.add 1) fun (at_2 : Int) =>
 c71 at_2 w (fun  (w : World) =>
 J_  w) E) else (J_  w)) ∧ ∀ w : World, J_  w → (NN r fun (r_4 : Addr) =>
 Ld (.i .i64) w (r_4.add 1) fun (at_3 : Int) =>
 NN r fun (r_5 : Addr) =>
 St (r_5.add 1) (.int .i64 (IntKind.i64.wrap (at_3 + size))) w fun (w : World) =>
 R (IntKind.i64.wrap n_) w)
theorem f68_eq (r : Option Addr) (least most : Int) (w : World) (R : Int → World → Prop) (E : List PanicEntry → World → Prop) :
  f68 r least most w R E = dFuncE Tryz.prog ⟨[], [(4, ⟨[], [0, 7, 8]⟩)]⟩ [37, 68, 69, 70, 71] Tryz.f68 [.pointer r, .int .i64 least, .int .i64 most] (fun v w' => viewRet [.one (.i .i64)] v R w') E w := by kernel_rfl
theorem c68_of {r : Option Addr} {least : Int} {most : Int} {w : World} {R : Int → World → Prop} {E : List PanicEntry → World → Prop} (h : f68 r least most w R E) : c68 r least most w R E :=
 callP_of okP (pan := [37, 68, 69, 70, 71]) Tryz.func68 (by rw [← f68_eq]; exact h)
def f69 (r : Option Addr) (w : World) (R : Sl → World → Prop) (E : List PanicEntry → World → Prop) : Prop :=
 c68 r 0 12 w (fun (n_ : Int) (w : World) =>
 ∃ Inv_ : Sl → Int → Int → Nat → World → Prop, (∃ n : Nat, Inv_ ⟨none, 0, 0⟩ 0 n_ n w) ∧ ∀ out : Sl, ∀ last : Int, ∀ n_2 : Int, ∀ m : Nat, ∀ w : World, Inv_ out last n_2 m w → (if (decide (n_2 > 0)) = true then (c68 r (IntKind.i64.wrap (last + 1)) 12 w (fun (last2 : Int) (w : World) =>
 Nw (.cells #[.int .i64 last2] 3) w fun (b : Addr) (w : World) =>
 Run .sl Tryz.prog (Builtin.append_ #[52, 52] 52 #[.slice out.a out.len out.cap, .slice (some b) 1 1]) w fun (out2 : Sl) (w : World) =>
 ∃ m2 : Nat, m2 < m ∧ Inv_ out2 last2 (IntKind.i64.wrap (n_2 - 1)) m2 w) E) else (R out w))) E
theorem f69_eq (r : Option Addr) (w : World) (R : Sl → World → Prop) (E : List PanicEntry → World → Prop) :
  f69 r w R E = dFuncE Tryz.prog ⟨[(4, ⟨[(3, .sl), (4, .i .i64), (5, .i .i64)], [0]⟩)], []⟩ [37, 68, 69, 70, 71] Tryz.f69 [.pointer r] (fun v w' => viewRet [.one .sl] v R w') E w := by kernel_rfl
theorem c69_of {r : Option Addr} {w : World} {R : Sl → World → Prop} {E : List PanicEntry → World → Prop} (h : f69 r w R E) : c69 r w R E :=
 callP_of okP (pan := [37, 68, 69, 70, 71]) Tryz.func69 (by rw [← f69_eq]; exact h)
def f70 (r : Option Addr) (w : World) (R : ByteArray → Int → Int → Sl → World → Prop) (E : List PanicEntry → World → Prop) : Prop :=
 Nw (.cells #[.string (⟨#[]⟩ : ByteArray), .int .i64 0, .int .i64 0, .slice none 0 0] 30) w fun (a : Addr) (w : World) =>
 Dr w fun (w : World) =>
 NN r fun (r_ : Addr) =>
 Ld .sl w r_ fun (b : Sl) =>
 NN r fun (r_2 : Addr) =>
 Ld (.i .i64) w (r_2.add 1) fun (at_ : Int) =>
 Cut ⟨b.a, b.len, b.cap⟩ at_ (b.len : Int) (b.cap : Int) 1 fun (s : Sl) =>
 c94 s w fun (name : ByteArray) (size : Int) (w : World) =>
 ∃ J_ : World → Prop, (if (cond (cond (size == 0) true (decide ((name.size : Int) < 1))) true (decide ((name.size : Int) > 16))) = true then (NN r fun (r_3 : Addr) =>
 Ld (.i .i64) w (r_3.add 1) fun (at_2 : Int) =>
 c71 at_2 w (fun  (w : World) =>
 J_  w) E) else (J_  w)) ∧ ∀ w : World, J_  w → (NN r fun (r_4 : Addr) =>
 Ld (.i .i64) w (r_4.add 1) fun (at_3 : Int) =>
 NN r fun (r_5 : Addr) =>
 St (r_5.add 1) (.int .i64 (IntKind.i64.wrap (at_3 + size))) w fun (w : World) =>
 c68 r 0 4 w (fun (r2 : Int) (w : World) =>
 Nw (.cells #[.string (⟨#[]⟩ : ByteArray), .int .i64 0, .int .i64 0, .slice none 0 0] 30) w fun (out : Addr) (w : World) =>
 St out (.string name) w fun (w : World) =>
 St (out.add 1) (.int .i64 r2) w fun (w : World) =>
 St (out.add 2) (.int .i64 0) w fun (w : World) =>
 St (out.add 3) (.slice none 0 0) w fun (w : World) =>
 Ld (.i .i64) w (out.add 1) fun (Params : Int) =>
 c68 r Params 32 w (fun (r3 : Int) (w : World) =>
 St (out.add 2) (.int .i64 r3) w fun (w : World) =>
 NN r fun (r_6 : Addr) =>
 Ld (.i .i64) w (r_6.add 2) fun (left : Int) =>
 c68 r 0 left w (fun (n_ : Int) (w : World) =>
 NN r fun (r_7 : Addr) =>
 Ld (.i .i64) w (r_7.add 2) fun (left2 : Int) =>
 NN r fun (r_8 : Addr) =>
 St (r_8.add 2) (.int .i64 (IntKind.i64.wrap (left2 - n_))) w fun (w : World) =>
 ∃ Inv_ : Int → Nat → World → Prop, (∃ n : Nat, Inv_ 0 n w) ∧ ∀ t72 : Int, ∀ m : Nat, ∀ w : World, Inv_ t72 m w → (if (decide (t72 < n_)) = true then (c68 r 1 39 w (fun (r4 : Int) (w : World) =>
 Nw (.cells #[.int .i64 0, .int .i64 0] 23) w fun (i : Addr) (w : World) =>
 St i (.int .i64 r4) w fun (w : World) =>
 St (i.add 1) (.int .i64 0) w fun (w : World) =>
 ∃ J_2 : World → Prop, (Ld (.i .i64) w i fun (Op : Int) =>
 c32 Op w fun (r_word : ByteArray) (r_number : Bool) (r_takes r_puts r_by : Int) (w : World) =>
 if r_number = true then (Dr w fun (w : World) =>
 NN r fun (r_9 : Addr) =>
 Ld .sl w r_9 fun (b2 : Sl) =>
 NN r fun (r_10 : Addr) =>
 Ld (.i .i64) w (r_10.add 1) fun (at_4 : Int) =>
 Cut ⟨b2.a, b2.len, b2.cap⟩ at_4 (b2.len : Int) (b2.cap : Int) 1 fun (s2 : Sl) =>
 c95 s2 w fun (a2 size2 : Int) (w : World) =>
 ∃ J_3 : World → Prop, (if (size2 == 0) = true then (NN r fun (r_11 : Addr) =>
 Ld (.i .i64) w (r_11.add 1) fun (at_5 : Int) =>
 c71 at_5 w (fun  (w : World) =>
 J_3  w) E) else (J_3  w)) ∧ ∀ w : World, J_3  w → (St (i.add 1) (.int .i64 a2) w fun (w : World) =>
 NN r fun (r_12 : Addr) =>
 Ld (.i .i64) w (r_12.add 1) fun (at_6 : Int) =>
 NN r fun (r_13 : Addr) =>
 St (r_13.add 1) (.int .i64 (IntKind.i64.wrap (at_6 + size2))) w fun (w : World) =>
 J_2  w)) else (J_2  w)) ∧ ∀ w : World, J_2  w → (Ld .sl w (out.add 3) fun (Code : Sl) =>
 Ld (.i .i64) w i fun (i_Op : Int) => Ld (.i .i64) w (i.add 1) fun (i_A : Int) =>
 Nw (.cells #[.int .i64 i_Op, .int .i64 i_A] 23) w fun (b3 : Addr) (w : World) =>
 Run .sl Tryz.prog (Builtin.append_ #[28, 28] 28 #[.slice Code.a Code.len Code.cap, .slice (some b3) 1 1]) w fun (s3 : Sl) (w : World) =>
 St (out.add 3) (.slice s3.a s3.len s3.cap) w fun (w : World) =>
 ∃ m2 : Nat, m2 < m ∧ Inv_ (IntKind.i64.wrap (t72 + 1)) m2 w)) E) else (Ld .s w out fun (out_Name : ByteArray) => Ld (.i .i64) w (out.add 1) fun (out_Params : Int) => Ld (.i .i64) w (out.add 2) fun (out_Locals : Int) => Ld .sl w (out.add 3) fun (out_Code : Sl) =>
 St a (.string out_Name) w fun (w : World) =>
 St (a.add 1) (.int .i64 out_Params) w fun (w : World) =>
 St (a.add 2) (.int .i64 out_Locals) w fun (w : World) =>
 St (a.add 3) (.slice out_Code.a out_Code.len out_Code.cap) w fun (w : World) =>
 Ld .s w a fun (r_Name : ByteArray) => Ld (.i .i64) w (a.add 1) fun (r_Params : Int) => Ld (.i .i64) w (a.add 2) fun (r_Locals : Int) => Ld .sl w (a.add 3) fun (r_Code : Sl) =>
 R r_Name r_Params r_Locals r_Code w))) E) E) E)
theorem f70_eq (r : Option Addr) (w : World) (R : ByteArray → Int → Int → Sl → World → Prop) (E : List PanicEntry → World → Prop) :
  f70 r w R E = dFuncE Tryz.prog ⟨[(10, ⟨[(72, .i .i64)], [0, 2, 5, 71]⟩)], [(4, ⟨[], [0, 2, 3, 4]⟩), (16, ⟨[], [0, 2, 5, 7, 8, 9, 71, 72]⟩), (18, ⟨[], [0, 2, 5, 7, 71, 72]⟩)]⟩ [37, 68, 69, 70, 71] Tryz.f70 [.pointer r] (fun v w' => viewRet [.agg [.s, .i .i64, .i .i64, .sl]] v R w') E w := by kernel_rfl
theorem c70_of {r : Option Addr} {w : World} {R : ByteArray → Int → Int → Sl → World → Prop} {E : List PanicEntry → World → Prop} (h : f70 r w R E) : c70 r w R E :=
 callP_of okP (pan := [37, 68, 69, 70, 71]) Tryz.func70 (by rw [← f70_eq]; exact h)
def f71 (at_ : Int) (w : World) (R : World → Prop) (E : List PanicEntry → World → Prop) : Prop :=
 Nw (.cells #[.int .i64 at_, .int .i64 130] 89) w fun (a : Addr) (w : World) =>
 E [{ v := .iface 86 (.pointer (some a)), recovered := false }] w
theorem f71_eq (at_ : Int) (w : World) (R : World → Prop) (E : List PanicEntry → World → Prop) :
  f71 at_ w R E = dFuncE Tryz.prog ⟨[], []⟩ [37, 68, 69, 70, 71] Tryz.f71 [.int .i64 at_] (fun v w' => viewRet [] v R w') E w := by kernel_rfl
theorem c71_of {at_ : Int} {w : World} {R : World → Prop} {E : List PanicEntry → World → Prop} (h : f71 at_ w R E) : c71 at_ w R E :=
 callP_of okP (pan := [37, 68, 69, 70, 71]) Tryz.func71 (by rw [← f71_eq]; exact h)
def f72 (b : Sl) (w : World) (R : Int → Int → World → Prop) : Prop :=
 ∃ Inv_ : Int → Int → Nat → World → Prop, (∃ n : Nat, Inv_ 0 0 n w) ∧ ∀ n_ : Int, ∀ i : Int, ∀ m : Nat, ∀ w : World, Inv_ n_ i m w → (if (cond (decide (i < 10)) (decide (i < (b.len : Int))) false) = true then (Ix b.a b.len i 1 fun (a : Addr) =>
 Ld (.i .u8) w a fun (x : Int) =>
 if (cond (i == 9) (decide ((IntKind.u64.wrap x) > 1)) false) = true then (R 0 0 w) else ((128 : Int) ≠ 0 ∧ ((0 : Int) ≤ (IntKind.i64.wrap (7 * i)) ∧ (if (decide ((IntKind.u64.wrap x) ≥ 128)) = true then (∃ m2 : Nat, m2 < m ∧ Inv_ (IntKind.u64.wrap (n_ + (IntKind.u64.wrap ((Int.tmod (IntKind.u64.wrap x) 128) * 2 ^ (min (Int.toNat (IntKind.i64.wrap (7 * i))) 64))))) (IntKind.i64.wrap (i + 1)) m2 w) else (if (cond ((IntKind.u64.wrap x) == 0) (decide (i > 0)) false) = true then (R 0 0 w) else (R (IntKind.u64.wrap (n_ + (IntKind.u64.wrap ((Int.tmod (IntKind.u64.wrap x) 128) * 2 ^ (min (Int.toNat (IntKind.i64.wrap (7 * i))) 64))))) (IntKind.i64.wrap (i + 1)) w)))))) else (R 0 0 w))
theorem c72_of {b w R} (h : f72 b w R) : c72 b w R :=
  callK_of (H := ⟨[(3, ⟨[(4, .i .u64), (5, .i .i64)], [0]⟩)], []⟩) okP Tryz.func72 (cast (by kernel_rfl) h)
def f73 (b : Sl) (w : World) (R : ByteArray → Int → World → Prop) : Prop :=
 c72 b w fun (n_ k : Int) (w : World) =>
 if (cond (k == 0) true (decide (n_ > (IntKind.u64.wrap (IntKind.i64.wrap ((b.len : Int) - k)))))) = true then (R (⟨#[]⟩ : ByteArray) 0 w) else (Cut ⟨b.a, b.len, b.cap⟩ k (IntKind.i64.wrap (k + (IntKind.i64.wrap n_))) (b.cap : Int) 1 fun (s : Sl) =>
 RdB w ⟨s.a, s.len, s.cap⟩ fun (x : ByteArray) =>
 R x (IntKind.i64.wrap (k + (IntKind.i64.wrap n_))) w)
theorem c73_of {b w R} (h : f73 b w R) : c73 b w R :=
  callK_of (H := ⟨[], []⟩) okP Tryz.func73 (cast (by kernel_rfl) h)
def f74 (b : Sl) (w : World) (R : Int → Int → World → Prop) : Prop :=
 c72 b w fun (n_ k : Int) (w : World) =>
 if (k == 0) = true then (R 0 0 w) else (c96 n_ w fun (r : Int) (w : World) =>
 R r k w)
theorem c74_of {b w R} (h : f74 b w R) : c74 b w R :=
  callK_of (H := ⟨[], []⟩) okP Tryz.func74 (cast (by kernel_rfl) h)
def f75 (l : Sl) (w : World) (R : Bool → World → Prop) : Prop :=
 ∃ Inv_ : Int → Int → Nat → World → Prop, (∃ n : Nat, Inv_ 0 0 n w) ∧ ∀ last : Int, ∀ t8 : Int, ∀ m : Nat, ∀ w : World, Inv_ last t8 m w → (if (decide (t8 < (l.len : Int))) = true then (Ix l.a l.len t8 1 fun (a : Addr) =>
 Ld (.i .i64) w a fun (k : Int) =>
 if (cond (decide (k ≤ last)) true (decide (k > 12))) = true then (R false w) else (∃ m2 : Nat, m2 < m ∧ Inv_ k (IntKind.i64.wrap (t8 + 1)) m2 w)) else (R true w))
theorem c75_of {l w R} (h : f75 l w R) : c75 l w R :=
  callK_of (H := ⟨[(3, ⟨[(3, .i .i64), (8, .i .i64)], [6, 7]⟩)], []⟩) okP Tryz.func75 (cast (by kernel_rfl) h)
def f76 (b : Sl) (n_ : Int) (w : World) (R : Sl → World → Prop) : Prop :=
 c98 b w fun (r : Sl) (w : World) =>
 c97 r n_ w fun (r2 : Sl) (w : World) =>
 R r2 w
theorem c76_of {b n_ w R} (h : f76 b n_ w R) : c76 b n_ w R :=
  callK_of (H := ⟨[], []⟩) okP Tryz.func76 (cast (by kernel_rfl) h)
def f77 (b : Sl) (s : ByteArray) (w : World) (R : Sl → World → Prop) : Prop :=
 c76 b (IntKind.u64.wrap (s.size : Int)) w fun (r : Sl) (w : World) =>
 Run .sl Tryz.prog (Builtin.append_ #[34, 9] 34 #[.slice r.a r.len r.cap, .string s]) w fun (s2 : Sl) (w : World) =>
 R s2 w
theorem c77_of {b s w R} (h : f77 b s w R) : c77 b s w R :=
  callK_of (H := ⟨[], []⟩) okP Tryz.func77 (cast (by kernel_rfl) h)
def f78 (b : Sl) (n_ : Int) (w : World) (R : Sl → World → Prop) : Prop :=
 c99 n_ w fun (r : Int) (w : World) =>
 c76 b r w fun (r2 : Sl) (w : World) =>
 R r2 w
theorem c78_of {b n_ w R} (h : f78 b n_ w R) : c78 b n_ w R :=
  callK_of (H := ⟨[], []⟩) okP Tryz.func78 (cast (by kernel_rfl) h)
def f83 (r_Name : ByteArray) (r_Params r_Locals : Int) (r_Code : Sl) (w : World) (R : Bool → World → Prop) : Prop :=
 Nw (.cells #[.string r_Name, .int .i64 r_Params, .int .i64 r_Locals, .slice r_Code.a r_Code.len r_Code.cap] 30) w fun (r : Addr) (w : World) =>
 Ld (.i .i64) w (r.add 1) fun (Params : Int) =>
 if (decide (Params ≥ 0)) = true then (Ld (.i .i64) w (r.add 1) fun (Params2 : Int) =>
 if (decide (Params2 ≤ 4)) = true then (Ld (.i .i64) w (r.add 2) fun (Locals : Int) =>
 Ld (.i .i64) w (r.add 1) fun (Params3 : Int) =>
 if (decide (Locals ≥ Params3)) = true then (Ld (.i .i64) w (r.add 2) fun (Locals2 : Int) =>
 R (decide (Locals2 ≤ 32)) w) else (R false w)) else (R false w)) else (R false w)
theorem c83_of {r_Name r_Params r_Locals r_Code w R} (h : f83 r_Name r_Params r_Locals r_Code w R) : c83 r_Name r_Params r_Locals r_Code w R :=
  callK_of (H := ⟨[], []⟩) okP Tryz.func83 (cast (by kernel_rfl) h)
def f84 (i_Op i_A : Int) (w : World) (R : Bool → World → Prop) : Prop :=
 Nw (.cells #[.int .i64 i_Op, .int .i64 i_A] 23) w fun (i : Addr) (w : World) =>
 Ld (.i .i64) w i fun (Op : Int) =>
 c31 Op w fun (r : Bool) (w : World) =>
 if r = true then (Ld (.i .i64) w i fun (Op2 : Int) =>
 c32 Op2 w fun (r_word : ByteArray) (r_number : Bool) (r_takes r_puts r_by : Int) (w : World) =>
 if r_number = true then (R true w) else (Ld (.i .i64) w (i.add 1) fun (A : Int) =>
 R (A == 0) w)) else (R false w)
theorem c84_of {i_Op i_A w R} (h : f84 i_Op i_A w R) : c84 i_Op i_A w R :=
  callK_of (H := ⟨[], []⟩) okP Tryz.func84 (cast (by kernel_rfl) h)
def f85 (b : Option Addr) (w : World) (R : World → Prop) : Prop :=
 NN b fun (b_ : Addr) =>
 Ld .p w b_ fun (addr : Option Addr) =>
 if addr.isNone = true then (Run .v Tryz.prog (convert 110 148 (.pointer b)) w fun (x : Value) (w : World) =>
 CallX Tryz.prog 102 [x] [.one .v] w fun (r : Value) (w : World) =>
 Run .p Tryz.prog (convert 148 110 (r)) w fun (x2 : Option Addr) (w : World) =>
 NN b fun (b_2 : Addr) =>
 St b_2 (.pointer x2) w fun (w : World) =>
 R w) else (NN b fun (b_3 : Addr) =>
 Ld .p w b_3 fun (addr2 : Option Addr) =>
 RunRo .b Tryz.prog (binSem .neq 110 (.tmp 17) (.tmp 18) (.pointer addr2) (.pointer b)) w fun (eq : Bool) =>
 if eq = true then (False) else (R w))
theorem c85_of {b w R} (h : f85 b w R) : c85 b w R :=
  callK_of (H := ⟨[], []⟩) okP Tryz.func85 (cast (by kernel_rfl) h)
def f87 (i base : Int) (w : World) (R : ByteArray → World → Prop) : Prop :=
 c103 i base w fun (r : ByteArray) (w : World) =>
 R r w
theorem c87_of {i base w R} (h : f87 i base w R) : c87 i base w R :=
  callK_of (H := ⟨[], []⟩) okP Tryz.func87 (cast (by kernel_rfl) h)
def f90 (s : ByteArray) (w : World) (R : Int → Bool → World → Prop) : Prop :=
 c106 s 10 64 w fun (n_ : Int) (e : Value) (w : World) =>
 RunRo .b Tryz.prog (binSem .eql 39 (.tmp 12) (.const (.nilIface)) (e) (.nilIface)) w fun (eq : Bool) =>
 if eq = true then (c87 n_ 10 w fun (r : ByteArray) (w : World) =>
 R n_ (r.toList == s.toList) w) else (R n_ false w)
theorem c90_of {s w R} (h : f90 s w R) : c90 s w R :=
  callK_of (H := ⟨[], []⟩) okP Tryz.func90 (cast (by kernel_rfl) h)
def f93 (b : Sl) (w : World) (R : Int → Int → World → Prop) : Prop :=
 ∃ Inv_ : Int → Int → Nat → World → Prop, (∃ n : Nat, Inv_ 0 0 n w) ∧ ∀ n_ : Int, ∀ t9 : Int, ∀ m : Nat, ∀ w : World, Inv_ n_ t9 m w → (if (decide (t9 < (b.len : Int))) = true then (Ix b.a b.len t9 1 fun (a : Addr) =>
 Ld (.i .u8) w a fun (c : Int) =>
 if (cond (t9 == 9) (decide (c > 1)) false) = true then (R 0 0 w) else ((0 : Int) ≤ (IntKind.i64.wrap (7 * t9)) ∧ (if (decide (c ≥ 128)) = true then (∃ m2 : Nat, m2 < m ∧ Inv_ (IntKind.u64.wrap ((BitVec.ofInt 64 n_ ||| BitVec.ofInt 64 (IntKind.u64.wrap ((IntKind.u64.wrap (IntKind.u8.wrap ((BitVec.ofInt 8 c &&& BitVec.ofInt 8 127).toNat : Nat))) * 2 ^ (min (Int.toNat (IntKind.i64.wrap (7 * t9))) 64)))).toNat : Nat)) (IntKind.i64.wrap (t9 + 1)) m2 w) else (if (cond (c == 0) (decide (t9 > 0)) false) = true then (R 0 0 w) else (R (IntKind.u64.wrap ((BitVec.ofInt 64 n_ ||| BitVec.ofInt 64 (IntKind.u64.wrap ((IntKind.u64.wrap (IntKind.u8.wrap ((BitVec.ofInt 8 c &&& BitVec.ofInt 8 127).toNat : Nat))) * 2 ^ (min (Int.toNat (IntKind.i64.wrap (7 * t9))) 64)))).toNat : Nat)) (IntKind.i64.wrap (t9 + 1)) w))))) else (R 0 0 w))
theorem c93_of {b w R} (h : f93 b w R) : c93 b w R :=
  callK_of (H := ⟨[(3, ⟨[(4, .i .u64), (9, .i .i64)], [7, 8]⟩)], []⟩) okP Tryz.func93 (cast (by kernel_rfl) h)
def f94 (b : Sl) (w : World) (R : ByteArray → Int → World → Prop) : Prop :=
 c93 b w fun (n_ size : Int) (w : World) =>
 if (cond (size == 0) true (decide (n_ > (IntKind.u64.wrap (IntKind.i64.wrap ((b.len : Int) - size)))))) = true then (R (⟨#[]⟩ : ByteArray) 0 w) else (Cut ⟨b.a, b.len, b.cap⟩ size (IntKind.i64.wrap (size + (IntKind.i64.wrap n_))) (b.cap : Int) 1 fun (s : Sl) =>
 RdB w ⟨s.a, s.len, s.cap⟩ fun (x : ByteArray) =>
 R x (IntKind.i64.wrap (size + (IntKind.i64.wrap n_))) w)
theorem c94_of {b w R} (h : f94 b w R) : c94 b w R :=
  callK_of (H := ⟨[], []⟩) okP Tryz.func94 (cast (by kernel_rfl) h)
def f95 (b : Sl) (w : World) (R : Int → Int → World → Prop) : Prop :=
 c93 b w fun (n_ size : Int) (w : World) =>
 c107 n_ w fun (r : Int) (w : World) =>
 R r size w
theorem c95_of {b w R} (h : f95 b w R) : c95 b w R :=
  callK_of (H := ⟨[], []⟩) okP Tryz.func95 (cast (by kernel_rfl) h)
def f96 (n_ : Int) (w : World) (R : Int → World → Prop) : Prop :=
 (2 : Int) ≠ 0 ∧ (if ((Int.tmod n_ 2) == 1) = true then ((2 : Int) ≠ 0 ∧ (R (IntKind.i64.wrap ((IntKind.i64.wrap (0 - (IntKind.i64.wrap (IntKind.u64.wrap (Int.tdiv n_ 2))))) - 1)) w)) else ((2 : Int) ≠ 0 ∧ (R (IntKind.i64.wrap (IntKind.u64.wrap (Int.tdiv n_ 2))) w)))
theorem c96_of {n_ w R} (h : f96 n_ w R) : c96 n_ w R :=
  callK_of (H := ⟨[], []⟩) okP Tryz.func96 (cast (by kernel_rfl) h)
def f97 (b : Sl) (n_ : Int) (w : World) (R : Sl → World → Prop) : Prop :=
 ∃ Inv_ : Sl → Int → Nat → World → Prop, (∃ n : Nat, Inv_ b n_ n w) ∧ ∀ b2 : Sl, ∀ n_2 : Int, ∀ m : Nat, ∀ w : World, Inv_ b2 n_2 m w → (if (decide (n_2 ≥ 128)) = true then (Nw (.cells #[.int .u8 (IntKind.u8.wrap ((BitVec.ofInt 8 (IntKind.u8.wrap n_2) ||| BitVec.ofInt 8 128).toNat : Nat))] 5) w fun (b3 : Addr) (w : World) =>
 Run .sl Tryz.prog (Builtin.append_ #[34, 34] 34 #[.slice b2.a b2.len b2.cap, .slice (some b3) 1 1]) w fun (b4 : Sl) (w : World) =>
 (0 : Int) ≤ 7 ∧ (∃ m2 : Nat, m2 < m ∧ Inv_ b4 (Int.fdiv n_2 (2 ^ (min (Int.toNat 7) 64))) m2 w)) else (Nw (.cells #[.int .u8 (IntKind.u8.wrap n_2)] 5) w fun (b5 : Addr) (w : World) =>
 Run .sl Tryz.prog (Builtin.append_ #[34, 34] 34 #[.slice b2.a b2.len b2.cap, .slice (some b5) 1 1]) w fun (s : Sl) (w : World) =>
 R s w))
theorem c97_of {b n_ w R} (h : f97 b n_ w R) : c97 b n_ w R :=
  callK_of (H := ⟨[(1, ⟨[(0, .sl), (1, .i .u64)], []⟩)], []⟩) okP Tryz.func97 (cast (by kernel_rfl) h)
def f98 (b : Sl) (w : World) (R : Sl → World → Prop) : Prop :=
 Run .sl Tryz.prog (Builtin.append_ #[34, 34] 34 #[.slice none 0 0, .slice b.a b.len b.cap]) w fun (s : Sl) (w : World) =>
 R s w
theorem c98_of {b w R} (h : f98 b w R) : c98 b w R :=
  callK_of (H := ⟨[], []⟩) okP Tryz.func98 (cast (by kernel_rfl) h)
def f99 (n_ : Int) (w : World) (R : Int → World → Prop) : Prop :=
 (0 : Int) ≤ 1 ∧ ((0 : Int) ≤ 63 ∧ (R (IntKind.u64.wrap ((BitVec.ofInt 64 (IntKind.u64.wrap (IntKind.i64.wrap (n_ * 2 ^ (min (Int.toNat 1) 64)))) ^^^ BitVec.ofInt 64 (IntKind.u64.wrap (Int.fdiv n_ (2 ^ (min (Int.toNat 63) 64))))).toNat : Nat)) w))
theorem c99_of {n_ w R} (h : f99 n_ w R) : c99 n_ w R :=
  callK_of (H := ⟨[], []⟩) okP Tryz.func99 (cast (by kernel_rfl) h)
def f107 (n_ : Int) (w : World) (R : Int → World → Prop) : Prop :=
 (0 : Int) ≤ 1 ∧ (R (IntKind.i64.wrap ((BitVec.ofInt 64 (IntKind.i64.wrap (Int.fdiv n_ (2 ^ (min (Int.toNat 1) 64)))) ^^^ BitVec.ofInt 64 (IntKind.i64.wrap (0 - (IntKind.i64.wrap (IntKind.u64.wrap ((BitVec.ofInt 64 n_ &&& BitVec.ofInt 64 1).toNat : Nat)))))).toNat : Nat)) w)
theorem c107_of {n_ w R} (h : f107 n_ w R) : c107 n_ w R :=
  callK_of (H := ⟨[], []⟩) okP Tryz.func107 (cast (by kernel_rfl) h)
def f129 (s : ByteArray) (w : World) (R : Int → Int → World → Prop) : Prop :=
 ∃ J_ : Bool → World → Prop, (if (!(s.toList == (⟨#[]⟩ : ByteArray).toList)) = true then (IxS s 0 fun (c : Int) =>
 J_ (decide (c < 128)) w) else (J_ false w)) ∧ ∀ t10 : Bool, ∀ w : World, J_ t10 w → (if t10 = true then (IxS s 0 fun (c2 : Int) =>
 R (IntKind.i32.wrap c2) 1 w) else (c138 s w fun (r size : Int) (w : World) =>
 R r size w))
def f138 (s : ByteArray) (w : World) (R : Int → Int → World → Prop) : Prop :=
 if (decide ((s.size : Int) < 1)) = true then (R 65533 0 w) else (IxS s 0 fun (c : Int) =>
 IxA ⟨6, 0, none⟩ 256 c 1 fun (a : Addr) =>
 Ld (.i .u8) w a fun (x : Int) =>
 if (decide (x ≥ 240)) = true then ((0 : Int) ≤ 31 ∧ ((0 : Int) ≤ 31 ∧ (IxS s 0 fun (c2 : Int) =>
 R (IntKind.i32.wrap ((BitVec.ofInt 32 (IntKind.i32.wrap ((BitVec.ofInt 32 (IntKind.i32.wrap c2) &&& ~~~ BitVec.ofInt 32 (Int.fdiv (IntKind.i32.wrap ((IntKind.i32.wrap x) * 2 ^ (min (Int.toNat 31) 32))) (2 ^ (min (Int.toNat 31) 32)))).toNat : Nat)) ||| BitVec.ofInt 32 (IntKind.i32.wrap ((BitVec.ofInt 32 65533 &&& BitVec.ofInt 32 (Int.fdiv (IntKind.i32.wrap ((IntKind.i32.wrap x) * 2 ^ (min (Int.toNat 31) 32))) (2 ^ (min (Int.toNat 31) 32)))).toNat : Nat))).toNat : Nat)) 1 w))) else ((0 : Int) ≤ 4 ∧ (IxA ⟨7, 0, none⟩ 16 (Int.fdiv x (2 ^ (min (Int.toNat 4) 8))) 2 fun (a2 : Addr) =>
 Ld (.i .u8) w a2 fun (accept_lo : Int) => Ld (.i .u8) w (a2.add 1) fun (accept_hi : Int) =>
 Nw (.cells #[.int .u8 0, .int .u8 0] 189) w fun (accept : Addr) (w : World) =>
 St accept (.int .u8 accept_lo) w fun (w : World) =>
 St (accept.add 1) (.int .u8 accept_hi) w fun (w : World) =>
 if (decide ((s.size : Int) < (IntKind.i64.wrap (IntKind.u8.wrap ((BitVec.ofInt 8 x &&& BitVec.ofInt 8 7).toNat : Nat))))) = true then (R 65533 1 w) else (IxS s 1 fun (c3 : Int) =>
 ∃ J_ : World → Prop, (Ld (.i .u8) w accept fun (lo : Int) =>
 if (decide (c3 < lo)) = true then (R 65533 1 w) else (Ld (.i .u8) w (accept.add 1) fun (hi : Int) =>
 if (decide (hi < c3)) = true then (R 65533 1 w) else (J_  w))) ∧ ∀ w : World, J_  w → (if (decide ((IntKind.i64.wrap (IntKind.u8.wrap ((BitVec.ofInt 8 x &&& BitVec.ofInt 8 7).toNat : Nat))) ≤ 2)) = true then ((0 : Int) ≤ 6 ∧ (R (IntKind.i32.wrap ((BitVec.ofInt 32 (IntKind.i32.wrap ((IntKind.i32.wrap (IntKind.u8.wrap ((BitVec.ofInt 8 c &&& BitVec.ofInt 8 31).toNat : Nat))) * 2 ^ (min (Int.toNat 6) 32))) ||| BitVec.ofInt 32 (IntKind.i32.wrap (IntKind.u8.wrap ((BitVec.ofInt 8 c3 &&& BitVec.ofInt 8 63).toNat : Nat)))).toNat : Nat)) 2 w)) else (IxS s 2 fun (c4 : Int) =>
 if (cond (decide (c4 < 128)) true (decide (191 < c4))) = true then (R 65533 1 w) else (if (decide ((IntKind.i64.wrap (IntKind.u8.wrap ((BitVec.ofInt 8 x &&& BitVec.ofInt 8 7).toNat : Nat))) ≤ 3)) = true then ((0 : Int) ≤ 12 ∧ ((0 : Int) ≤ 6 ∧ (R (IntKind.i32.wrap ((BitVec.ofInt 32 (IntKind.i32.wrap ((BitVec.ofInt 32 (IntKind.i32.wrap ((IntKind.i32.wrap (IntKind.u8.wrap ((BitVec.ofInt 8 c &&& BitVec.ofInt 8 15).toNat : Nat))) * 2 ^ (min (Int.toNat 12) 32))) ||| BitVec.ofInt 32 (IntKind.i32.wrap ((IntKind.i32.wrap (IntKind.u8.wrap ((BitVec.ofInt 8 c3 &&& BitVec.ofInt 8 63).toNat : Nat))) * 2 ^ (min (Int.toNat 6) 32)))).toNat : Nat)) ||| BitVec.ofInt 32 (IntKind.i32.wrap (IntKind.u8.wrap ((BitVec.ofInt 8 c4 &&& BitVec.ofInt 8 63).toNat : Nat)))).toNat : Nat)) 3 w))) else (IxS s 3 fun (c5 : Int) =>
 if (cond (decide (c5 < 128)) true (decide (191 < c5))) = true then (R 65533 1 w) else ((0 : Int) ≤ 18 ∧ ((0 : Int) ≤ 12 ∧ ((0 : Int) ≤ 6 ∧ (R (IntKind.i32.wrap ((BitVec.ofInt 32 (IntKind.i32.wrap ((BitVec.ofInt 32 (IntKind.i32.wrap ((BitVec.ofInt 32 (IntKind.i32.wrap ((IntKind.i32.wrap (IntKind.u8.wrap ((BitVec.ofInt 8 c &&& BitVec.ofInt 8 7).toNat : Nat))) * 2 ^ (min (Int.toNat 18) 32))) ||| BitVec.ofInt 32 (IntKind.i32.wrap ((IntKind.i32.wrap (IntKind.u8.wrap ((BitVec.ofInt 8 c3 &&& BitVec.ofInt 8 63).toNat : Nat))) * 2 ^ (min (Int.toNat 12) 32)))).toNat : Nat)) ||| BitVec.ofInt 32 (IntKind.i32.wrap ((IntKind.i32.wrap (IntKind.u8.wrap ((BitVec.ofInt 8 c4 &&& BitVec.ofInt 8 63).toNat : Nat))) * 2 ^ (min (Int.toNat 6) 32)))).toNat : Nat)) ||| BitVec.ofInt 32 (IntKind.i32.wrap (IntKind.u8.wrap ((BitVec.ofInt 8 c5 &&& BitVec.ofInt 8 63).toNat : Nat)))).toNat : Nat)) 4 w))))))))))))
end Go.Proofs.YtmfgofbcnlkolaaGreatDoor.F
end

section
namespace Go.Den
open Go.RowKit
structure Thing where
 holds : World → List Nat → Prop
 fr : ∀ {S : List Nat} {w w' : World} {O : List Nat}, holds w O → Fr S w w' → (∀ k ∈ O, k ∉ S) → holds w' O
 lt : ∀ {w : World} {O : List Nat}, holds w O → ∀ k ∈ O, k < w.heap.size
 own : Bool := true
def Thing.ro (t : Thing) : Thing := { t with own := false }
structure Hp (S : List Nat) (w0 w : World) (its : List Thing) : Prop where
 fr : Fr S w0 w
 ex : ∃ F : Nat → List Nat, (∀ i t, its[i]? = some t → t.holds w (F i) ∧ (t.own = true → ∀ k ∈ F i, k ∈ S ∨ w0.heap.size ≤ k) ∧ (t.own = false → ∀ k ∈ F i, k ∉ S ∧ k < w0.heap.size)) ∧
  ∀ i j t u, its[i]? = some t → its[j]? = some u → i ≠ j → t.own = true → u.own = true → ∀ k ∈ F i, k ∉ F j
namespace Hp
variable {S : List Nat} {w0 w : World} {its : List Thing}
theorem init (w : World) : Hp S w w [] := ⟨Fr.refl _ _, fun _ => [], by simp, by simp⟩
theorem grow (h : Hp S w0 w its) {w' : World} {t : Thing} {O : List Nat} (hf : Fr [] w w') (ht : t.holds w' O) (hO : ∀ k ∈ O, w.heap.size ≤ k) (ho : t.own = true) : Hp S w0 w' (its ++ [t]) := by
 obtain ⟨hfr, F, h1, h2⟩ := h
 have hs := hfr.size
 have key : ∀ i u, (its ++ [t])[i]? = some u → (i < its.length ∧ its[i]? = some u) ∨ (i = its.length ∧ u = t) := by
  intro i u hi
  by_cases hlt : i < its.length
  ·rw [List.getElem?_append_left hlt] at hi; exact .inl ⟨hlt, hi⟩
  ·rw [List.getElem?_append_right (by omega)] at hi
   have : i - its.length = 0 := by
    rcases Nat.eq_zero_or_pos (i - its.length) with h | h
    ·exact h
    ·rw [List.getElem?_eq_none (by simp; omega)] at hi; cases hi
   rw [this] at hi
   simp only [List.getElem?_cons_zero, Option.some.injEq] at hi
   exact .inr ⟨by omega, hi.symm⟩
 refine ⟨hfr.trans hf (by simp), fun i => if i = its.length then O else F i, ?_, ?_⟩
 ·intro i u hi
  rcases key i u hi with ⟨hlt, hi'⟩ | ⟨rfl, rfl⟩
  ·dsimp only
   rw [if_neg (by omega)]
   obtain ⟨g1, g2, g3⟩ := h1 i u hi'
   exact ⟨u.fr g1 hf (by simp), g2, g3⟩
  ·dsimp only
   rw [if_pos rfl]
   exact ⟨ht, fun _ k hk => .inr (Nat.le_trans hs (hO k hk)), fun h => by rw [ho] at h; cases h⟩
 ·intro i j u v hi hj hne hu hv k hk
  rcases key i u hi with ⟨hlt, hi'⟩ | ⟨rfl, rfl⟩
  ·rcases key j v hj with ⟨hlt', hj'⟩ | ⟨rfl, rfl⟩
   ·simp only [if_neg (show ¬ i = its.length by omega), if_neg (show ¬ j = its.length by omega)] at hk ⊢
    exact h2 i j u v hi' hj' hne hu hv k hk
   ·simp only [if_neg (show ¬ i = its.length by omega), if_true] at hk ⊢
    intro hk'
    have := u.lt (h1 i u hi').1 k hk
    have := hO k hk'
    omega
  ·rcases key j v hj with ⟨hlt', hj'⟩ | ⟨rfl, rfl⟩
   ·simp only [if_neg (show ¬ j = its.length by omega), if_true] at hk ⊢
    intro hk'
    have := v.lt (h1 j v hj').1 k hk'
    have := hO k hk
    omega
   ·exact absurd rfl hne
theorem keep (h : Hp S w0 w its) {w' : World} (hf : Fr [] w w') : Hp S w0 w' its := by
 obtain ⟨hfr, F, h1, h2⟩ := h
 exact ⟨hfr.trans hf (by simp), F, fun i t hi => ⟨t.fr (h1 i t hi).1 hf (by simp), (h1 i t hi).2⟩, h2⟩
theorem step (h : Hp S w0 w its) {i : Nat} {t : Thing} (hi : its[i]? = some t) (ho : t.own = true) :
  ∃ O, t.holds w O ∧ ∀ {w' : World} {t' : Thing} {O' : List Nat}, Fr O w w' → t'.holds w' O' → (∀ k ∈ O', k ∈ O ∨ w.heap.size ≤ k) → t'.own = true → Hp S w0 w' (its.set i t') := by
 obtain ⟨hfr, F, h1, h2⟩ := h
 obtain ⟨g1, g2, g3⟩ := h1 i t hi
 refine ⟨F i, g1, fun {w' t' O'} hf ht' hO' ho' => ?_⟩
 have hlt := (List.getElem?_eq_some_iff.1 hi).1
 have key : ∀ j u, (its.set i t')[j]? = some u → (j ≠ i ∧ its[j]? = some u) ∨ (j = i ∧ u = t') := by
  intro j u hj
  rw [List.getElem?_set] at hj
  split at hj
  ·rename_i e
   simp only [if_pos hlt, Option.some.injEq] at hj
   exact .inr ⟨e.symm, hj.symm⟩
  ·rename_i e; exact .inl ⟨fun h => e h.symm, hj⟩
 have hs := hfr.size
 have apart : ∀ j u, j ≠ i → its[j]? = some u → ∀ k ∈ F j, k ∉ F i := by
  intro j u hne hj k hk hki
  cases huo : u.own with
  | true => exact h2 j i u t hj hi hne huo ho k hk hki
  | false =>
   obtain ⟨_, q2, q3⟩ := h1 j u hj
   have q := q3 huo k hk
   rcases g2 ho k hki with h | h
   ·exact q.1 h
   ·omega
 refine ⟨hfr.trans hf (g2 ho), fun j => if j = i then O' else F j, ?_, ?_⟩
 ·intro j u hj
  rcases key j u hj with ⟨hne, hjj⟩ | ⟨rfl, rfl⟩
  ·dsimp only
   rw [if_neg hne]
   obtain ⟨q1, q2⟩ := h1 j u hjj
   exact ⟨u.fr q1 hf (apart j u hne hjj), q2⟩
  ·dsimp only
   rw [if_pos rfl]
   refine ⟨ht', fun _ k hk => ?_, fun h => by rw [ho'] at h; cases h⟩
   rcases hO' k hk with h | h
   ·exact g2 ho k h
   ·exact .inr (Nat.le_trans hs h)
 ·intro j j' u v hj hj' hne hu hv k hk
  rcases key j u hj with ⟨hn, hjj⟩ | ⟨rfl, rfl⟩
  ·rcases key j' v hj' with ⟨hn', hjj'⟩ | ⟨rfl, rfl⟩
   ·simp only [if_neg hn, if_neg hn'] at hk ⊢
    exact h2 j j' u v hjj hjj' hne hu hv k hk
   ·simp only [if_neg hn, if_true] at hk ⊢
    intro hk'
    rcases hO' k hk' with h | h
    ·exact apart j u hn hjj k hk h
    ·have := u.lt (h1 j u hjj).1 k hk; omega
  ·rcases key j' v hj' with ⟨hn', hjj'⟩ | ⟨rfl, rfl⟩
   ·simp only [if_neg hn', if_true] at hk ⊢
    intro hk'
    rcases hO' k hk with h | h
    ·exact apart j' v hn' hjj' k hk' h
    ·have := v.lt (h1 j' v hjj').1 k hk'; omega
   ·exact absurd rfl hne
theorem see (h : Hp S w0 w its) {i : Nat} {t : Thing} (hi : its[i]? = some t) : ∃ O, t.holds w O := by
 obtain ⟨hfr, F, h1, h2⟩ := h
 exact ⟨_, (h1 i t hi).1⟩
theorem weak (h : Hp S w0 w its) {i : Nat} {t : Thing} (hi : its[i]? = some t) (ho : t.own = true) {t' : Thing} (himp : ∀ w O, t.holds w O → t'.holds w O) (ho' : t'.own = true) : Hp S w0 w (its.set i t') := by
 obtain ⟨O, hO, back⟩ := h.step hi ho
 exact back (Fr.refl _ _) (himp _ _ hO) (fun k hk => .inl hk) ho'
theorem addRo (h : Hp S w0 w its) {t : Thing} {O : List Nat} (ht : t.holds w0 O) (hO : ∀ k ∈ O, k ∉ S) : Hp S w0 w (its ++ [t.ro]) := by
 obtain ⟨hfr, F, h1, h2⟩ := h
 have key : ∀ i u, (its ++ [t.ro])[i]? = some u → (i < its.length ∧ its[i]? = some u) ∨ (i = its.length ∧ u = t.ro) := by
  intro i u hi
  by_cases hlt : i < its.length
  ·rw [List.getElem?_append_left hlt] at hi; exact .inl ⟨hlt, hi⟩
  ·rw [List.getElem?_append_right (by omega)] at hi
   have : i - its.length = 0 := by
    rcases Nat.eq_zero_or_pos (i - its.length) with h | h
    ·exact h
    ·rw [List.getElem?_eq_none (by simp; omega)] at hi; cases hi
   rw [this] at hi
   simp only [List.getElem?_cons_zero, Option.some.injEq] at hi
   exact .inr ⟨by omega, hi.symm⟩
 refine ⟨hfr, fun i => if i = its.length then O else F i, ?_, ?_⟩
 ·intro i u hi
  rcases key i u hi with ⟨hlt, hi'⟩ | ⟨rfl, rfl⟩
  ·dsimp only
   rw [if_neg (by omega)]; exact h1 i u hi'
  ·dsimp only
   rw [if_pos rfl]
   exact ⟨t.fr ht hfr hO, fun h => (by cases h), fun _ k hk => ⟨hO k hk, t.lt ht k hk⟩⟩
 ·intro i j u v hi hj hne hu hv k hk
  rcases key i u hi with ⟨hlt, hi'⟩ | ⟨rfl, rfl⟩
  ·rcases key j v hj with ⟨hlt', hj'⟩ | ⟨rfl, rfl⟩
   ·simp only [if_neg (show ¬ i = its.length by omega), if_neg (show ¬ j = its.length by omega)] at hk ⊢
    exact h2 i j u v hi' hj' hne hu hv k hk
   ·cases hv
  ·cases hu
theorem sel (h : Hp S w0 w its) (js : List Nat) (hnd : js.Nodup) {ts : List Thing} (hl : ts.length = js.length) (hts : ∀ n j : Nat, js[n]? = some j → its[j]? = ts[n]?) : Hp S w0 w ts := by
 obtain ⟨hfr, F, h1, h2⟩ := h
 have key : ∀ (n : Nat) (t : Thing), ts[n]? = some t → ∃ j, js[n]? = some j ∧ its[j]? = some t := by
  intro n t hn
  have hlt := (List.getElem?_eq_some_iff.1 hn).1
  refine ⟨js[n], by simp [show n < js.length by omega], ?_⟩
  rw [hts n js[n] (by simp [show n < js.length by omega]), hn]
 refine ⟨hfr, fun n => F (js.getD n 0), ?_, ?_⟩
 ·intro n t hn
  obtain ⟨j, hj, ht⟩ := key n t hn
  have e : js.getD n 0 = j := by simp [hj]
  simp only [e]
  exact h1 j t ht
 ·intro n m t u hn hm hne ht hu
  obtain ⟨j, hj, hjt⟩ := key n t hn
  obtain ⟨j', hj', hjt'⟩ := key m u hm
  have e : js.getD n 0 = j := by simp [hj]
  have e' : js.getD m 0 = j' := by simp [hj']
  simp only [e, e']
  refine h2 j j' t u hjt hjt' ?_ ht hu
  intro he
  subst he
  exact hne ((List.getElem?_inj (by obtain ⟨h, _⟩ := List.getElem?_eq_some_iff.1 hj; exact h) hnd).1 (hj.trans hj'.symm))
theorem front {a b : List Thing} (h : Hp S w0 w (a ++ b)) : Hp S w0 w a := by
 obtain ⟨hfr, F, h1, h2⟩ := h
 have key : ∀ (i : Nat) (t : Thing), a[i]? = some t → (a ++ b)[i]? = some t := fun i t hi => by
  rw [List.getElem?_append_left (List.getElem?_eq_some_iff.1 hi).1]; exact hi
 exact ⟨hfr, F, fun i t hi => h1 i t (key i t hi), fun i j t u hi hj => h2 i j t u (key i t hi) (key j u hj)⟩
def setL (its : List Thing) : List Nat → List Thing → List Thing
 | i :: is, t :: ts => setL (its.set i t) is ts
 | _, _ => its
theorem setL_length : ∀ (is : List Nat) (ts its : List Thing), (setL its is ts).length = its.length
 | [], _, _ => by simp [setL]
 | i :: is, [], _ => by simp [setL]
 | i :: is, t :: ts, its => by simp [setL, setL_length is ts]
theorem setL_other : ∀ (is : List Nat) (ts its : List Thing) (j : Nat), j ∉ is → (setL its is ts)[j]? = its[j]?
 | [], _, _, _, _ => by simp [setL]
 | i :: is, [], _, _, _ => by simp [setL]
 | i :: is, t :: ts, its, j, h => by
  simp only [List.mem_cons, not_or] at h
  rw [setL, setL_other is ts _ j h.2, List.getElem?_set_ne (fun e => h.1 e.symm)]
theorem setL_at : ∀ (is : List Nat) (ts its : List Thing) (n j : Nat), is.Nodup → is[n]? = some j → j < its.length → n < ts.length → (setL its is ts)[j]? = ts[n]?
 | [], _, _, _, _, _, h, _, _ => by simp at h
 | i :: is, [], _, n, _, _, _, _, h => by simp at h
 | i :: is, t :: ts, its, n, j, hnd, hn, hj, hl => by
  obtain ⟨h1, h2⟩ := List.nodup_cons.1 hnd
  cases n with
  | zero =>
   simp only [List.getElem?_cons_zero, Option.some.injEq] at hn
   subst hn
   rw [setL, setL_other is ts _ i h1]
   simp [hj]
  | succ n =>
   simp only [List.getElem?_cons_succ] at hn ⊢
   rw [setL]
   exact setL_at is ts _ n j h2 hn (by simpa using hj) (by simpa using hl)
theorem frame (h : Hp S w0 w its) (is js : List Nat) (hnd : is.Nodup) (hdis : ∀ i ∈ is, i ∉ js) {ts us : List Thing} (hl : ts.length = is.length) (hl' : us.length = js.length)
  (hts : ∀ n i : Nat, is[n]? = some i → its[i]? = ts[n]?) (hus : ∀ n i : Nat, js[n]? = some i → its[i]? = us[n]?) (hown : ∀ t ∈ ts, t.own = true) :
  ∃ O, Hp O w w (ts ++ us.map Thing.ro) ∧ ∀ {w' : World} {ts' rest : List Thing}, ts'.length = ts.length → (∀ t ∈ ts', t.own = true) → (∀ t ∈ rest, t.own = true) → Hp O w w' (ts' ++ rest) → Hp S w0 w' (setL its is ts' ++ rest) := by
 obtain ⟨hfr, F, h1, h2⟩ := h
 have hs := hfr.size
 have key : ∀ (n : Nat) (t : Thing), ts[n]? = some t → ∃ j, is[n]? = some j ∧ its[j]? = some t := by
  intro n t hn
  have hlt := (List.getElem?_eq_some_iff.1 hn).1
  refine ⟨is[n], by simp [show n < is.length by omega], ?_⟩
  rw [hts n is[n] (by simp [show n < is.length by omega]), hn]
 have key' : ∀ (n : Nat) (t : Thing), us[n]? = some t → ∃ j, js[n]? = some j ∧ its[j]? = some t := by
  intro n t hn
  have hlt := (List.getElem?_eq_some_iff.1 hn).1
  refine ⟨js[n], by simp [show n < js.length by omega], ?_⟩
  rw [hus n js[n] (by simp [show n < js.length by omega]), hn]
 have hisown : ∀ i ∈ is, ∃ t, its[i]? = some t ∧ t.own = true := by
  intro i hi
  obtain ⟨n, hn⟩ := List.getElem?_of_mem hi
  have hlt := (List.getElem?_eq_some_iff.1 hn).1
  have hnt : ts[n]? = some ts[n] := by simp [show n < ts.length by omega]
  exact ⟨ts[n], (hts n i hn).trans hnt, hown _ (by simp)⟩
 have hO : ∀ k, k ∈ is.flatMap F ↔ ∃ i ∈ is, k ∈ F i := fun k => List.mem_flatMap
 -- who is not among them has other blocks
 have apart : ∀ j u, its[j]? = some u → j ∉ is → ∀ k ∈ F j, k ∉ is.flatMap F := by
  intro j u hj hji k hk hkO
  obtain ⟨i, hi, hki⟩ := (hO k).1 hkO
  obtain ⟨t, ht, hto⟩ := hisown i hi
  have hne : j ≠ i := fun e => hji (e ▸ hi)
  cases huo : u.own with
  | true => exact h2 j i u t hj ht hne huo hto k hk hki
  | false =>
   have q := (h1 j u hj).2.2 huo k hk
   rcases (h1 i t ht).2.1 hto k hki with h | h
   ·exact q.1 h
   ·omega
 refine ⟨is.flatMap F, ⟨Fr.refl _ _, fun n => if n < ts.length then F (is.getD n 0) else F (js.getD (n - ts.length) 0), ?_, ?_⟩, ?_⟩
 ·intro n t hn
  by_cases hlt : n < ts.length
  ·rw [List.getElem?_append_left hlt] at hn
   obtain ⟨j, hj, ht⟩ := key n t hn
   have e : is.getD n 0 = j := by simp [hj]
   simp only [if_pos hlt, e]
   refine ⟨(h1 j t ht).1, fun _ k hk => .inl ((hO k).2 ⟨j, List.mem_of_getElem? hj, hk⟩), fun ho => ?_⟩
   rw [hown t (List.mem_of_getElem? hn)] at ho; cases ho
  ·rw [List.getElem?_append_right (by omega), List.getElem?_map, Option.map_eq_some_iff] at hn
   obtain ⟨u, hu, rfl⟩ := hn
   obtain ⟨j, hj, ht⟩ := key' _ u hu
   have e : js.getD (n - ts.length) 0 = j := by simp [hj]
   simp only [if_neg hlt, e]
   refine ⟨(h1 j u ht).1, fun h => (by cases h), fun _ k hk => ⟨apart j u ht (fun hm => hdis j hm (List.mem_of_getElem? hj)) k hk, u.lt (h1 j u ht).1 k hk⟩⟩
 ·intro n m t u hn hm hne ht hu k hk
  have low : ∀ n t, (ts ++ us.map Thing.ro)[n]? = some t → t.own = true → n < ts.length := by
   intro n t hn ht
   refine Nat.lt_of_not_le fun hge => ?_
   rw [List.getElem?_append_right hge, List.getElem?_map, Option.map_eq_some_iff] at hn
   obtain ⟨u, hu, rfl⟩ := hn
   cases ht
  have ln := low n t hn ht
  have lm := low m u hm hu
  rw [List.getElem?_append_left ln] at hn
  rw [List.getElem?_append_left lm] at hm
  obtain ⟨j, hj, hjt⟩ := key n t hn
  obtain ⟨j', hj', hjt'⟩ := key m u hm
  have e : is.getD n 0 = j := by simp [hj]
  have e' : is.getD m 0 = j' := by simp [hj']
  simp only [if_pos ln, if_pos lm, e, e'] at hk ⊢
  refine h2 j j' t u hjt hjt' ?_ ht hu k hk
  intro he
  subst he
  exact hne ((List.getElem?_inj (by obtain ⟨h, _⟩ := List.getElem?_eq_some_iff.1 hj; exact h) hnd).1 (hj.trans hj'.symm))
 ·intro w' ts' rest hlen hown' hrest hp
  obtain ⟨pfr, G, p1, p2⟩ := hp
  -- the things of the rest of the world
  have hnl : ∀ n, n < ts.length → ∃ j t, is[n]? = some j ∧ ts'[n]? = some t := fun n hn =>
   ⟨is[n], ts'[n], by simp [show n < is.length by omega], by simp [show n < ts'.length by omega]⟩
  let idx : Nat → Nat := fun j => is.idxOf j
  have hidx : ∀ j ∈ is, is[is.idxOf j]? = some j := fun j hj => by
   have := List.idxOf_lt_length_iff.2 hj
   simp [this]
  have hlenL := setL_length is ts' its
  let G' : Nat → List Nat := fun j => if j < its.length then (if j ∈ is then G (is.idxOf j) else F j) else G (ts'.length + (j - its.length))
  have cls : ∀ j u, (setL its is ts' ++ rest)[j]? = some u → (j < its.length ∧ j ∈ is ∧ u.own = true ∧ u.holds w' (G (is.idxOf j)) ∧ (∀ k ∈ G (is.idxOf j), k ∈ is.flatMap F ∨ w.heap.size ≤ k) ∧ (ts' ++ rest)[is.idxOf j]? = some u) ∨
    (j < its.length ∧ j ∉ is ∧ its[j]? = some u) ∨ (its.length ≤ j ∧ u.own = true ∧ (ts' ++ rest)[ts'.length + (j - its.length)]? = some u) := by
   intro j u hj
   by_cases hlt : j < its.length
   ·rw [List.getElem?_append_left (by omega)] at hj
    by_cases hm : j ∈ is
    ·refine .inl ⟨hlt, hm, ?_⟩
     have hi := hidx j hm
     have hil : is.idxOf j < ts'.length := by have := List.idxOf_lt_length_iff.2 hm; omega
     rw [setL_at is ts' its _ j hnd hi hlt hil] at hj
     have hj2 : (ts' ++ rest)[is.idxOf j]? = some u := by
      rw [List.getElem?_append_left hil]; exact hj
     have hu := hown' u (List.mem_of_getElem? hj)
     obtain ⟨q1, q2, _⟩ := p1 _ u hj2
     exact ⟨hu, q1, q2 hu, hj2⟩
    ·rw [setL_other is ts' its j hm] at hj
     exact .inr (.inl ⟨hlt, hm, hj⟩)
   ·rw [List.getElem?_append_right (by omega), hlenL] at hj
    refine .inr (.inr ⟨by omega, hrest u (List.mem_of_getElem? hj), ?_⟩)
    rw [List.getElem?_append_right (by omega), Nat.add_sub_cancel_left]
    exact hj
  have hout : ∀ k, k ∈ is.flatMap F → k ∈ S ∨ w0.heap.size ≤ k := by
   intro k hk
   obtain ⟨i, hi, hki⟩ := (hO k).1 hk
   obtain ⟨t, ht, hto⟩ := hisown i hi
   exact (h1 i t ht).2.1 hto k hki
  refine ⟨hfr.trans pfr hout, G', ?_, ?_⟩
  ·intro j u hj
   rcases cls j u hj with ⟨hlt, hm, hu, q1, q2, _⟩ | ⟨hlt, hm, hj'⟩ | ⟨hge, hu, hj'⟩
   ·have e : G' j = G (is.idxOf j) := by simp only [G', if_pos hlt, if_pos hm]
    rw [e]
    refine ⟨q1, fun _ k hk => ?_, fun h => by rw [hu] at h; cases h⟩
    rcases q2 k hk with h | h
    ·exact hout k h
    ·exact .inr (Nat.le_trans hs h)
   ·have e : G' j = F j := by simp only [G', if_pos hlt, if_neg hm]
    rw [e]
    obtain ⟨q1, q2⟩ := h1 j u hj'
    exact ⟨u.fr q1 pfr (apart j u hj' hm), q2⟩
   ·have e : G' j = G (ts'.length + (j - its.length)) := by simp only [G', if_neg (show ¬ j < its.length by omega)]
    rw [e]
    obtain ⟨q1, q2, _⟩ := p1 _ u hj'
    refine ⟨q1, fun _ k hk => ?_, fun h => by rw [hu] at h; cases h⟩
    rcases q2 hu k hk with h | h
    ·exact hout k h
    ·exact .inr (Nat.le_trans hs h)
  ·intro i j t u hi hj hne ht hu k hk hk'
   rcases cls i t hi with ⟨hlt, hm, hto, q1, q2, q3⟩ | ⟨hlt, hm, hi'⟩ | ⟨hge, hto, hi'⟩
   ·have e : G' i = G (is.idxOf i) := by simp only [G', if_pos hlt, if_pos hm]
    rw [e] at hk
    rcases cls j u hj with ⟨hlt', hm', huo, r1, r2, r3⟩ | ⟨hlt', hm', hj'⟩ | ⟨hge', huo, hj'⟩
    ·have e' : G' j = G (is.idxOf j) := by simp only [G', if_pos hlt', if_pos hm']
     rw [e'] at hk'
     refine p2 _ _ t u q3 r3 ?_ ht hu k hk hk'
     intro he
     have a1 := hidx i hm
     have a2 := hidx j hm'
     rw [he] at a1
     exact hne (Option.some.inj (a1.symm.trans a2))
    ·have e' : G' j = F j := by simp only [G', if_pos hlt', if_neg hm']
     rw [e'] at hk'
     rcases q2 k hk with h | h
     ·exact apart j u hj' hm' k hk' h
     ·have := u.lt (h1 j u hj').1 k hk'; omega
    ·have e' : G' j = G (ts'.length + (j - its.length)) := by simp only [G', if_neg (show ¬ j < its.length by omega)]
     rw [e'] at hk'
     have := List.idxOf_lt_length_iff.2 hm
     exact p2 _ _ t u q3 hj' (by omega) ht hu k hk hk'
   ·have e : G' i = F i := by simp only [G', if_pos hlt, if_neg hm]
    rw [e] at hk
    rcases cls j u hj with ⟨hlt', hm', huo, r1, r2, r3⟩ | ⟨hlt', hm', hj'⟩ | ⟨hge', huo, hj'⟩
    ·have e' : G' j = G (is.idxOf j) := by simp only [G', if_pos hlt', if_pos hm']
     rw [e'] at hk'
     rcases r2 k hk' with h | h
     ·exact apart i t hi' hm k hk h
     ·have := t.lt (h1 i t hi').1 k hk; omega
    ·have e' : G' j = F j := by simp only [G', if_pos hlt', if_neg hm']
     rw [e'] at hk'
     exact h2 i j t u hi' hj' hne ht hu k hk hk'
    ·have e' : G' j = G (ts'.length + (j - its.length)) := by simp only [G', if_neg (show ¬ j < its.length by omega)]
     rw [e'] at hk'
     rcases (p1 _ u hj').2.1 huo k hk' with h | h
     ·exact apart i t hi' hm k hk h
     ·have := t.lt (h1 i t hi').1 k hk; omega
   ·have e : G' i = G (ts'.length + (i - its.length)) := by simp only [G', if_neg (show ¬ i < its.length by omega)]
    rw [e] at hk
    rcases cls j u hj with ⟨hlt', hm', huo, r1, r2, r3⟩ | ⟨hlt', hm', hj'⟩ | ⟨hge', huo, hj'⟩
    ·have e' : G' j = G (is.idxOf j) := by simp only [G', if_pos hlt', if_pos hm']
     rw [e'] at hk'
     have := List.idxOf_lt_length_iff.2 hm'
     exact p2 _ _ t u hi' r3 (by omega) ht hu k hk hk'
    ·have e' : G' j = F j := by simp only [G', if_pos hlt', if_neg hm']
     rw [e'] at hk'
     rcases (p1 _ t hi').2.1 hto k hk with h | h
     ·exact apart j u hj' hm' k hk' h
     ·have := u.lt (h1 j u hj').1 k hk'; omega
    ·have e' : G' j = G (ts'.length + (j - its.length)) := by simp only [G', if_neg (show ¬ j < its.length by omega)]
     rw [e'] at hk'
     exact p2 _ _ t u hi' hj' (by omega) ht hu k hk hk'
end Hp
def tBlk (b : Nat) (e : TypeId) (c : List Value) : Thing :=
  { holds := fun w O => Blk w b e c ∧ O = [b]
    fr := fun h hf hn => ⟨h.1.fr hf (hn b (by rw [h.2]; simp)), h.2⟩
    lt := fun h k hk => by rw [h.2] at hk; simp only [List.mem_singleton] at hk; subst hk; exact h.1.lt }
def tSl {α : Type} (s : Sl) (e : TypeId) (n : Nat) (f : α → List Value) (l : List α) : Thing :=
  { holds := fun w O => SlF w s e n f l O
    fr := fun h hf hn => h.fr hf hn
    lt := fun h => h.lt }
def tRd {α : Type} (s : Sl) (n : Nat) (f : α → List Value) (l : List α) : Thing :=
  { holds := fun w O => SlR w s n f l O
    fr := fun h hf hn => h.fr hf hn
    lt := fun h => h.lt }
def tEmp : Thing :=
  { holds := fun w O => O = []
    fr := fun h _ _ => h
    lt := fun h k hk => by rw [h] at hk; cases hk }
def tStar (a b : Thing) : Thing :=
  { holds := fun w O => ∃ O1 O2, a.holds w O1 ∧ b.holds w O2 ∧ (∀ k ∈ O1, k ∉ O2) ∧ ∀ k, k ∈ O ↔ k ∈ O1 ∨ k ∈ O2
    fr := fun ⟨O1, O2, h1, h2, h3, h4⟩ hf hn => ⟨O1, O2, a.fr h1 hf (fun k hk => hn k ((h4 k).2 (.inl hk))), b.fr h2 hf (fun k hk => hn k ((h4 k).2 (.inr hk))), h3, h4⟩
    lt := fun ⟨O1, O2, h1, h2, h3, h4⟩ k hk => ((h4 k).1 hk).elim (a.lt h1 k) (b.lt h2 k) }
def tEx {α : Type} (f : α → Thing) : Thing :=
  { holds := fun w O => ∃ x, (f x).holds w O
    fr := fun ⟨x, h⟩ hf hn => ⟨x, (f x).fr h hf hn⟩
    lt := fun ⟨x, h⟩ => (f x).lt h }
def tAnd (p : Prop) (t : Thing) : Thing :=
  { holds := fun w O => p ∧ t.holds w O
    fr := fun ⟨x, h⟩ hf hn => ⟨x, t.fr h hf hn⟩
    lt := fun ⟨x, h⟩ => t.lt h }
def tAll : List Thing → Thing
 | [] => tEmp
 | t :: ts => tStar t (tAll ts)
theorem tAll_own : ∀ ts : List Thing, (tAll ts).own = true
 | [] => rfl
 | _ :: _ => rfl
theorem tAll_pick : ∀ {ts : List Thing} {k : Nat} {t : Thing} {w : World} {O : List Nat}, ts[k]? = some t → (tAll ts).holds w O →
  ∃ O1 O2, t.holds w O1 ∧ (tAll (ts.set k tEmp)).holds w O2 ∧ (∀ k ∈ O1, k ∉ O2) ∧ ∀ k, k ∈ O ↔ k ∈ O1 ∨ k ∈ O2
 | [], k, t, w, O, hk, h => by simp at hk
 | u :: ts, 0, t, w, O, hk, h => by
  simp only [List.getElem?_cons_zero, Option.some.injEq] at hk
  subst hk
  obtain ⟨O1, O2, h1, h2, h3, h4⟩ := h
  refine ⟨O1, O2, h1, ⟨[], O2, rfl, h2, by simp, by simp⟩, h3, h4⟩
 | u :: ts, k + 1, t, w, O, hk, h => by
  obtain ⟨O1, O2, h1, h2, h3, h4⟩ := h
  obtain ⟨P1, P2, g1, g2, g3, g4⟩ := tAll_pick (k := k) (t := t) (by simpa using hk) h2
  refine ⟨P1, O1 ++ P2, g1, ⟨O1, P2, h1, g2, fun k hk hk' => h3 k hk ((g4 k).2 (.inr hk')), by simp⟩, ?_, ?_⟩
  ·intro k hk hk'
   rcases List.mem_append.1 hk' with h | h
   ·exact h3 k h ((g4 k).2 (.inl hk))
   ·exact g3 k hk h
  ·intro k
   rw [h4, g4, List.mem_append]
   constructor
   ·rintro (h | h | h)
    ·exact .inr (.inl h)
    ·exact .inl h
    ·exact .inr (.inr h)
   ·rintro (h | h | h)
    ·exact .inr (.inl h)
    ·exact .inl h
    ·exact .inr (.inr h)
theorem tAll_put : ∀ {ts : List Thing} {k : Nat} {t : Thing} {w : World} {O1 O2 : List Nat}, ts[k]? = some tEmp → t.holds w O1 → (tAll ts).holds w O2 → (∀ k ∈ O1, k ∉ O2) → (tAll (ts.set k t)).holds w (O1 ++ O2)
 | [], k, t, w, O1, O2, hk, _, _, _ => by simp at hk
 | u :: ts, 0, t, w, O1, O2, hk, h1, h2, h3 => by
  simp only [List.getElem?_cons_zero, Option.some.injEq] at hk
  subst hk
  obtain ⟨P1, P2, g1, g2, g3, g4⟩ := h2
  have g1' : P1 = [] := g1
  subst g1'
  exact ⟨O1, P2, h1, g2, fun k hk hk' => h3 k hk ((g4 k).2 (.inr hk')), fun k => by rw [List.mem_append, g4]; simp⟩
 | u :: ts, k + 1, t, w, O1, O2, hk, h1, h2, h3 => by
  obtain ⟨P1, P2, g1, g2, g3, g4⟩ := h2
  have ih := tAll_put (k := k) (t := t) (by simpa using hk) h1 g2 (fun k hk hk' => h3 k hk ((g4 k).2 (.inr hk')))
  refine ⟨P1, O1 ++ P2, g1, ih, ?_, ?_⟩
  ·intro k hk hk'
   rcases List.mem_append.1 hk' with h | h
   ·exact h3 k h ((g4 k).2 (.inl hk))
   ·exact g3 k hk h
  ·intro k
   rw [List.mem_append, g4, List.mem_append]
   constructor
   ·rintro (h | h | h)
    ·exact .inr (.inl h)
    ·exact .inl h
    ·exact .inr (.inr h)
   ·rintro (h | h | h)
    ·exact .inr (.inl h)
    ·exact .inl h
    ·exact .inr (.inr h)
theorem tAll_append : ∀ {ts us : List Thing} {w : World} {O1 O2 : List Nat}, (tAll ts).holds w O1 → (tAll us).holds w O2 → (∀ k ∈ O1, k ∉ O2) → (tAll (ts ++ us)).holds w (O1 ++ O2)
 | [], us, w, O1, O2, h1, h2, _ => by
  have : O1 = [] := h1
  subst this
  simpa using h2
 | t :: ts, us, w, O1, O2, h1, h2, h3 => by
  obtain ⟨P1, P2, g1, g2, g3, g4⟩ := h1
  refine ⟨P1, P2 ++ O2, g1, tAll_append g2 h2 (fun k hk => h3 k ((g4 k).2 (.inr hk))), ?_, ?_⟩
  ·intro k hk hk'
   rcases List.mem_append.1 hk' with h | h
   ·exact g3 k hk h
   ·exact h3 k ((g4 k).2 (.inl hk)) h
  ·intro k
   rw [List.mem_append, g4, List.mem_append]
   exact or_assoc
namespace Hp
variable {S : List Nat} {w0 w : World} {its : List Thing}
theorem at_ {t : Thing} {i : Nat} (hi : (its[i]?).map Thing.holds = some t.holds) : ∃ u, its[i]? = some u ∧ u.holds = t.holds := by
 rw [Option.map_eq_some_iff] at hi
 exact hi
theorem see' (h : Hp S w0 w its) {t : Thing} {i : Nat} (hi : (its[i]?).map Thing.holds = some t.holds) : ∃ O, t.holds w O := by
 obtain ⟨u, h1, h2⟩ := at_ hi
 obtain ⟨O, hO⟩ := h.see h1
 exact ⟨O, by rw [← h2]; exact hO⟩
theorem split (h : Hp S w0 w its) {i : Nat} {a b : Thing} (hi : its[i]? = some (tStar a b)) (ha : a.own = true) (hb : b.own = true) : Hp S w0 w (its.set i a ++ [b]) := by
 obtain ⟨hfr, F, h1, h2⟩ := h
 have hlt := (List.getElem?_eq_some_iff.1 hi).1
 obtain ⟨⟨O1, O2, g1, g2, g3, g4⟩, q1, _⟩ := h1 i _ hi
 have q2 : ∀ k ∈ F i, k ∈ S ∨ w0.heap.size ≤ k := q1 rfl
 clear q1
 have key : ∀ (j : Nat) (u : Thing), (its.set i a ++ [b])[j]? = some u → (j < its.length ∧ j ≠ i ∧ its[j]? = some u) ∨ (j = i ∧ u = a) ∨ (j = its.length ∧ u = b) := by
  intro j u hj
  by_cases hl : j < its.length
  ·rw [List.getElem?_append_left (by simpa using hl), List.getElem?_set] at hj
   split at hj
   ·rename_i e; simp only [if_pos hlt, Option.some.injEq] at hj; exact .inr (.inl ⟨e.symm, hj.symm⟩)
   ·rename_i e; exact .inl ⟨hl, fun h => e h.symm, hj⟩
  ·rw [List.getElem?_append_right (by simp; omega)] at hj
   have : j - (its.set i a).length = 0 := by
    rcases Nat.eq_zero_or_pos (j - (its.set i a).length) with h | h
    ·exact h
    ·rw [List.getElem?_eq_none (by simp only [List.length_singleton]; omega)] at hj; cases hj
   rw [this] at hj
   simp only [List.getElem?_cons_zero, Option.some.injEq] at hj
   simp only [List.length_set] at this
   exact .inr (.inr ⟨by omega, hj.symm⟩)
 let F' : Nat → List Nat := fun j => if j = its.length then O2 else if j = i then O1 else F j
 have e0 : ∀ j, j < its.length → j ≠ i → F' j = F j := fun j h1 h2 => by simp only [F', if_neg (show ¬ j = its.length by omega), if_neg h2]
 have e1 : F' i = O1 := by simp only [F', if_neg (show ¬ i = its.length by omega), if_true]
 have e2 : F' its.length = O2 := by simp only [F', if_true]
 have apart : ∀ j u, j ≠ i → its[j]? = some u → u.own = true → ∀ k ∈ F j, k ∉ F i := fun j u hne hj huo => h2 j i u _ hj hi hne huo rfl
 refine ⟨hfr, F', ?_, ?_⟩
 ·intro j u hj
  rcases key j u hj with ⟨hl, hne, hj'⟩ | ⟨rfl, rfl⟩ | ⟨rfl, rfl⟩
  ·rw [e0 j hl hne]; exact h1 j u hj'
  ·rw [e1]; exact ⟨g1, fun _ k hk => q2 k ((g4 k).2 (.inl hk)), fun h => by rw [ha] at h; cases h⟩
  ·rw [e2]; exact ⟨g2, fun _ k hk => q2 k ((g4 k).2 (.inr hk)), fun h => by rw [hb] at h; cases h⟩
 ·intro j j' u v hj hj' hne hu hv k hk hk'
  rcases key j u hj with ⟨hl, hn, hjj⟩ | ⟨rfl, rfl⟩ | ⟨rfl, rfl⟩
  ·rw [e0 j hl hn] at hk
   rcases key j' v hj' with ⟨hl', hn', hjj'⟩ | ⟨rfl, rfl⟩ | ⟨rfl, rfl⟩
   ·rw [e0 j' hl' hn'] at hk'; exact h2 j j' u v hjj hjj' hne hu hv k hk hk'
   ·rw [e1] at hk'; exact apart j u hn hjj hu k hk ((g4 k).2 (.inl hk'))
   ·rw [e2] at hk'; exact apart j u hn hjj hu k hk ((g4 k).2 (.inr hk'))
  ·rw [e1] at hk
   rcases key j' v hj' with ⟨hl', hn', hjj'⟩ | ⟨rfl, rfl⟩ | ⟨rfl, rfl⟩
   ·rw [e0 j' hl' hn'] at hk'; exact apart j' v hn' hjj' hv k hk' ((g4 k).2 (.inl hk))
   ·exact absurd rfl hne
   ·rw [e2] at hk'; exact g3 k hk hk'
  ·rw [e2] at hk
   rcases key j' v hj' with ⟨hl', hn', hjj'⟩ | ⟨rfl, rfl⟩ | ⟨rfl, rfl⟩
   ·rw [e0 j' hl' hn'] at hk'; exact apart j' v hn' hjj' hv k hk' ((g4 k).2 (.inr hk))
   ·rw [e1] at hk'; exact g3 k hk' hk
   ·exact absurd rfl hne
theorem join (h : Hp S w0 w its) {i j : Nat} (hne : i ≠ j) {a b c : Thing} (hi : its[i]? = some a) (hj : its[j]? = some b) (ha : a.own = true) (hb : b.own = true) (hc : c.own = true)
  (himp : ∀ w O1 O2, a.holds w O1 → b.holds w O2 → (∀ k ∈ O1, k ∉ O2) → c.holds w (O1 ++ O2)) : Hp S w0 w ((its.set i c).set j tEmp) := by
 obtain ⟨hfr, F, h1, h2⟩ := h
 have hlt := (List.getElem?_eq_some_iff.1 hi).1
 have hlt' := (List.getElem?_eq_some_iff.1 hj).1
 have key : ∀ (n : Nat) (u : Thing), ((its.set i c).set j tEmp)[n]? = some u → (n ≠ i ∧ n ≠ j ∧ its[n]? = some u) ∨ (n = i ∧ u = c) ∨ (n = j ∧ u = tEmp) := by
  intro n u hn
  rw [List.getElem?_set] at hn
  split at hn
  ·rename_i e
   simp only [List.length_set, if_pos hlt', Option.some.injEq] at hn
   exact .inr (.inr ⟨e.symm, hn.symm⟩)
  ·rename_i e
   rw [List.getElem?_set] at hn
   split at hn
   ·rename_i e'
    simp only [if_pos hlt, Option.some.injEq] at hn
    exact .inr (.inl ⟨e'.symm, hn.symm⟩)
   ·rename_i e'
    exact .inl ⟨fun h => e' h.symm, fun h => e h.symm, hn⟩
 obtain ⟨a1, a2, _⟩ := h1 i a hi
 obtain ⟨b1, b2, _⟩ := h1 j b hj
 let F' : Nat → List Nat := fun n => if n = i then F i ++ F j else if n = j then [] else F n
 have e0 : ∀ n, n ≠ i → n ≠ j → F' n = F n := fun n h1 h2 => by simp only [F', if_neg h1, if_neg h2]
 have e1 : F' i = F i ++ F j := by simp only [F', if_true]
 have e2 : F' j = [] := by simp only [F', if_neg hne.symm, if_true]
 have dis : ∀ k ∈ F i, k ∉ F j := h2 i j a b hi hj hne ha hb
 refine ⟨hfr, F', ?_, ?_⟩
 ·intro n u hn
  rcases key n u hn with ⟨q1, q2, hn'⟩ | ⟨rfl, rfl⟩ | ⟨rfl, rfl⟩
  ·rw [e0 n q1 q2]; exact h1 n u hn'
  ·rw [e1]
   refine ⟨himp w _ _ a1 b1 dis, fun _ k hk => ?_, fun h => by rw [hc] at h; cases h⟩
   rcases List.mem_append.1 hk with hk | hk
   ·exact a2 ha k hk
   ·exact b2 hb k hk
  ·rw [e2]; exact ⟨rfl, by simp, by simp⟩
 ·intro n m u v hn hm hnm hu hv k hk hk'
  rcases key n u hn with ⟨q1, q2, hn'⟩ | ⟨rfl, rfl⟩ | ⟨rfl, rfl⟩
  ·rw [e0 n q1 q2] at hk
   rcases key m v hm with ⟨r1, r2, hm'⟩ | ⟨rfl, rfl⟩ | ⟨rfl, rfl⟩
   ·rw [e0 m r1 r2] at hk'; exact h2 n m u v hn' hm' hnm hu hv k hk hk'
   ·rw [e1] at hk'
    rcases List.mem_append.1 hk' with hk' | hk'
    ·exact h2 n _ u a hn' hi q1 hu ha k hk hk'
    ·exact h2 n _ u b hn' hj q2 hu hb k hk hk'
   ·rw [e2] at hk'; cases hk'
  ·rw [e1] at hk
   rcases key m v hm with ⟨r1, r2, hm'⟩ | ⟨rfl, rfl⟩ | ⟨rfl, rfl⟩
   ·rw [e0 m r1 r2] at hk'
    rcases List.mem_append.1 hk with hk | hk
    ·exact h2 m _ v a hm' hi r1 hv ha k hk' hk
    ·exact h2 m _ v b hm' hj r2 hv hb k hk' hk
   ·exact absurd rfl hnm
   ·rw [e2] at hk'; cases hk'
  ·rw [e2] at hk; cases hk
theorem joinStar (h : Hp S w0 w its) {i j : Nat} (hne : i ≠ j) {a b : Thing} (hi : its[i]? = some a) (hj : its[j]? = some b) (ha : a.own = true) (hb : b.own = true) : Hp S w0 w ((its.set i (tStar a b)).set j tEmp) :=
 h.join hne hi hj ha hb rfl fun w O1 O2 h1 h2 h3 => ⟨O1, O2, h1, h2, h3, by simp⟩
theorem openEx (h : Hp S w0 w its) {i : Nat} {α : Type} {f : α → Thing} (hi : its[i]? = some (tEx f)) (ho : ∀ x, (f x).own = true) : ∃ x, Hp S w0 w (its.set i (f x)) := by
 obtain ⟨O, ⟨x, hO⟩, back⟩ := h.step hi rfl
 exact ⟨x, back (Fr.refl _ _) hO (fun k hk => .inl hk) (ho x)⟩
theorem openAnd (h : Hp S w0 w its) {i : Nat} {p : Prop} {t : Thing} (hi : its[i]? = some (tAnd p t)) (ho : t.own = true) : p ∧ Hp S w0 w (its.set i t) := by
 obtain ⟨O, ⟨x, hO⟩, back⟩ := h.step hi rfl
 exact ⟨x, back (Fr.refl _ _) hO (fun k hk => .inl hk) ho⟩
theorem putEx (h : Hp S w0 w its) {i : Nat} {α : Type} {f : α → Thing} (x : α) (hi : its[i]? = some (f x)) (ho : (f x).own = true) : Hp S w0 w (its.set i (tEx f)) :=
 h.weak hi ho (fun w O h => ⟨x, h⟩) rfl
theorem putAnd (h : Hp S w0 w its) {i : Nat} {p : Prop} {t : Thing} (hp : p) (hi : its[i]? = some t) (ho : t.own = true) : Hp S w0 w (its.set i (tAnd p t)) :=
 h.weak hi ho (fun w O h => ⟨hp, h⟩) rfl
theorem pick (h : Hp S w0 w its) {i k : Nat} {ts : List Thing} {t : Thing} (hi : its[i]? = some (tAll ts)) (hk : ts[k]? = some t) (ho : t.own = true) : Hp S w0 w (its.set i (tAll (ts.set k tEmp)) ++ [t]) := by
 have h1 := h.weak (t' := tStar (tAll (ts.set k tEmp)) t) hi (tAll_own ts) (fun w O hO => by
  obtain ⟨O1, O2, g1, g2, g3, g4⟩ := tAll_pick hk hO
  exact ⟨O2, O1, g2, g1, fun k hk hk' => g3 k hk' hk, fun k => by rw [g4]; exact or_comm⟩) rfl
 have hlt := (List.getElem?_eq_some_iff.1 hi).1
 have h2 := h1.split (i := i) (a := tAll (ts.set k tEmp)) (b := t) (by simp [hlt]) (tAll_own _) ho
 simpa using h2
end Hp
end Go.Den
end
