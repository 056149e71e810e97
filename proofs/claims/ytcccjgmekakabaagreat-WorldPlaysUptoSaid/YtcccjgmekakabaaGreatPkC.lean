/-
  Part 3 of the proof:WorldPlays of layer 6 is true of the given program for every input that its guards let in (of bulk at most 1048576).
-/
import Derived.Test.YtcccjgmekakabaaGreatPkB
import Derived.Test.YtcccjgmekakabaaGreatProg
set_option linter.unusedSimpArgs false
set_option linter.unusedVariables false
set_option maxRecDepth 100000
open Go.IntKind (i64 u64 u8)
section
namespace Go.Proofs.YtcccjgmekakabaaGreat.F
open Go Go.Den Go.Proofs
theorem cr:A6 Tryz.prog:=⟨by kernel_rfl,by kernel_rfl⟩
def c2 (w:World) (R:World->Prop):Prop:=
 ax Tryz.prog 2 [] [] w R
def c3 (kinds b:Sl) (at_ by_:Int) (w:World) (R:Bool->World->Prop):Prop:=
 ax Tryz.prog 3 [.slice kinds.a kinds.len kinds.cap,.slice b.a b.len b.cap,.int .i64 at_,.int .i64 by_] [.one .b] w R
def c4 (one two jC:Sl) (w:World) (R:Bool->World->Prop):Prop:=
 ax Tryz.prog 4 [.slice one.a one.len one.cap,.slice two.a two.len two.cap,.slice jC.a jC.len jC.cap] [.one .b] w R
def c5 (w:World) (R:Bool->World->Prop):Prop:=
 ax Tryz.prog 5 [] [.one .b] w R
def c6 (kinds l:Sl) (b:ByteArray) (w:World) (R:Bool->World->Prop):Prop:=
 ax Tryz.prog 6 [.slice kinds.a kinds.len kinds.cap,.slice l.a l.len l.cap,.string b] [.one .b] w R
def c7 (c n_:Int) (w:World) (R:Int->World->Prop):Prop:=
 ax Tryz.prog 7 [.int .i64 c,.int .i64 n_] [.one (.i .i64)] w R
def c8 (kinds:Sl) (w:World) (R:Option Addr->Bool->World->Prop):Prop:=
 ax Tryz.prog 8 [.slice kinds.a kinds.len kinds.cap] [.one .p,.one .b] w R
def c9 (p:Option Addr) (dj tg:Int) (iR th:Int) (bA cD bP:Int) (aF bf:Sl) (w:World) (R:Bool->World->Prop):Prop:=
 ax Tryz.prog 9 [.pointer p,.agg #[.int .i64 dj,.int .i64 tg,.int .i64 iR,.int .i64 th,.int .i64 bA,.int .i64 cD,.int .i64 bP,.slice aF.a aF.len aF.cap,.slice bf.a bf.len bf.cap]] [.one .b] w R
def Z2 (b:Option Addr) (w:World) (R:Bool->World->Prop):Prop:=
 ax Tryz.prog 10 [.pointer b] [.one .b] w R
def Qs (w_:Option Addr) (w:World) (R:Sl->World->Prop):Prop:=
 ax Tryz.prog 11 [.pointer w_] [.one .sl] w R
def Z3 (p:Option Addr) (w:World) (R:Bool->World->Prop):Prop:=
 ax Tryz.prog 12 [.pointer p] [.one .b] w R
def Qt (kinds:Sl) (w:World) (R:Option Addr->Int->World->Prop):Prop:=
 ax Tryz.prog 13 [.slice kinds.a kinds.len kinds.cap] [.one .p,.one (.i .i64)] w R
def c14 (w:World) (R:Sl->World->Prop):Prop:=
 ax Tryz.prog 14 [] [.one .sl] w R
def VU (w_:Option Addr) (parts:Sl) (w:World) (R:Int->Int->Int->World->Prop):Prop:=
 ax Tryz.prog 15 [.pointer w_,.slice parts.a parts.len parts.cap] [.agg [.i .i64,.i .i64],.one (.i .i64)] w R
def VV (w_:Option Addr) (ag an cg:Int) (aC:Sl) (w:World) (R:Int->World->Prop):Prop:=
 ax Tryz.prog 16 [.pointer w_,.agg #[.int .i64 ag,.int .i64 an],.agg #[.int .i64 cg,.slice aC.a aC.len aC.cap]] [.one (.i .i64)] w R
def Z4 (w_:Option Addr) (ag an:Int) (w:World) (R:Int->World->Prop):Prop:=
 ax Tryz.prog 17 [.pointer w_,.agg #[.int .i64 ag,.int .i64 an]] [.one (.i .i64)] w R
def Z5 (l:Sl) (w:World) (R:Sl->World->Prop):Prop:=
 ax Tryz.prog 18 [.slice l.a l.len l.cap] [.one .sl] w R
def c19 (kinds b:Sl) (w:World) (R:Option Addr->Int->World->Prop):Prop:=
 ax Tryz.prog 19 [.slice kinds.a kinds.len kinds.cap,.slice b.a b.len b.cap] [.one .p,.one (.i .i64)] w R
def W3 (l was:Sl) (w:World) (R:Bool->World->Prop):Prop:=
 ax Tryz.prog 20 [.slice l.a l.len l.cap,.slice was.a was.len was.cap] [.one .b] w R
def c22 (w_:Option Addr) (ag an:Int) (w:World) (R:Int->World->Prop):Prop:=
 ax Tryz.prog 22 [.pointer w_,.agg #[.int .i64 ag,.int .i64 an]] [.one (.i .i64)] w R
def Z6 (p:Option Addr) (l was:Sl) (w:World) (R:Bool->World->Prop):Prop:=
 ax Tryz.prog 23 [.pointer p,.slice l.a l.len l.cap,.slice was.a was.len was.cap] [.one .b] w R
def c24 (l:Sl) (w:World) (R:Sl->World->Prop):Prop:=
 ax Tryz.prog 24 [.slice l.a l.len l.cap] [.one .sl] w R
def c25 (kinds:Sl) (w:World) (R:Option Addr->Int->World->Prop):Prop:=
 ax Tryz.prog 25 [.slice kinds.a kinds.len kinds.cap] [.one .p,.one (.i .i64)] w R
def c26 (l:Sl) (w:World) (R:World->Prop):Prop:=
 ax Tryz.prog 26 [.slice l.a l.len l.cap] [] w R
def VW (l:Sl) (w:World) (R:Sl->World->Prop):Prop:=
 ax Tryz.prog 27 [.slice l.a l.len l.cap] [.one .sl] w R
def VX (p:Option Addr) (dj tg:Int) (iR th:Int) (bA cD bP:Int) (aF bf:Sl) (w:World) (R:Int->Int->World->Prop):Prop:=
 ax Tryz.prog 28 [.pointer p,.agg #[.int .i64 dj,.int .i64 tg,.int .i64 iR,.int .i64 th,.int .i64 bA,.int .i64 cD,.int .i64 bP,.slice aF.a aF.len aF.cap,.slice bf.a bf.len bf.cap]] [.agg [.i .i64,.i .i64]] w R
def Z7 (p:Option Addr) (dj tg:Int) (iR th:Int) (bA cD bP:Int) (aF bf:Sl) (add:Bool) (w:World) (R:Bool->World->Prop):Prop:=
 ax Tryz.prog 29 [.pointer p,.agg #[.int .i64 dj,.int .i64 tg,.int .i64 iR,.int .i64 th,.int .i64 bA,.int .i64 cD,.int .i64 bP,.slice aF.a aF.len aF.cap,.slice bf.a bf.len bf.cap],.bool add] [.one .b] w R
def c30 (w_:Option Addr) (ag an kind:Int) (w:World) (R:Int->World->Prop):Prop:=
 ax Tryz.prog 30 [.pointer w_,.agg #[.int .i64 ag,.int .i64 an],.int .i64 kind] [.one (.i .i64)] w R
def c31 (w_:Option Addr) (ag an kind:Int) (w:World) (R:Int->World->Prop):Prop:=
 ax Tryz.prog 31 [.pointer w_,.agg #[.int .i64 ag,.int .i64 an],.int .i64 kind] [.one (.i .i64)] w R
def c32 (p:Option Addr) (dj tg:Int) (iR th:Int) (bA cD bP:Int) (aF bf:Sl) (w:World) (R:Bool->World->Prop):Prop:=
 ax Tryz.prog 32 [.pointer p,.agg #[.int .i64 dj,.int .i64 tg,.int .i64 iR,.int .i64 th,.int .i64 bA,.int .i64 cD,.int .i64 bP,.slice aF.a aF.len aF.cap,.slice bf.a bf.len bf.cap]] [.one .b] w R
def c33 (w_:Option Addr) (w:World) (R:Option Addr->World->Prop):Prop:=
 ax Tryz.prog 33 [.pointer w_] [.one .p] w R
def Z8 (p w_:Option Addr) (w:World) (R:World->Prop):Prop:=
 ax Tryz.prog 34 [.pointer p,.pointer w_] [] w R
def c35 (p:Option Addr) (w:World) (R:Bool->World->Prop):Prop:=
 ax Tryz.prog 35 [.pointer p] [.one .b] w R
def Z9 (p:Option Addr) (w:World) (R:Sl->Sl->World->Prop):Prop:=
 ax Tryz.prog 36 [.pointer p] [.one .sl,.one .sl] w R
def c37 (b l:Sl) (w:World) (R:Sl->World->Prop):Prop:=
 ax Tryz.prog 37 [.slice b.a b.len b.cap,.slice l.a l.len l.cap] [.one .sl] w R
def c38 (l:Sl) (w:World) (R:Sl->World->Prop):Prop:=
 ax Tryz.prog 38 [.slice l.a l.len l.cap] [.one .sl] w R
def VY (w_:Option Addr) (w:World) (R:Sl->World->Prop):Prop:=
 ax Tryz.prog 39 [.pointer w_] [.one .sl] w R
def c40 (b:Sl) (n_:Int) (w:World) (R:Sl->World->Prop):Prop:=
 ax Tryz.prog 40 [.slice b.a b.len b.cap,.int .u64 n_] [.one .sl] w R
def c41 (b:Sl) (n_:Int) (w:World) (R:Sl->World->Prop):Prop:=
 ax Tryz.prog 41 [.slice b.a b.len b.cap,.int .i64 n_] [.one .sl] w R
def c42 (w_:Option Addr) (w:World) (R:Sl->World->Prop):Prop:=
 ax Tryz.prog 42 [.pointer w_] [.one .sl] w R
def c43 (w_:Option Addr) (w:World) (R:Option Nat->World->Prop):Prop:=
 ax Tryz.prog 43 [.pointer w_] [.one .m] w R
def c44 (w_:Option Addr) (w:World) (R:Sl->World->Prop):Prop:=
 ax Tryz.prog 44 [.pointer w_] [.one .sl] w R
def c45 (w_:Option Addr) (w:World) (R:Sl->World->Prop):Prop:=
 ax Tryz.prog 45 [.pointer w_] [.one .sl] w R
def c46 (w_:Option Addr) (w:World) (R:Sl->World->Prop):Prop:=
 ax Tryz.prog 46 [.pointer w_] [.one .sl] w R
def R3 (a b:Sl) (w:World) (R:Bool->World->Prop):Prop:=
 ax Tryz.prog 47 [.slice a.a a.len a.cap,.slice b.a b.len b.cap] [.one .b] w R
def c48 (a:Option Nat) (b:Sl) (w:World) (R:Bool->World->Prop):Prop:=
 ax Tryz.prog 48 [.map a,.slice b.a b.len b.cap] [.one .b] w R
def VZ (a b:Sl) (w:World) (R:Bool->World->Prop):Prop:=
 ax Tryz.prog 49 [.slice a.a a.len a.cap,.slice b.a b.len b.cap] [.one .b] w R
def c50 (b:Option Addr) (l:Sl) (w:World) (R:World->Prop):Prop:=
 ax Tryz.prog 50 [.pointer b,.slice l.a l.len l.cap] [] w R
def V0 (b:Option Addr) (w:World) (R:World->Prop):Prop:=
 ax Tryz.prog 51 [.pointer b] [] w R
def c52 (kinds:Sl) (w:World) (R:Bool->World->Prop):Prop:=
 ax Tryz.prog 52 [.slice kinds.a kinds.len kinds.cap] [.one .b] w R
def V1 (aO:Int) (w:World) (R:Option Addr->Int->World->Prop):Prop:=
 ax Tryz.prog 53 [.int .i64 aO] [.one .p,.one (.i .i64)] w R
def V2 (kinds:Sl) (w:World) (R:Sl->World->Prop):Prop:=
 ax Tryz.prog 54 [.slice kinds.a kinds.len kinds.cap] [.one .sl] w R
def W4 (w_:Option Addr) (kind:Int) (w:World) (R:Int->Bool->World->Prop):Prop:=
 ax Tryz.prog 55 [.pointer w_,.int .i64 kind] [.one (.i .i64),.one .b] w R
def R4 (s:Sl) (i:Int) (v:Sl) (w:World) (R:Sl->World->Prop):Prop:=
 ax Tryz.prog 56 [.slice s.a s.len s.cap,.int .i64 i,.slice v.a v.len v.cap] [.one .sl] w R
def M6 (w_:Option Addr) (set kind:Int) (w:World) (R:Int->World->Prop):Prop:=
 ax Tryz.prog 57 [.pointer w_,.int .i64 set,.int .i64 kind] [.one (.i .i64)] w R
def V3 (p:Option Addr) (w:World) (R:Int->Int->Int->World->Prop):Prop:=
 ax Tryz.prog 58 [.pointer p] [.agg [.i .i64,.i .i64],.one (.i .i64)] w R
def R5 (w_:Option Addr) (ag an set:Int) (values:Sl) (w:World) (R:World->Prop):Prop:=
 ax Tryz.prog 59 [.pointer w_,.agg #[.int .i64 ag,.int .i64 an],.int .i64 set,.slice values.a values.len values.cap] [] w R
def R6 (w_:Option Addr) (ag an kind:Int) (w:World) (R:Int->Bool->Int->Int->World->Prop):Prop:=
 ax Tryz.prog 60 [.pointer w_,.agg #[.int .i64 ag,.int .i64 an],.int .i64 kind] [.one (.i .i64),.one .b,.one (.i .i64),.one (.i .i64)] w R
def V4 (w_:Option Addr) (ag an:Int) (w:World) (R:Sl->World->Prop):Prop:=
 ax Tryz.prog 61 [.pointer w_,.agg #[.int .i64 ag,.int .i64 an]] [.one .sl] w R
def c62 (p:Option Addr) (ag an:Int) (w:World) (R:Int->World->Prop):Prop:=
 ax Tryz.prog 62 [.pointer p,.agg #[.int .i64 ag,.int .i64 an]] [.one (.i .i64)] w R
def c63 (b:Sl) (w:World) (R:Sl->Sl->Bool->World->Prop):Prop:=
 ax Tryz.prog 63 [.slice b.a b.len b.cap] [.one .sl,.one .sl,.one .b] w R
def c64 (aO:Int) (au free:Sl) (w:World) (R:Option Addr->Int->World->Prop):Prop:=
 ax Tryz.prog 64 [.int .i64 aO,.slice au.a au.len au.cap,.slice free.a free.len free.cap] [.one .p,.one (.i .i64)] w R
def W5 (p:Option Addr) (w:World) (R:Sl->World->Prop):Prop:=
 ax Tryz.prog 65 [.pointer p] [.one .sl] w R
def W6 (b:Sl) (w:World) (R:Int->Int->World->Prop):Prop:=
 ax Tryz.prog 66 [.slice b.a b.len b.cap] [.one (.i .u64),.one (.i .i64)] w R
def c67 (b:Sl) (w:World) (R:Int->Int->World->Prop):Prop:=
 ax Tryz.prog 67 [.slice b.a b.len b.cap] [.one (.i .i64),.one (.i .i64)] w R
def c68 (kinds:Sl) (w:World) (R:Bool->World->Prop):Prop:=
 ax Tryz.prog 68 [.slice kinds.a kinds.len kinds.cap] [.one .b] w R
def R7 (w_:Option Addr) (ag an:Int) (w:World) (R:Int->World->Prop):Prop:=
 ax Tryz.prog 72 [.pointer w_,.agg #[.int .i64 ag,.int .i64 an]] [.one (.i .i64)] w R
def c73 (p:Option Addr) (ag an:Int) (w:World) (R:Int->World->Prop):Prop:=
 ax Tryz.prog 73 [.pointer p,.agg #[.int .i64 ag,.int .i64 an]] [.one (.i .i64)] w R
def c74 (w_:Option Addr) (parts:Sl) (w:World) (R:Int->Int->Int->World->Prop):Prop:=
 ax Tryz.prog 74 [.pointer w_,.slice parts.a parts.len parts.cap] [.agg [.i .i64,.i .i64],.one (.i .i64)] w R
def c75 (l was:Sl) (w:World) (R:Bool->World->Prop):Prop:=
 ax Tryz.prog 75 [.slice l.a l.len l.cap,.slice was.a was.len was.cap] [.one .b] w R
def c76 (l:Sl) (w:World) (R:Sl->World->Prop):Prop:=
 ax Tryz.prog 76 [.slice l.a l.len l.cap] [.one .sl] w R
def c77 (aO:Int) (w:World) (R:Option Addr->Int->World->Prop):Prop:=
 ax Tryz.prog 77 [.int .i64 aO] [.one .p,.one (.i .i64)] w R
def c78 (kinds:Sl) (w:World) (R:Sl->World->Prop):Prop:=
 ax Tryz.prog 78 [.slice kinds.a kinds.len kinds.cap] [.one .sl] w R
def W7 (l:Sl) (w:World) (R:Sl->World->Prop):Prop:=
 ax Tryz.prog 79 [.slice l.a l.len l.cap] [.one .sl] w R
def c80 (w_:Option Addr) (ag an cg:Int) (aC:Sl) (w:World) (R:Int->World->Prop):Prop:=
 ax Tryz.prog 80 [.pointer w_,.agg #[.int .i64 ag,.int .i64 an],.agg #[.int .i64 cg,.slice aC.a aC.len aC.cap]] [.one (.i .i64)] w R
def c81 (w_:Option Addr) (ag an cg:Int) (aC:Sl) (w:World) (R:Int->World->Prop):Prop:=
 ax Tryz.prog 81 [.pointer w_,.agg #[.int .i64 ag,.int .i64 an],.agg #[.int .i64 cg,.slice aC.a aC.len aC.cap]] [.one (.i .i64)] w R
def c82 (w_:Option Addr) (ag an cg:Int) (aC:Sl) (w:World) (R:Int->World->Prop):Prop:=
 ax Tryz.prog 82 [.pointer w_,.agg #[.int .i64 ag,.int .i64 an],.agg #[.int .i64 cg,.slice aC.a aC.len aC.cap]] [.one (.i .i64)] w R
def c83 (l was:Sl) (w:World) (R:Bool->World->Prop):Prop:=
 ax Tryz.prog 83 [.slice l.a l.len l.cap,.slice was.a was.len was.cap] [.one .b] w R
def c84 (s:Sl) (i j:Int) (w:World) (R:Sl->World->Prop):Prop:=
 ax Tryz.prog 84 [.slice s.a s.len s.cap,.int .i64 i,.int .i64 j] [.one .sl] w R
def W8 (w_:Option Addr) (ag an kind:Int) (w:World) (R:Int->Int->Int->World->Prop):Prop:=
 ax Tryz.prog 85 [.pointer w_,.agg #[.int .i64 ag,.int .i64 an],.int .i64 kind] [.one (.i .i64),.one (.i .i64),.one (.i .i64)] w R
def c86 (w_:Option Addr) (ag an kind:Int) (w:World) (R:Int->Sl->Int->World->Prop):Prop:=
 ax Tryz.prog 86 [.pointer w_,.agg #[.int .i64 ag,.int .i64 an],.int .i64 kind] [.agg [.i .i64,.sl],.one (.i .i64)] w R
def c87 (w_:Option Addr) (ag an:Int) (w:World) (R:Int->Int->Sl->Int->World->Prop):Prop:=
 ax Tryz.prog 87 [.pointer w_,.agg #[.int .i64 ag,.int .i64 an]] [.agg [.i .i64,.i .i64,.sl],.one (.i .i64)] w R
def c88 (w_:Option Addr) (ag an kind:Int) (w:World) (R:Int->Sl->Int->World->Prop):Prop:=
 ax Tryz.prog 88 [.pointer w_,.agg #[.int .i64 ag,.int .i64 an],.int .i64 kind] [.agg [.i .i64,.sl],.one (.i .i64)] w R
def c89 (w_:Option Addr) (ag an:Int) (w:World) (R:Int->Int->Sl->Int->World->Prop):Prop:=
 ax Tryz.prog 89 [.pointer w_,.agg #[.int .i64 ag,.int .i64 an]] [.agg [.i .i64,.i .i64,.sl],.one (.i .i64)] w R
def c90 (w_:Option Addr) (ag an:Int) (w:World) (R:Bool->World->Prop):Prop:=
 ax Tryz.prog 90 [.pointer w_,.agg #[.int .i64 ag,.int .i64 an]] [.one .b] w R
def W9 (a b:Sl) (w:World) (R:Bool->World->Prop):Prop:=
 ax Tryz.prog 91 [.slice a.a a.len a.cap,.slice b.a b.len b.cap] [.one .b] w R
def c92 (w_:Option Addr) (ag an:Int) (w:World) (R:Bool->World->Prop):Prop:=
 ax Tryz.prog 92 [.pointer w_,.agg #[.int .i64 ag,.int .i64 an]] [.one .b] w R
def Xa (b:Option Addr) (l:Sl) (w:World) (R:World->Prop):Prop:=
 ax Tryz.prog 93 [.pointer b,.slice l.a l.len l.cap] [] w R
def Xb (b:Option Addr) (l:Sl) (w:World) (R:World->Prop):Prop:=
 ax Tryz.prog 94 [.pointer b,.slice l.a l.len l.cap] [] w R
def c95 (p:Option Addr) (w:World) (R:Option Addr->World->Prop):Prop:=
 ax Tryz.prog 95 [.pointer p] [.one .p] w R
def c96 (t:Option Addr) (w:World) (R:Option Addr->World->Prop):Prop:=
 ax Tryz.prog 96 [.pointer t] [.one .p] w R
def R8 (s:Sl) (w:World) (R:Sl->World->Prop):Prop:=
 ax Tryz.prog 97 [.slice s.a s.len s.cap] [.one .sl] w R
def c98 (b:Sl) (w:World) (R:Sl->World->Prop):Prop:=
 ax Tryz.prog 98 [.slice b.a b.len b.cap] [.one .sl] w R
def c99 (l:Sl) (w:World) (R:Sl->World->Prop):Prop:=
 ax Tryz.prog 99 [.slice l.a l.len l.cap] [.one .sl] w R
def M7 (w_:Option Addr) (ag an:Int) (w:World) (R:Int->Int->Sl->World->Prop):Prop:=
 ax Tryz.prog 100 [.pointer w_,.agg #[.int .i64 ag,.int .i64 an]] [.agg [.i .i64,.i .i64,.sl]] w R
def Ai (b:Sl) (n_:Int) (w:World) (R:Sl->World->Prop):Prop:=
 ax Tryz.prog 101 [.slice b.a b.len b.cap,.int .u64 n_] [.one .sl] w R
def GH (n_:Int) (w:World) (R:Int->World->Prop):Prop:=
 ax Tryz.prog 102 [.int .i64 n_] [.one (.i .u64)] w R
def GI (t:Option Addr) (w:World) (R:Int->World->Prop):Prop:=
 ax Tryz.prog 103 [.pointer t] [.one (.i .i64)] w R
def M8 (l:Sl) (w:World) (R:Int->World->Prop):Prop:=
 ax Tryz.prog 104 [.slice l.a l.len l.cap] [.one (.i .i64)] w R
def R9 (w_:Option Addr) (w:World) (R:Sl->World->Prop):Prop:=
 ax Tryz.prog 105 [.pointer w_] [.one .sl] w R
def DM (b:Sl) (n_:Int) (w:World) (R:Sl->World->Prop):Prop:=
 ax Tryz.prog 106 [.slice b.a b.len b.cap,.int .u64 n_] [.one .sl] w R
def GJ (b:Sl) (n_:Int) (w:World) (R:Sl->World->Prop):Prop:=
 ax Tryz.prog 107 [.slice b.a b.len b.cap,.int .i64 n_] [.one .sl] w R
def M9 (n_:Int) (w:World) (R:Int->World->Prop):Prop:=
 ax Tryz.prog 108 [.int .i64 n_] [.one (.i .i64)] w R
def Na (l:Sl) (w:World) (R:Bool->World->Prop):Prop:=
 ax Tryz.prog 109 [.slice l.a l.len l.cap] [.one .b] w R
def Nb (s:Sl) (w:World) (R:Sl->World->Prop):Prop:=
 ax Tryz.prog 110 [.slice s.a s.len s.cap] [.one .sl] w R
def Sa (s:Sl) (w:World) (R:Sl->World->Prop):Prop:=
 ax Tryz.prog 111 [.slice s.a s.len s.cap] [.one .sl] w R
def ace (s:Sl) (r:Int) (w:World) (R:World->Prop):Prop:=
 ax Tryz.prog 113 [.slice s.a s.len s.cap,.int .i64 r] [] w R
def Sb (w_:Option Addr) (set:Int) (w:World) (R:Option Addr->World->Prop):Prop:=
 ax Tryz.prog 114 [.pointer w_,.int .i64 set] [.one .p] w R
def Sc (t:Option Addr) (ag an:Int) (values:Sl) (w:World) (R:Int->Int->World->Prop):Prop:=
 ax Tryz.prog 115 [.pointer t,.agg #[.int .i64 ag,.int .i64 an],.slice values.a values.len values.cap] [.one (.i .i64),.one (.i .i64)] w R
def DN (p:Option Addr) (ag an:Int) (w:World) (R:Bool->World->Prop):Prop:=
 ax Tryz.prog 116 [.pointer p,.agg #[.int .i64 ag,.int .i64 an]] [.one .b] w R
def IZ (t:Option Addr) (row:Int) (w:World) (R:Int->Int->Sl->Int->World->Prop):Prop:=
 ax Tryz.prog 117 [.pointer t,.int .i64 row] [.agg [.i .i64,.i .i64],.one .sl,.one (.i .i64)] w R
def DO (t:Option Addr) (ag an:Int) (w:World) (R:Int->World->Prop):Prop:=
 ax Tryz.prog 118 [.pointer t,.agg #[.int .i64 ag,.int .i64 an]] [.one (.i .i64)] w R
def Sd (t:Option Addr) (row:Int) (w:World) (R:Int->Int->Bool->Int->World->Prop):Prop:=
 ax Tryz.prog 119 [.pointer t,.int .i64 row] [.agg [.i .i64,.i .i64],.one .b,.one (.i .i64)] w R
def Se (b:Sl) (aO:Int) (w:World) (R:Sl->Int->World->Prop):Prop:=
 ax Tryz.prog 120 [.slice b.a b.len b.cap,.int .i64 aO] [.one .sl,.one (.i .i64)] w R
def Nc (p:Option Addr) (index:Int) (w:World) (R:Int->Int->Int->World->Prop):Prop:=
 ax Tryz.prog 121 [.pointer p,.int .i64 index] [.agg [.i .i64,.i .i64],.one (.i .i64)] w R
def I0 (n_:Int) (w:World) (R:Int->World->Prop):Prop:=
 ax Tryz.prog 122 [.int .u64 n_] [.one (.i .i64)] w R
def Nd (l:Sl) (w:World) (R:Bool->World->Prop):Prop:=
 ax Tryz.prog 123 [.slice l.a l.len l.cap] [.one .b] w R
def Sf (p:Option Addr) (ag an:Int) (w:World) (R:Bool->World->Prop):Prop:=
 ax Tryz.prog 129 [.pointer p,.agg #[.int .i64 ag,.int .i64 an]] [.one .b] w R
def Bz (w_:Option Addr) (kind:Int) (w:World) (R:Int->World->Prop):Prop:=
 ax Tryz.prog 130 [.pointer w_,.int .i64 kind] [.one (.i .i64)] w R
def I1 (l:Sl) (kind:Int) (w:World) (R:Int->World->Prop):Prop:=
 ax Tryz.prog 131 [.slice l.a l.len l.cap,.int .i64 kind] [.one (.i .i64)] w R
def Nf (l:Sl) (cg:Int) (aC:Sl) (w:World) (R:Sl->World->Prop):Prop:=
 ax Tryz.prog 132 [.slice l.a l.len l.cap,.agg #[.int .i64 cg,.slice aC.a aC.len aC.cap]] [.one .sl] w R
def Sg (p:Option Addr) (w:World) (R:Int->Int->Int->World->Prop):Prop:=
 ax Tryz.prog 133 [.pointer p] [.agg [.i .i64,.i .i64],.one (.i .i64)] w R
def Si (w_:Option Addr) (cK ez:Int) (cm:Sl) (w:World) (R:World->Prop):Prop:=
 ax Tryz.prog 134 [.pointer w_,.agg #[.int .i64 cK,.int .i64 ez,.slice cm.a cm.len cm.cap]] [] w R
def Ng (t:Option Addr) (row column x:Int) (w:World) (R:Int->World->Prop):Prop:=
 ax Tryz.prog 135 [.pointer t,.int .i64 row,.int .i64 column,.int .i64 x] [.one (.i .i64)] w R
def Nh (w_:Option Addr) (ag an:Int) (set kind:Int) (w:World) (R:Int->Sl->World->Prop):Prop:=
 ax Tryz.prog 136 [.pointer w_,.agg #[.int .i64 ag,.int .i64 an],.int .i64 set,.int .i64 kind] [.agg [.i .i64,.sl]] w R
def Sj (a b:Sl) (w:World) (R:Bool->World->Prop):Prop:=
 ax Tryz.prog 137 [.slice a.a a.len a.cap,.slice b.a b.len b.cap] [.one .b] w R
def Sk (s:Sl) (w:World) (R:Sl->World->Prop):Prop:=
 ax Tryz.prog 138 [.slice s.a s.len s.cap] [.one .sl] w R
def Sm (s:Sl) (w:World) (R:Sl->World->Prop):Prop:=
 ax Tryz.prog 139 [.slice s.a s.len s.cap] [.one .sl] w R
def Sn (m:Option Nat) (w:World) (R:Option Nat->World->Prop):Prop:=
 ax Tryz.prog 140 [.map m] [.one .m] w R
def I2 (s:Sl) (w:World) (R:Sl->World->Prop):Prop:=
 ax Tryz.prog 141 [.slice s.a s.len s.cap] [.one .sl] w R
def So (form:Int) (t1 t2:Option Addr) (w:World) (R:Sl->World->Prop):Prop:=
 ax Tryz.prog 142 [.int .u8 form,.pointer t1,.pointer t2] [.one .sl] w R
def Sp (form:Int) (b l:Sl) (w:World) (R:Sl->World->Prop):Prop:=
 ax Tryz.prog 143 [.int .u8 form,.slice b.a b.len b.cap,.slice l.a l.len l.cap] [.one .sl] w R
def Sq (p:Option Addr) (w:World) (R:Sl->Sl->World->Prop):Prop:=
 ax Tryz.prog 144 [.pointer p] [.one .sl,.one .sl] w R
def Ni (b l:Sl) (w:World) (R:Sl->World->Prop):Prop:=
 ax Tryz.prog 145 [.slice b.a b.len b.cap,.slice l.a l.len l.cap] [.one .sl] w R
def Nj (l:Sl) (w:World) (R:Sl->World->Prop):Prop:=
 ax Tryz.prog 146 [.slice l.a l.len l.cap] [.one .sl] w R
def Sr (n_:Int) (w:World) (R:Int->World->Prop):Prop:=
 ax Tryz.prog 147 [.int .i64 n_] [.one (.i .u64)] w R
def Ss (s:ByteArray) (w:World) (R:Bool->World->Prop):Prop:=
 ax Tryz.prog 148 [.string s] [.one .b] w R
def Su (s:Sl) (v:ByteArray) (w:World) (R:Bool->World->Prop):Prop:=
 ax Tryz.prog 149 [.slice s.a s.len s.cap,.string v] [.one .b] w R
def Sv (cB:Int) (w:World) (R:Option Addr->Int->World->Prop):Prop:=
 ax Tryz.prog 151 [.int .i64 cB] [.one .p,.one (.i .i64)] w R
def I3 (t:Option Addr) (row:Int) (w:World) (R:Bool->World->Prop):Prop:=
 ax Tryz.prog 152 [.pointer t,.int .i64 row] [.one .b] w R
def DP (r:Option Addr) (w:World) (R:Int->World->Prop):Prop:=
 ax Tryz.prog 153 [.pointer r] [.one (.i .u64)] w R
def Sw (r:Option Addr) (form n_:Int) (w:World) (R:Sl->World->Prop):Prop:=
 ax Tryz.prog 154 [.pointer r,.int .u8 form,.int .u64 n_] [.one .sl] w R
def Sx (s:ByteArray) (w:World) (R:Bool->World->Prop):Prop:=
 ax Tryz.prog 155 [.string s] [.one .b] w R
def Sy (l:Sl) (w:World) (R:Sl->World->Prop):Prop:=
 ax Tryz.prog 157 [.slice l.a l.len l.cap] [.one .sl] w R
def Sz (p:Option Addr) (i:Int) (w:World) (R:Bool->World->Prop):Prop:=
 ax Tryz.prog 158 [.pointer p,.int .i64 i] [.one .b] w R
def SA (t:Option Addr) (row column:Int) (w:World) (R:Int->World->Prop):Prop:=
 ax Tryz.prog 159 [.pointer t,.int .i64 row,.int .i64 column] [.one (.i .i64)] w R
def SB (l:Sl) (w:World) (R:Sl->World->Prop):Prop:=
 ax Tryz.prog 161 [.slice l.a l.len l.cap] [.one .sl] w R
def Xc (s:Sl) (v:ByteArray) (w:World) (R:Int->World->Prop):Prop:=
 ax Tryz.prog 162 [.slice s.a s.len s.cap,.string v] [.one (.i .i64)] w R
def SC (l:Sl) (w:World) (R:Sl->Sl->Sl->World->Prop):Prop:=
 ax Tryz.prog 164 [.slice l.a l.len l.cap] [.agg [.sl,.sl,.sl]] w R
def f2 (w:World) (R:World->Prop):Prop:=
 Bl Tryz.prog 1 [] [] w fun w=>
 R w
def f3 (kinds b:Sl) (at_ by_:Int) (w:World) (R:Bool->World->Prop):Prop:=
 c5 w fun(head:Bool) w=>
 Mk [.int .u8 0] 5 1 (i64.wrap ((b.len:Int)+8)) (i64.wrap ((b.len:Int)+8)) w fun(l:Sl) w=>
 cA (.i .i64) Tryz.prog (Builtin.copy_ #[23,23] 3 #[.slice l.a l.len l.cap,.slice b.a b.len b.cap]) w fun(n_:Int) w=>
 Ft w ⟨b.a,b.len,b.cap⟩ fun(x:ByteArray)=>
 c6 kinds l x w fun(ok:Bool) w=>
 if (cond (!head) true (!ok))=true then (R false w) else (if ((b.len:Int) ==0)=true then (R true w) else (c7 at_ (b.len:Int) w fun(r:Int) w=>
 Ix l.a l.len r 1 fun(a:Addr)=>
 St a (.int .u8 (u8.wrap by_)) w fun w=>
 Cut ⟨l.a,l.len,l.cap⟩ 0 (b.len:Int) (l.cap:Int) 1 fun(s:Sl)=>
 Ft w ⟨s.a,s.len,s.cap⟩ fun(x2:ByteArray)=>
 c6 kinds l x2 w fun(r2:Bool) w=>
 R r2 w))
def f4 (one two jC:Sl) (w:World) (R:Bool->World->Prop):Prop:=
 c5 w fun(head:Bool) w=>
 c8 one w fun(p:Option Addr) (a:Bool) w=>
 c8 two w fun(q:Option Addr) (b:Bool) w=>
 if (cond (cond (!head) true (!a)) true (!b))=true then (R false w) else (∃aq:Int->Nat->World->Prop,(∃n:Nat,aq 0 n w) /\ ∀i:Int,∀m:Nat,∀w:World,aq i m w->(if (cond (decide (i < (jC.len:Int))) (decide (i < 300)) false)=true then (∃J_:Option Addr->World->Prop,(Ix jC.a jC.len i 9 fun(a2:Addr)=>
 Ld (.i .i64) w (a2.add 1) fun(H:Int)=>
 if ((i64.wrap ((BitVec.ofInt 64 H &&& BitVec.ofInt 64 1).toNat:Nat)) ==1)=true then (J_ q w) else (J_ p w)) /\ ∀of:Option Addr,∀w:World,J_ of w->(if of.isNone=true then (∃m2:Nat,m2 < m /\ aq (i64.wrap (i+1)) m2 w) else (Ix jC.a jC.len i 9 fun(a3:Addr)=>
 Ld (.i .i64) w a3 fun(mY:Int)=>Ld (.i .i64) w (a3.add 1) fun(x_H:Int)=>Ld (.i .i64) w (a3.add 2) fun(acf:Int)=>Ld (.i .i64) w (a3.add 3) fun(x_N:Int)=>Ld (.i .i64) w (a3.add 4) fun(lY:Int)=>Ld (.i .i64) w (a3.add 5) fun(rL:Int)=>Ld (.i .i64) w (a3.add 6) fun(I4:Int)=>Ld .sl w (a3.add 7) fun(DQ:Sl)=>Ld .sl w (a3.add 8) fun(jL:Sl)=>
 c9 of mY x_H acf x_N lY rL I4 DQ jL w fun(ok:Bool) w=>
 NN of fun(kX:Addr)=>
 Z2 (some (kX.add 6)) w fun(all:Bool) w=>
 if (cond (!ok) true (!all))=true then (R false w) else (∃m2:Nat,m2 < m /\ aq (i64.wrap (i+1)) m2 w)))) else (Nw (.cells #[.pointer p,.pointer q] 29) w fun(b2:Addr) w=>
 ∃bc:Int->Nat->World->Prop,(∃n:Nat,bc 0 n w) /\ ∀i2:Int,∀m3:Nat,∀w:World,bc i2 m3 w->(if (decide (i2 < 2))=true then (∃sL:World->Prop,(∃eg:Int->Nat->World->Prop,(∃n:Nat,eg 0 n w) /\ ∀k:Int,∀m5:Nat,∀w:World,eg k m5 w->(∃Nk:World->Prop,(Ix (some b2) 2 i2 1 fun(a4:Addr)=>
 Ld .p w a4 fun(x:Option Addr)=>
 if (!x.isNone)=true then (Ix (some b2) 2 i2 1 fun(a5:Addr)=>
 Ld .p w a5 fun(x2:Option Addr)=>
 NN x2 fun(a6:Addr)=>
 Ld .sl w (a6.add 4) fun(cR:Sl)=>
 if (decide (k < (cR.len:Int)))=true then (Nk w) else (sL w)) else (sL w)) /\ ∀w:World,Nk w->(Dr w fun w=>
 Ix (some b2) 2 i2 1 fun(a7:Addr)=>
 Ld .p w a7 fun(x3:Option Addr)=>
 NN x3 fun(a8:Addr)=>
 Ld .sl w (a8.add 4) fun(Xd:Sl)=>
 Ix Xd.a Xd.len k 1 fun(a9:Addr)=>
 Ld .p w a9 fun(x4:Option Addr)=>
 Ix (some b2) 2 i2 1 fun(Mu:Addr)=>
 Ld .p w Mu fun(x5:Option Addr)=>
 NN x5 fun(Mv:Addr)=>
 Ld .sl w (Mv.add 5) fun(was:Sl)=>
 Ix was.a was.len k 1 fun(V5:Addr)=>
 Ld .s w V5 fun(x6:ByteArray)=>
 Qs x4 w fun(r:Sl) w=>
 w.cell? V5=some (.string x6) /\ w.cell? (Mv.add 5)=some (.slice was.a was.len was.cap) /\ w.cell? Mu=some (.pointer x5) /\ (Ft w ⟨r.a,r.len,r.cap⟩ fun(x7:ByteArray)=>
 if (!(x7.toList ==x6.toList))=true then (R false w) else (∃m6:Nat,m6 < m5 /\ eg (i64.wrap (k+1)) m6 w))))) /\ ∀w:World,sL w->(Ix (some b2) 2 i2 1 fun(a13:Addr)=>
 Ld .p w a13 fun(x8:Option Addr)=>
 if (!x8.isNone)=true then (Ix (some b2) 2 i2 1 fun(a14:Addr)=>
 Ld .p w a14 fun(x9:Option Addr)=>
 Z3 x9 w fun(Qu:Bool) w=>
 if (!Qu)=true then (R false w) else (∃m4:Nat,m4 < m3 /\ bc (i64.wrap (i2+1)) m4 w)) else (∃m4:Nat,m4 < m3 /\ bc (i64.wrap (i2+1)) m4 w))) else (R true w)))))
theorem Xe {one two jC w R} (h:f4 one two jC w R):c4 one two jC w R:=
  ah (H:=⟨[(7,⟨[(12,.i .i64)],[2,8,10]⟩),(19,⟨[(17,.i .i64)],[16]⟩),(22,⟨[(18,.i .i64)],[16,17]⟩)],[(12,⟨[(13,.p)],[2,8,10,12]⟩),(24,⟨[],[16,17,18]⟩),(26,⟨[],[16,17]⟩)]⟩) cr Tryz.func4 (cast (by kernel_rfl) h)
def f5 (w:World) (R:Bool->World->Prop):Prop:=
 c14 w fun(r:Sl) w=>
 Qt r w fun(w_:Option Addr) (e:Int) w=>
 if (cond w_.isNone true (e !=0))=true then (R false w) else (Nw (.cells #[.int .i64 7] 2) w fun(b:Addr) w=>
 Nw (.cells #[.int .i64 1,.int .i64 2] 2) w fun(b2:Addr) w=>
 Nw (.cells #[.int .i64 2,.slice (some b) 1 1,.int .i64 1,.slice (some b2) 2 2] 36) w fun(b3:Addr) w=>
 VU w_ ⟨some b3,2,2⟩ w fun(Nl Xf f:Int) w=>
 Nw (.cells #[.int .i64 0,.int .i64 0] 33) w fun(a:Addr) w=>
 St a (.int .i64 Nl) w fun w=>
 St (a.add 1) (.int .i64 Xf) w fun w=>
 VU w_ ⟨none,0,0⟩ w fun(Nm Xg g:Int) w=>
 Nw (.cells #[.int .i64 0,.int .i64 0] 33) w fun(b4:Addr) w=>
 St b4 (.int .i64 Nm) w fun w=>
 St (b4.add 1) (.int .i64 Xg) w fun w=>
 Ld (.i .i64) w b4 fun(I5:Int)=>Ld (.i .i64) w (b4.add 1) fun(SD:Int)=>
 VV w_ I5 SD 3 ⟨none,0,0⟩ w fun(h:Int) w=>
 Ld (.i .i64) w b4 fun(I6:Int)=>Ld (.i .i64) w (b4.add 1) fun(SE:Int)=>
 VV w_ I6 SE 3 ⟨none,0,0⟩ w fun(i:Int) w=>
 Ld (.i .i64) w a fun(I7:Int)=>Ld (.i .i64) w (a.add 1) fun(SF:Int)=>
 Z4 w_ I7 SF w fun(j:Int) w=>
 if (f ==0)=true then (if (g ==0)=true then (Ld (.i .i64) w a fun(I8:Int)=>Ld (.i .i64) w (a.add 1) fun(SG:Int)=>
 iH .b Tryz.prog (cH .eql 33 (.tmp 54) (.tmp 55) (.agg #[.int .i64 I8,.int .i64 SG]) (.agg #[.int .i64 0,.int .i64 1])) w fun(eq:Bool)=>
 if eq=true then (Ld (.i .i64) w b4 fun(I9:Int)=>Ld (.i .i64) w (b4.add 1) fun(SH:Int)=>
 iH .b Tryz.prog (cH .eql 33 (.tmp 59) (.tmp 60) (.agg #[.int .i64 I9,.int .i64 SH]) (.agg #[.int .i64 1,.int .i64 1])) w fun(eq2:Bool)=>
 if eq2=true then (if (h ==0)=true then (if (i ==61)=true then (if (j ==0)=true then (Qs w_ w fun(r2:Sl) w=>
 Ft w ⟨r2.a,r2.len,r2.cap⟩ fun(x:ByteArray)=>
 R (x.toList ==(⟨#[2,0,2,2,1,0,0,8]⟩:ByteArray).toList) w) else (R false w)) else (R false w)) else (R false w)) else (R false w)) else (R false w)) else (R false w)) else (R false w))
theorem Xh {w R} (h:f5 w R):c5 w R:=
  ah (H:=⟨[],[]⟩) cr Tryz.func5 (cast (by kernel_rfl) h)
def f8 (kinds:Sl) (w:World) (R:Option Addr->Bool->World->Prop):Prop:=
 Z5 kinds w fun(l:Sl) w=>
 Qt l w fun(a:Option Addr) (e:Int) w=>
 W3 l kinds w fun(whole:Bool) w=>
 c25 kinds w fun(b:Option Addr) (f:Int) w=>
 if (cond (cond (!whole) true (e !=f)) true (!(a.isNone ==b.isNone)))=true then (R none false w) else (if a.isNone=true then (R none true w) else (Nw (.cells #[.pointer a,.pointer b,.slice kinds.a kinds.len kinds.cap,.slice none 0 0,.slice none 0 0,.slice none 0 0,.slice none 0 0,.slice none 0 0,.slice none 0 0,.slice none 0 0,.slice none 0 0,.slice none 0 0,.int .i64 0,.int .i64 0,.int .i64 0] 53) w fun(a2:Addr) w=>
 R (some a2) true w))
theorem Xi {kinds w R} (h:f8 kinds w R):c8 kinds w R:=
  ah (H:=⟨[],[]⟩) cr Tryz.func8 (cast (by kernel_rfl) h)
def f9 (p:Option Addr) (dj tg:Int) (iR th:Int) (bA cD bP:Int) (aF bf:Sl) (w:World) (R:Bool->World->Prop):Prop:=
 Nw (.cells #[.int .i64 dj,.int .i64 tg,.int .i64 iR,.int .i64 th,.int .i64 bA,.int .i64 cD,.int .i64 bP,.slice aF.a aF.len aF.cap,.slice bf.a bf.len bf.cap] 39) w fun(o:Addr) w=>
 Ld (.i .i64) w o fun(Kind:Int)=>
 if (Kind ==1)=true then (Ld .sl w (o.add 8) fun(ch:Sl)=>
 c24 ch w fun(l:Sl) w=>
 Ld .sl w (o.add 8) fun(iS:Sl)=>
 Z6 p l iS w fun(ok:Bool) w=>
 ∃J_:Bool->World->Prop,(if ok=true then (Ld (.i .i64) w (o.add 3) fun(N:Int)=>
 J_ ((i64.wrap ((BitVec.ofInt 64 N &&& BitVec.ofInt 64 1).toNat:Nat)) ==1) w) else (J_ false w)) /\ ∀t30:Bool,∀w:World,J_ t30 w->(if t30=true then (c26 l w fun w=>
 VW l w fun(r:Sl) w=>
 Z6 p l r w fun(Qu:Bool) w=>
 R Qu w) else (R ok w))) else (if (Kind ==2)=true then (Ld (.i .i64) w o fun(rM:Int)=>Ld (.i .i64) w (o.add 1) fun(Ja:Int)=>Ld (.i .i64) w (o.add 2) fun(BA:Int)=>Ld (.i .i64) w (o.add 3) fun(Jb:Int)=>Ld (.i .i64) w (o.add 4) fun(kf:Int)=>Ld (.i .i64) w (o.add 5) fun(oz:Int)=>Ld (.i .i64) w (o.add 6) fun(lZ:Int)=>Ld .sl w (o.add 7) fun(jr:Sl)=>Ld .sl w (o.add 8) fun(oA:Sl)=>
 VX p rM Ja BA Jb kf oz lZ jr oA w fun(ag an:Int) w=>
 Nw (.cells #[.int .i64 0,.int .i64 0] 33) w fun(e:Addr) w=>
 St e (.int .i64 ag) w fun w=>
 St (e.add 1) (.int .i64 an) w fun w=>
 Dr w fun w=>
 NN p fun(p_:Addr)=>
 Ld .p w p_ fun(a:Option Addr)=>
 Ld (.i .i64) w e fun(ay:Int)=>Ld (.i .i64) w (e.add 1) fun(aP:Int)=>
 Z4 a ay aP w fun(f:Int) w=>
 Dr w fun w=>
 NN p fun(nT:Addr)=>
 Ld .p w (nT.add 1) fun(b:Option Addr)=>
 Ld (.i .i64) w e fun(aX:Int)=>Ld (.i .i64) w (e.add 1) fun(bY:Int)=>
 c22 b aX bY w fun(r2:Int) w=>
 R (f ==r2) w) else (if (Kind ==3)=true then (Ld (.i .i64) w o fun(Nn:Int)=>Ld (.i .i64) w (o.add 1) fun(ach:Int)=>Ld (.i .i64) w (o.add 2) fun(Xj:Int)=>Ld (.i .i64) w (o.add 3) fun(aci:Int)=>Ld (.i .i64) w (o.add 4) fun(DR:Int)=>Ld (.i .i64) w (o.add 5) fun(Jc:Int)=>Ld (.i .i64) w (o.add 6) fun(GK:Int)=>Ld .sl w (o.add 7) fun(BB:Sl)=>Ld .sl w (o.add 8) fun(Jd:Sl)=>
 Z7 p Nn ach Xj aci DR Jc GK BB Jd true w fun(r3:Bool) w=>
 R r3 w) else (if (Kind ==4)=true then (Ld (.i .i64) w o fun(No:Int)=>Ld (.i .i64) w (o.add 1) fun(acj:Int)=>Ld (.i .i64) w (o.add 2) fun(Xk:Int)=>Ld (.i .i64) w (o.add 3) fun(ack:Int)=>Ld (.i .i64) w (o.add 4) fun(DS:Int)=>Ld (.i .i64) w (o.add 5) fun(Je:Int)=>Ld (.i .i64) w (o.add 6) fun(GL:Int)=>Ld .sl w (o.add 7) fun(BC:Sl)=>Ld .sl w (o.add 8) fun(Jf:Sl)=>
 VX p No acj Xk ack DS Je GL BC Jf w fun(ei gU:Int) w=>
 Nw (.cells #[.int .i64 0,.int .i64 0] 33) w fun(e2:Addr) w=>
 St e2 (.int .i64 ei) w fun w=>
 St (e2.add 1) (.int .i64 gU) w fun w=>
 Dr w fun w=>
 NN p fun(nZ:Addr)=>
 Ld .p w nZ fun(a2:Option Addr)=>
 Ld (.i .i64) w e2 fun(kg:Int)=>Ld (.i .i64) w (e2.add 1) fun(qH:Int)=>
 Ld (.i .i64) w (o.add 3) fun(N2:Int)=>
 c30 a2 kg qH N2 w fun(f2:Int) w=>
 Dr w fun w=>
 NN p fun(vN:Addr)=>
 Ld .p w (vN.add 1) fun(b2:Option Addr)=>
 Ld (.i .i64) w e2 fun(wS:Int)=>Ld (.i .i64) w (e2.add 1) fun(DT:Int)=>
 Ld (.i .i64) w (o.add 3) fun(N3:Int)=>
 c31 b2 wS DT N3 w fun(r4:Int) w=>
 R (f2 ==r4) w) else (if (Kind ==5)=true then (Ld (.i .i64) w o fun(Np:Int)=>Ld (.i .i64) w (o.add 1) fun(acm:Int)=>Ld (.i .i64) w (o.add 2) fun(Xl:Int)=>Ld (.i .i64) w (o.add 3) fun(acn:Int)=>Ld (.i .i64) w (o.add 4) fun(DU:Int)=>Ld (.i .i64) w (o.add 5) fun(Jg:Int)=>Ld (.i .i64) w (o.add 6) fun(GM:Int)=>Ld .sl w (o.add 7) fun(BD:Sl)=>Ld .sl w (o.add 8) fun(Jh:Sl)=>
 Z7 p Np acm Xl acn DU Jg GM BD Jh false w fun(r5:Bool) w=>
 R r5 w) else (if (Kind ==6)=true then (Ld (.i .i64) w o fun(Nq:Int)=>Ld (.i .i64) w (o.add 1) fun(aco:Int)=>Ld (.i .i64) w (o.add 2) fun(Xm:Int)=>Ld (.i .i64) w (o.add 3) fun(acp:Int)=>Ld (.i .i64) w (o.add 4) fun(DV:Int)=>Ld (.i .i64) w (o.add 5) fun(Ji:Int)=>Ld (.i .i64) w (o.add 6) fun(GN:Int)=>Ld .sl w (o.add 7) fun(BE:Sl)=>Ld .sl w (o.add 8) fun(Jj:Sl)=>
 c32 p Nq aco Xm acp DV Ji GN BE Jj w fun(r6:Bool) w=>
 R r6 w) else (if (Kind ==7)=true then (Z3 p w fun(r7:Bool) w=>
 R r7 w) else (if (Kind ==8)=true then (NN p fun(GO:Addr)=>
 Ld .p w GO fun(a3:Option Addr)=>
 c33 a3 w fun(c:Option Addr) w=>
 if c.isNone=true then (R false w) else (Z8 p c w fun w=>
 R true w)) else (if (Kind ==9)=true then (c35 p w fun(r8:Bool) w=>
 R r8 w) else (R true w)))))))))
theorem Xn {p dj tg iR th bA cD bP aF bf w R} (h:f9 p dj tg iR th bA cD bP aF bf w R):c9 p dj tg iR th bA cD bP aF bf w R:=
  ah (H:=⟨[],[(6,⟨[(30,.b)],[0,5,6]⟩)]⟩) cr Tryz.func9 (cast (by kernel_rfl) h)
def f10 (b:Option Addr) (w:World) (R:Bool->World->Prop):Prop:=
 ∃aq:Int->Nat->World->Prop,(∃n:Nat,aq 0 n w) /\ ∀i:Int,∀m:Nat,∀w:World,aq i m w->(NN b fun(b_:Addr)=>
 Ld .sl w b_ fun(v:Sl)=>
 if (decide (i < (v.len:Int)))=true then (∃bc:Int->Nat->World->Prop,(∃n:Nat,bc 0 n w) /\ ∀k:Int,∀m3:Nat,∀w:World,bc k m3 w->(NN b fun(Nr:Addr)=>
 Ld .sl w Nr fun(v2:Sl)=>
 Ix v2.a v2.len i 1 fun(a:Addr)=>
 Ld .sl w a fun(x:Sl)=>
 if (decide (k < (x.len:Int)))=true then (Dr w fun w=>
 NN b fun(Ns:Addr)=>
 Ld .sl w Ns fun(v3:Sl)=>
 Ix v3.a v3.len i 1 fun(a2:Addr)=>
 Ld .sl w a2 fun(x2:Sl)=>
 Ix x2.a x2.len k 1 fun(a3:Addr)=>
 Ld (.i .i64) w a3 fun(x3:Int)=>
 NN b fun(Nt:Addr)=>
 Ld .sl w (Nt.add 3) fun(x4:Sl)=>
 Ix x4.a x4.len i 1 fun(a4:Addr)=>
 Ld (.i .i64) w a4 fun(x5:Int)=>
 if (x3 !=x5)=true then (R false w) else (∃m4:Nat,m4 < m3 /\ bc (i64.wrap (k+1)) m4 w)) else (∃m2:Nat,m2 < m /\ aq (i64.wrap (i+1)) m2 w))) else (∃eg:Int->Nat->World->Prop,(∃n:Nat,eg 0 n w) /\ ∀i2:Int,∀m5:Nat,∀w:World,eg i2 m5 w->(NN b fun(Nu:Addr)=>
 Ld .sl w (Nu.add 1) fun(p:Sl)=>
 if (decide (i2 < (p.len:Int)))=true then (∃oB:Int->Nat->World->Prop,(∃n:Nat,oB 0 n w) /\ ∀k2:Int,∀m7:Nat,∀w:World,oB k2 m7 w->(NN b fun(Nv:Addr)=>
 Ld .sl w (Nv.add 1) fun(p2:Sl)=>
 Ix p2.a p2.len i2 1 fun(a5:Addr)=>
 Ld .sl w a5 fun(x6:Sl)=>
 if (decide (k2 < (x6.len:Int)))=true then (Dr w fun w=>
 NN b fun(Xo:Addr)=>
 Ld .sl w (Xo.add 1) fun(p3:Sl)=>
 Ix p3.a p3.len i2 1 fun(a6:Addr)=>
 Ld .sl w a6 fun(x7:Sl)=>
 Ix x7.a x7.len k2 2 fun(a7:Addr)=>
 Ld (.i .i64) w a7 fun(Kind:Int)=>
 NN b fun(Xp:Addr)=>
 Ld .sl w (Xp.add 4) fun(y:Sl)=>
 Ix y.a y.len i2 1 fun(a8:Addr)=>
 Ld (.i .i64) w a8 fun(x8:Int)=>
 if (Kind !=x8)=true then (R false w) else (NN b fun(Xq:Addr)=>
 Ld .sl w (Xq.add 1) fun(p4:Sl)=>
 Ix p4.a p4.len i2 1 fun(a9:Addr)=>
 Ld .sl w a9 fun(x9:Sl)=>
 Ix x9.a x9.len k2 2 fun(Mu:Addr)=>
 Ld .sl w (Mu.add 1) fun(bU:Sl)=>
 if (decide ((bU.len:Int) > 0))=true then (R false w) else (∃m8:Nat,m8 < m7 /\ oB (i64.wrap (k2+1)) m8 w))) else (∃m6:Nat,m6 < m5 /\ eg (i64.wrap (i2+1)) m6 w))) else (∃wT:Int->Nat->World->Prop,(∃n:Nat,wT 0 n w) /\ ∀i3:Int,∀m9:Nat,∀w:World,wT i3 m9 w->(NN b fun(Jk:Addr)=>
 Ld .sl w (Jk.add 2) fun(r:Sl)=>
 if (decide (i3 < (r.len:Int)))=true then (∃wU:Int->Nat->World->Prop,(∃n:Nat,wU 0 n w) /\ ∀k3:Int,∀Qv:Nat,∀w:World,wU k3 Qv w->(NN b fun(SI:Addr)=>
 Ld .sl w (SI.add 2) fun(r2:Sl)=>
 Ix r2.a r2.len i3 1 fun(Mv:Addr)=>
 Ld .sl w Mv fun(x10:Sl)=>
 if (decide (k3 < (x10.len:Int)))=true then (Dr w fun w=>
 NN b fun(SJ:Addr)=>
 Ld .sl w (SJ.add 2) fun(r3:Sl)=>
 Ix r3.a r3.len i3 1 fun(V5:Addr)=>
 Ld .sl w V5 fun(x11:Sl)=>
 Ix x11.a x11.len k3 3 fun(a13:Addr)=>
 Ld (.i .i64) w a13 fun(gR:Int)=>Ld (.i .i64) w (a13.add 1) fun(nF:Int)=>
 NN b fun(SK:Addr)=>
 Ld .sl w (SK.add 5) fun(z:Sl)=>
 Ix z.a z.len i3 1 fun(a14:Addr)=>
 Ld (.i .i64) w a14 fun(x12:Int)=>
 iH .b Tryz.prog (cH .neq 33 (.tmp 134) (.tmp 142) (.agg #[.int .i64 gR,.int .i64 nF]) (.agg #[.int .i64 x12,.int .i64 0])) w fun(eq:Bool)=>
 if eq=true then (R false w) else (NN b fun(SL:Addr)=>
 Ld .sl w (SL.add 2) fun(r4:Sl)=>
 Ix r4.a r4.len i3 1 fun(a15:Addr)=>
 Ld .sl w a15 fun(x13:Sl)=>
 Ix x13.a x13.len k3 3 fun(a16:Addr)=>
 Ld .sl w (a16.add 2) fun(ch:Sl)=>
 if (decide ((ch.len:Int) > 0))=true then (R false w) else (∃Xr:Nat,Xr < Qv /\ wU (i64.wrap (k3+1)) Xr w))) else (∃Qw:Nat,Qw < m9 /\ wT (i64.wrap (i3+1)) Qw w))) else (R true w))))))
theorem SM {b w R} (h:f10 b w R):Z2 b w R:=
  ah (H:=⟨[(2,⟨[(3,.i .i64)],[0]⟩),(5,⟨[(4,.i .i64)],[0,3]⟩),(10,⟨[(5,.i .i64)],[0]⟩),(13,⟨[(6,.i .i64)],[0,5]⟩),(18,⟨[(7,.i .i64)],[0]⟩),(21,⟨[(8,.i .i64)],[0,7]⟩)],[]⟩) cr Tryz.func10 (cast (by kernel_rfl) h)
def f11 (w_:Option Addr) (w:World) (R:Sl->World->Prop):Prop:=
 NN w_ fun(gC:Addr)=>
 Ld .p w (gC.add 1) fun(ar:Option Addr)=>
 Z9 ar w fun(au free:Sl) w=>
 c38 au w fun(r:Sl) w=>
 c37 ⟨none,0,0⟩ r w fun(r2:Sl) w=>
 c38 free w fun(r3:Sl) w=>
 c37 r2 r3 w fun(b:Sl) w=>
 VY w_ w fun(r4:Sl) w=>
 ∃aq:Sl->Int->Nat->World->Prop,(∃n:Nat,aq b 0 n w) /\ ∀b2:Sl,∀t29:Int,∀m:Nat,∀w:World,aq b2 t29 m w->(if (decide (t29 < (r4.len:Int)))=true then (Ix r4.a r4.len t29 3 fun(a:Addr)=>
 Ld (.i .i64) w a fun(cK:Int)=>Ld (.i .i64) w (a.add 1) fun(ez:Int)=>Ld .sl w (a.add 2) fun(cm:Sl)=>
 Nw (.cells #[.int .i64 0,.int .i64 0,.slice none 0 0] 75) w fun(r5:Addr) w=>
 St r5 (.int .i64 cK) w fun w=>
 St (r5.add 1) (.int .i64 ez) w fun w=>
 St (r5.add 2) (.slice cm.a cm.len cm.cap) w fun w=>
 Dr w fun w=>
 NN w_ fun(mZ:Addr)=>
 Ld .m w (mZ.add 2) fun(aE:Option Nat)=>
 Ld (.i .i64) w r5 fun(gR:Int)=>Ld (.i .i64) w (r5.add 1) fun(nF:Int)=>
 gB [.one (.i .i64)] Tryz.prog (Instr.lookup 88 (.map aE) (.agg #[.int .i64 gR,.int .i64 nF]) false) w fun(e:Int) _=>
 c40 b2 (u64.wrap e) w fun(b3:Sl) w=>
 Ld .sl w (r5.add 2) fun(ch:Sl)=>
 ∃bc:Sl->Int->Nat->World->Prop,(∃n:Nat,bc b3 0 n w) /\ ∀b4:Sl,∀t46:Int,∀m3:Nat,∀w:World,bc b4 t46 m3 w->(if (decide (t46 < (ch.len:Int)))=true then (Ix ch.a ch.len t46 2 fun(a2:Addr)=>
 Ld (.i .i64) w a2 fun(cg:Int)=>Ld .sl w (a2.add 1) fun(aC:Sl)=>
 Nw (.cells #[.int .i64 0,.slice none 0 0] 36) w fun(p:Addr) w=>
 St p (.int .i64 cg) w fun w=>
 St (p.add 1) (.slice aC.a aC.len aC.cap) w fun w=>
 Ld .sl w (p.add 1) fun(bU:Sl)=>
 ∃eg:Sl->Int->Nat->World->Prop,(∃n:Nat,eg b4 0 n w) /\ ∀b5:Sl,∀t53:Int,∀m5:Nat,∀w:World,eg b5 t53 m5 w->(if (decide (t53 < (bU.len:Int)))=true then (Ix bU.a bU.len t53 1 fun(a3:Addr)=>
 Ld (.i .i64) w a3 fun(x:Int)=>
 c41 b5 x w fun(b6:Sl) w=>
 ∃m6:Nat,m6 < m5 /\ eg b6 (i64.wrap (t53+1)) m6 w) else (∃m4:Nat,m4 < m3 /\ bc b5 (i64.wrap (t46+1)) m4 w))) else (∃m2:Nat,m2 < m /\ aq b4 (i64.wrap (t29+1)) m2 w))) else (R b2 w))
theorem SN {w_ w R} (h:f11 w_ w R):Qs w_ w R:=
  ah (H:=⟨[(4,⟨[(5,.sl),(29,.i .i64)],[0,27,28]⟩),(8,⟨[(5,.sl),(46,.i .i64)],[0,27,28,29,44,45]⟩),(11,⟨[(5,.sl),(53,.i .i64)],[0,27,28,29,44,45,46,51,52]⟩)],[]⟩) cr Tryz.func11 (cast (by kernel_rfl) h)
def f12 (p:Option Addr) (w:World) (R:Bool->World->Prop):Prop:=
 NN p fun(p_:Addr)=>
 Ld .p w p_ fun(a:Option Addr)=>
 VY a w fun(r:Sl) w=>
 NN p fun(nT:Addr)=>
 Ld .p w nT fun(a2:Option Addr)=>
 VY a2 w fun(s:Sl) w=>
 NN p fun(nZ:Addr)=>
 Ld .p w (nZ.add 1) fun(b:Option Addr)=>
 c42 b w fun(t:Sl) w=>
 NN p fun(vN:Addr)=>
 Ld .p w vN fun(a3:Option Addr)=>
 c43 a3 w fun(x:Option Nat) w=>
 NN p fun(GO:Addr)=>
 Ld .p w GO fun(a4:Option Addr)=>
 c43 a4 w fun(y:Option Nat) w=>
 NN p fun(Jl:Addr)=>
 Ld .p w (Jl.add 1) fun(b2:Option Addr)=>
 c44 b2 w fun(z:Sl) w=>
 NN p fun(Jm:Addr)=>
 Ld .p w Jm fun(a5:Option Addr)=>
 c45 a5 w fun(k:Sl) w=>
 NN p fun(Nx:Addr)=>
 Ld .p w Nx fun(a6:Option Addr)=>
 c45 a6 w fun(l:Sl) w=>
 NN p fun(SO:Addr)=>
 Ld .p w SO fun(a7:Option Addr)=>
 Qs a7 w fun(m:Sl) w=>
 NN p fun(DW:Addr)=>
 Ld .p w DW fun(a8:Option Addr)=>
 Qs a8 w fun(n_:Sl) w=>
 NN p fun(DX:Addr)=>
 Ld .p w (DX.add 1) fun(b3:Option Addr)=>
 c46 b3 w fun(r2:Sl) w=>
 Ft w ⟨r2.a,r2.len,r2.cap⟩ fun(o:ByteArray)=>
 R3 r t w fun(one:Bool) w=>
 c48 x z w fun(two:Bool) w=>
 NN p fun(DY:Addr)=>
 Ld .sl w (DY.add 2) fun(kinds:Sl)=>
 VZ k kinds w fun(three:Bool) w=>
 ∃J_:World->Prop,(if (!one)=true then (R false w) else (if (!two)=true then (R false w) else (if (!three)=true then (R false w) else (Ft w ⟨m.a,m.len,m.cap⟩ fun(x2:ByteArray)=>
 if (!(x2.toList ==o.toList))=true then (R false w) else (J_ w))))) /\ ∀w:World,J_ w->(NN p fun(DZ:Addr)=>
 c50 (some (DZ.add 6)) r w fun w=>
 NN p fun(D0:Addr)=>
 V0 (some (D0.add 6)) w fun w=>
 ∃sL:World->Prop,(if (!x.isNone)=true then (rm Tryz.prog (Instr.mapUpdate 99 (.map x) (.int .i64 (-1)) (.int .i64 7)) w fun w=>
 rm Tryz.prog (Instr.mapUpdate 99 (.map x) (.int .i64 2) (.int .i64 1000)) w fun w=>
 sL w) else (sL w)) /\ ∀w:World,sL w->(∃aq:Int->Nat->World->Prop,(∃n:Nat,aq 0 n w) /\ ∀i:Int,∀m2:Nat,∀w:World,aq i m2 w->(if (decide (i < (k.len:Int)))=true then (Ix k.a k.len i 2 fun(a9:Addr)=>
 Ld .sl w (a9.add 1) fun(cV:Sl)=>
 ∃bc:Int->Nat->World->Prop,(∃n:Nat,bc 0 n w) /\ ∀j:Int,∀m4:Nat,∀w:World,bc j m4 w->(if (decide (j < (cV.len:Int)))=true then (Ix cV.a cV.len j 1 fun(Mu:Addr)=>
 St Mu (.string (⟨#[111,118,101,114]⟩:ByteArray)) w fun w=>
 ∃m5:Nat,m5 < m4 /\ bc (i64.wrap (j+1)) m5 w) else (Nw (.cells #[.string (⟨#[111,118,101,114]⟩:ByteArray),.string (⟨#[111,118,101,114]⟩:ByteArray),.string (⟨#[111,118,101,114]⟩:ByteArray),.string (⟨#[111,118,101,114]⟩:ByteArray),.string (⟨#[111,118,101,114]⟩:ByteArray)] 9) w fun(b4:Addr) w=>
 cA .sl Tryz.prog (Builtin.append_ #[45,45] 45 #[.slice cV.a cV.len cV.cap,.slice (some b4) 5 5]) w fun(f:Sl) w=>
 Ix k.a k.len i 2 fun(Mv:Addr)=>
 St Mv (.string (⟨#[111,118,101,114]⟩:ByteArray)) w fun w=>
 St (Mv.add 1) (.slice f.a f.len f.cap) w fun w=>
 ∃m3:Nat,m3 < m2 /\ aq (i64.wrap (i+1)) m3 w))) else (Nw (.cells #[.string (⟨#[111,118,101,114]⟩:ByteArray),.slice none 0 0,.string (⟨#[111,118,101,114]⟩:ByteArray),.slice none 0 0] 107) w fun(b5:Addr) w=>
 cA .sl Tryz.prog (Builtin.append_ #[22,22] 22 #[.slice k.a k.len k.cap,.slice (some b5) 2 2]) w fun(k2:Sl) w=>
 ∃eg:Int->Nat->World->Prop,(∃n:Nat,eg 0 n w) /\ ∀i2:Int,∀m6:Nat,∀w:World,eg i2 m6 w->(if (decide (i2 < (m.len:Int)))=true then (Ix m.a m.len i2 1 fun(V5:Addr)=>
 St V5 (.int .u8 201) w fun w=>
 ∃m7:Nat,m7 < m6 /\ eg (i64.wrap (i2+1)) m7 w) else (∃oB:Sl->Int->Nat->World->Prop,(∃n:Nat,oB m 0 n w) /\ ∀m9:Sl,∀i3:Int,∀m8:Nat,∀w:World,oB m9 i3 m8 w->(if (decide (i3 < 70))=true then (Nw (.cells #[.int .u8 201] 5) w fun(b6:Addr) w=>
 cA .sl Tryz.prog (Builtin.append_ #[23,23] 23 #[.slice m9.a m9.len m9.cap,.slice (some b6) 1 1]) w fun(Qv:Sl) w=>
 ∃Qw:Nat,Qw < m8 /\ oB Qv (i64.wrap (i3+1)) Qw w) else (R3 s t w fun(SP:Bool) w=>
 c48 y z w fun(SQ:Bool) w=>
 NN p fun(acq:Addr)=>
 Ld .sl w (acq.add 2) fun(ti:Sl)=>
 VZ l ti w fun(SR:Bool) w=>
 NN p fun(acr:Addr)=>
 c50 (some (acr.add 6)) s w fun w=>
 NN p fun(acs:Addr)=>
 V0 (some (acs.add 6)) w fun w=>
 ∃Nk:World->Prop,(if (!y.isNone)=true then (rm Tryz.prog (Instr.mapUpdate 99 (.map y) (.int .i64 (-2)) (.int .i64 8)) w fun w=>
 Nk w) else (Nk w)) /\ ∀w:World,Nk w->(if SP=true then (if SQ=true then (if SR=true then (Ft w ⟨n_.a,n_.len,n_.cap⟩ fun(x3:ByteArray)=>
 if (x3.toList ==o.toList)=true then (NN p fun(acu:Addr)=>
 Ld .sl w (acu.add 2) fun(SS:Sl)=>
 R ((k2.len:Int) ==(i64.wrap ((SS.len:Int)+2))) w) else (R false w)) else (R false w)) else (R false w)) else (R false w))))))))))
theorem SU {p w R} (h:f12 p w R):Z3 p w R:=
  ah (H:=⟨[(23,⟨[(17,.i .i64)],[0,4,5,7,8,9,10,11,12,13]⟩),(27,⟨[(19,.i .i64)],[0,4,5,7,8,9,10,11,12,13,17,18]⟩),(34,⟨[(20,.i .i64)],[0,4,5,7,8,9,10,11,12,13]⟩),(38,⟨[(11,.sl),(21,.i .i64)],[0,4,5,7,8,9,10,12,13]⟩)],[(17,⟨[],[0,3,4,5,6,7,8,9,10,11,12,13]⟩),(22,⟨[],[0,4,5,7,8,9,10,11,12,13]⟩),(48,⟨[],[0,9,12,13,14,15,16]⟩)]⟩) cr Tryz.func12 (cast (by kernel_rfl) h)
def f13 (kinds:Sl) (w:World) (R:Option Addr->Int->World->Prop):Prop:=
 c52 kinds w fun(r:Bool) w=>
 if (!r)=true then (R none 65 w) else (V1 200 w fun(p:Option Addr) (e:Int) w=>
 if (e !=0)=true then (R none e w) else (V2 kinds w fun(r2:Sl) w=>
 Nw (.map #[] 0) w fun(m:Addr) w=>
 Nw (.map #[] 0) w fun(m2:Addr) w=>
 Nw (.cells #[.slice r2.a r2.len r2.cap,.pointer p,.map (some m.block),.map (some m2.block)] 91) w fun(a:Addr) w=>
 R (some a) 0 w))
theorem Jn {kinds w R} (h:f13 kinds w R):Qt kinds w R:=
  ah (H:=⟨[],[]⟩) cr Tryz.func13 (cast (by kernel_rfl) h)
def f14 (w:World) (R:Sl->World->Prop):Prop:=
 Nw (.cells #[.string (⟨#[120]⟩:ByteArray),.string (⟨#[121]⟩:ByteArray)] 9) w fun(b:Addr) w=>
 Nw (.cells #[.string (⟨#[120]⟩:ByteArray)] 9) w fun(b2:Addr) w=>
 Nw (.cells #[.string (⟨#[97]⟩:ByteArray),.string (⟨#[98]⟩:ByteArray),.string (⟨#[99]⟩:ByteArray),.string (⟨#[100]⟩:ByteArray)] 9) w fun(b3:Addr) w=>
 Nw (.cells #[.string (⟨#[80,111,115]⟩:ByteArray),.slice (some b) 2 2,.string (⟨#[86,101,108]⟩:ByteArray),.slice (some b2) 1 1,.string (⟨#[68,101,97,100]⟩:ByteArray),.slice none 0 0,.string (⟨#[66,111,120]⟩:ByteArray),.slice (some b3) 4 4] 107) w fun(b4:Addr) w=>
 R ⟨some b4,4,4⟩ w
theorem SV {w R} (h:f14 w R):c14 w R:=
  ah (H:=⟨[],[]⟩) cr Tryz.func14 (cast (by kernel_rfl) h)
def f15 (w_:Option Addr) (parts:Sl) (w:World) (R:Int->Int->Int->World->Prop):Prop:=
 Nw (.cells #[.int .i64 0,.int .i64 0] 33) w fun(a:Addr) w=>
 ∃aq:Int->Sl->Int->Nat->World->Prop,(∃n:Nat,aq 0 ⟨none,0,0⟩ 0 n w) /\ ∀set:Int,∀values:Sl,∀t16:Int,∀m:Nat,∀w:World,aq set values t16 m w->(if (decide (t16 < (parts.len:Int)))=true then (Ix parts.a parts.len t16 2 fun(a2:Addr)=>
 Ld (.i .i64) w a2 fun(cg:Int)=>Ld .sl w (a2.add 1) fun(aC:Sl)=>
 Nw (.cells #[.int .i64 0,.slice none 0 0] 36) w fun(p:Addr) w=>
 St p (.int .i64 cg) w fun w=>
 St (p.add 1) (.slice aC.a aC.len aC.cap) w fun w=>
 Ld (.i .i64) w p fun(Kind:Int)=>
 W4 w_ Kind w fun(n_:Int) (ok:Bool) w=>
 if (!ok)=true then (St a (.int .i64 0) w fun w=>
 St (a.add 1) (.int .i64 0) w fun w=>
 Ld (.i .i64) w a fun(cT:Int)=>Ld (.i .i64) w (a.add 1) fun(fG:Int)=>
 R cT fG 60 w) else (Ld (.i .i64) w p fun(g9:Int)=>
 (0:Int)<=g9 /\ (if ((i64.wrap ((BitVec.ofInt 64 (Int.fdiv set (2 ^ (min (Int.toNat g9) 64))) &&& BitVec.ofInt 64 1).toNat:Nat)) ==1)=true then (St a (.int .i64 0) w fun w=>
 St (a.add 1) (.int .i64 0) w fun w=>
 Ld (.i .i64) w a fun(ej:Int)=>Ld (.i .i64) w (a.add 1) fun(gV:Int)=>
 R ej gV 61 w) else (Ld .sl w (p.add 1) fun(bU:Sl)=>
 if ((bU.len:Int) !=n_)=true then (St a (.int .i64 0) w fun w=>
 St (a.add 1) (.int .i64 0) w fun w=>
 Ld (.i .i64) w a fun(iq:Int)=>Ld (.i .i64) w (a.add 1) fun(na:Int)=>
 R iq na 63 w) else (Dr w fun w=>
 Ld (.i .i64) w p fun(nG:Int)=>
 Ld .sl w (p.add 1) fun(bT:Sl)=>
 M6 w_ set nG w fun(r:Int) w=>
 w.cell? (p.add 1)=some (.slice bT.a bT.len bT.cap) /\ (R4 values r bT w fun(vO:Sl) w=>
 Ld (.i .i64) w p fun(Qx:Int)=>
 (0:Int)<=Qx /\ (∃m2:Nat,m2 < m /\ aq (i64.wrap ((BitVec.ofInt 64 set ||| BitVec.ofInt 64 (i64.wrap (1*2 ^ (min (Int.toNat Qx) 64)))).toNat:Nat)) vO (i64.wrap (t16+1)) m2 w))))))) else (NN w_ fun(gC:Addr)=>
 Ld .p w (gC.add 1) fun(ar:Option Addr)=>
 V3 ar w fun(ag an bad:Int) w=>
 Nw (.cells #[.int .i64 0,.int .i64 0] 33) w fun(e:Addr) w=>
 St e (.int .i64 ag) w fun w=>
 St (e.add 1) (.int .i64 an) w fun w=>
 if (bad !=0)=true then (St a (.int .i64 0) w fun w=>
 St (a.add 1) (.int .i64 0) w fun w=>
 Ld (.i .i64) w a fun(wV:Int)=>Ld (.i .i64) w (a.add 1) fun(D1:Int)=>
 R wV D1 bad w) else (Ld (.i .i64) w e fun(ay:Int)=>Ld (.i .i64) w (e.add 1) fun(aP:Int)=>
 R5 w_ ay aP set values w fun w=>
 Ld (.i .i64) w e fun(aX:Int)=>Ld (.i .i64) w (e.add 1) fun(bY:Int)=>
 St a (.int .i64 aX) w fun w=>
 St (a.add 1) (.int .i64 bY) w fun w=>
 Ld (.i .i64) w a fun(wW:Int)=>Ld (.i .i64) w (a.add 1) fun(D2:Int)=>
 R wW D2 0 w)))
theorem Jo {w_ parts w R} (h:f15 w_ parts w R):VU w_ parts w R:=
  ah (H:=⟨[(4,⟨[(6,.i .i64),(7,.sl),(16,.i .i64)],[0,4,14,15]⟩)],[]⟩) cr Tryz.func15 (cast (by kernel_rfl) h)
def f16 (w_:Option Addr) (ag an cg:Int) (aC:Sl) (w:World) (R:Int->World->Prop):Prop:=
 Nw (.cells #[.int .i64 ag,.int .i64 an] 33) w fun(e:Addr) w=>
 Nw (.cells #[.int .i64 cg,.slice aC.a aC.len aC.cap] 36) w fun(p:Addr) w=>
 Ld (.i .i64) w e fun(ay:Int)=>Ld (.i .i64) w (e.add 1) fun(aP:Int)=>
 Ld (.i .i64) w p fun(Kind:Int)=>
 R6 w_ ay aP Kind w fun(set:Int) (has:Bool) (n_ bad:Int) w=>
 if (bad !=0)=true then (R bad w) else (if has=true then (R 61 w) else (Ld .sl w (p.add 1) fun(bU:Sl)=>
 if ((bU.len:Int) !=n_)=true then (R 63 w) else (Dr w fun w=>
 Ld (.i .i64) w e fun(aX:Int)=>Ld (.i .i64) w (e.add 1) fun(bY:Int)=>
 Ld (.i .i64) w p fun(g9:Int)=>
 Ld .sl w (p.add 1) fun(bT:Sl)=>
 V4 w_ aX bY w fun(r:Sl) w=>
 w.cell? (p.add 1)=some (.slice bT.a bT.len bT.cap) /\ w.cell? p=some (.int .i64 g9) /\ (M6 w_ set g9 w fun(r2:Int) w=>
 w.cell? (p.add 1)=some (.slice bT.a bT.len bT.cap) /\ (R4 r r2 bT w fun(values:Sl) w=>
 Dr w fun w=>
 Ld (.i .i64) w e fun(ei:Int)=>Ld (.i .i64) w (e.add 1) fun(gU:Int)=>
 Ld (.i .i64) w p fun(nG:Int)=>
 (0:Int)<=nG /\ (R5 w_ ei gU (i64.wrap ((BitVec.ofInt 64 set ||| BitVec.ofInt 64 (i64.wrap (1*2 ^ (min (Int.toNat nG) 64)))).toNat:Nat)) values w fun w=>
 R 0 w))))))
theorem Jp {w_ ag an cg aC w R} (h:f16 w_ ag an cg aC w R):VV w_ ag an cg aC w R:=
  ah (H:=⟨[],[]⟩) cr Tryz.func16 (cast (by kernel_rfl) h)
def f17 (w_:Option Addr) (ag an:Int) (w:World) (R:Int->World->Prop):Prop:=
 Nw (.cells #[.int .i64 ag,.int .i64 an] 33) w fun(e:Addr) w=>
 Dr w fun w=>
 NN w_ fun(gC:Addr)=>
 Ld .p w (gC.add 1) fun(ar:Option Addr)=>
 Ld (.i .i64) w e fun(ay:Int)=>Ld (.i .i64) w (e.add 1) fun(aP:Int)=>
 c62 ar ay aP w fun(bad:Int) w=>
 if (bad !=0)=true then (R bad w) else (Ld (.i .i64) w e fun(aX:Int)=>Ld (.i .i64) w (e.add 1) fun(bY:Int)=>
 V4 w_ aX bY w fun(r:Sl) w=>
 R 0 w)
theorem SW {w_ ag an w R} (h:f17 w_ ag an w R):Z4 w_ ag an w R:=
  ah (H:=⟨[],[]⟩) cr Tryz.func17 (cast (by kernel_rfl) h)
def f18 (l:Sl) (w:World) (R:Sl->World->Prop):Prop:=
 ∃aq:Sl->Int->Nat->World->Prop,(∃n:Nat,aq ⟨none,0,0⟩ 0 n w) /\ ∀out:Sl,∀i:Int,∀m:Nat,∀w:World,aq out i m w->(if (decide (i < (l.len:Int)))=true then (Ix l.a l.len i 2 fun(a:Addr)=>
 Ld .sl w (a.add 1) fun(cV:Sl)=>
 cA .sl Tryz.prog (Builtin.append_ #[45,45] 45 #[.slice none 0 0,.slice cV.a cV.len cV.cap]) w fun(f:Sl) w=>
 Nw (.cells #[.string (⟨#[98,101,104,105,110,100]⟩:ByteArray),.string (⟨#[98,101,104,105,110,100]⟩:ByteArray)] 9) w fun(b:Addr) w=>
 cA .sl Tryz.prog (Builtin.append_ #[45,45] 45 #[.slice f.a f.len f.cap,.slice (some b) 2 2]) w fun(f2:Sl) w=>
 Dr w fun w=>
 Ix l.a l.len i 2 fun(a2:Addr)=>
 Ld .s w a2 fun(Name:ByteArray)=>
 Ix l.a l.len i 2 fun(a3:Addr)=>
 Ld .sl w (a3.add 1) fun(gr:Sl)=>
 Cut ⟨f2.a,f2.len,f2.cap⟩ 0 (gr.len:Int) (f2.cap:Int) 1 fun(s:Sl)=>
 Nw (.cells #[.string Name,.slice s.a s.len s.cap] 107) w fun(b2:Addr) w=>
 cA .sl Tryz.prog (Builtin.append_ #[22,22] 22 #[.slice out.a out.len out.cap,.slice (some b2) 1 1]) w fun(bR:Sl) w=>
 ∃m2:Nat,m2 < m /\ aq bR (i64.wrap (i+1)) m2 w) else (Nw (.cells #[.string (⟨#[98,101,104,105,110,100]⟩:ByteArray),.slice none 0 0,.string (⟨#[98,101,104,105,110,100]⟩:ByteArray),.slice none 0 0] 107) w fun(b3:Addr) w=>
 cA .sl Tryz.prog (Builtin.append_ #[22,22] 22 #[.slice out.a out.len out.cap,.slice (some b3) 2 2]) w fun(fV:Sl) w=>
 Cut ⟨fV.a,fV.len,fV.cap⟩ 0 (l.len:Int) (fV.cap:Int) 2 fun(s2:Sl)=>
 R s2 w))
theorem SX {l w R} (h:f18 l w R):Z5 l w R:=
  ah (H:=⟨[(3,⟨[(3,.sl),(4,.i .i64)],[0]⟩)],[]⟩) cr Tryz.func18 (cast (by kernel_rfl) h)
def f19 (kinds b:Sl) (w:World) (R:Option Addr->Int->World->Prop):Prop:=
 Qt kinds w fun(w_:Option Addr) (e:Int) w=>
 if (e !=0)=true then (R none e w) else (c63 b w fun(au b2:Sl) (one:Bool) w=>
 c63 b2 w fun(free b3:Sl) (two:Bool) w=>
 if (cond (!one) true (!two))=true then (R none 64 w) else (c64 200 au free w fun(r:Option Addr) (e2:Int) w=>
 NN w_ fun(gC:Addr)=>
 St (gC.add 1) (.pointer r) w fun w=>
 if (e2 !=0)=true then (R none 64 w) else (NN w_ fun(mZ:Addr)=>
 Ld .p w (mZ.add 1) fun(ar:Option Addr)=>
 W5 ar w fun(r2:Sl) w=>
 ∃aq:Sl->Int->Nat->World->Prop,(∃n:Nat,aq b3 0 n w) /\ ∀b4:Sl,∀t62:Int,∀m:Nat,∀w:World,aq b4 t62 m w->(if (decide (t62 < (r2.len:Int)))=true then (Ix r2.a r2.len t62 2 fun(a:Addr)=>
 Ld (.i .i64) w a fun(jM:Int)=>Ld (.i .i64) w (a.add 1) fun(rN:Int)=>
 Nw (.cells #[.int .i64 0,.int .i64 0] 33) w fun(x:Addr) w=>
 St x (.int .i64 jM) w fun w=>
 St (x.add 1) (.int .i64 rN) w fun w=>
 W6 b4 w fun(set n_:Int) w=>
 ∃J_:World->Prop,(if (n_ ==0)=true then (R none 64 w) else (if ((u64.wrap ((BitVec.ofInt 64 set &&& BitVec.ofInt 64 1).toNat:Nat)) ==1)=true then (R none 64 w) else ((0:Int)<=(i64.wrap ((kinds.len:Int)+1)) /\ (if ((Int.fdiv set (2 ^ (min (Int.toNat (i64.wrap ((kinds.len:Int)+1))) 64))) !=0)=true then (R none 64 w) else (J_ w))))) /\ ∀w:World,J_ w->(Cut ⟨b4.a,b4.len,b4.cap⟩ n_ (b4.len:Int) (b4.cap:Int) 1 fun(b5:Sl)=>
 M6 w_ (i64.wrap set) (i64.wrap ((kinds.len:Int)+1)) w fun(r3:Int) w=>
 ∃bc:Sl->Sl->Int->Nat->World->Prop,(∃n:Nat,bc b5 ⟨none,0,0⟩ 0 n w) /\ ∀b6:Sl,∀values:Sl,∀t96:Int,∀m3:Nat,∀w:World,bc b6 values t96 m3 w->(if (decide (t96 < r3))=true then (c67 b6 w fun(v vQ:Int) w=>
 if (vQ ==0)=true then (R none 64 w) else (Dr w fun w=>
 Cut ⟨b6.a,b6.len,b6.cap⟩ vQ (b6.len:Int) (b6.cap:Int) 1 fun(b7:Sl)=>
 Nw (.cells #[.int .i64 v] 2) w fun(b8:Addr) w=>
 cA .sl Tryz.prog (Builtin.append_ #[34,34] 34 #[.slice values.a values.len values.cap,.slice (some b8) 1 1]) w fun(vO:Sl) w=>
 ∃m4:Nat,m4 < m3 /\ bc b7 vO (i64.wrap (t96+1)) m4 w)) else (Ld (.i .i64) w x fun(oC:Int)=>Ld (.i .i64) w (x.add 1) fun(wX:Int)=>
 R5 w_ oC wX (i64.wrap set) values w fun w=>
 ∃m2:Nat,m2 < m /\ aq b6 (i64.wrap (t62+1)) m2 w)))) else (if (decide ((b4.len:Int) > 0))=true then (R none 64 w) else (R w_ 0 w))))))
theorem SY {kinds b w R} (h:f19 kinds b w R):c19 kinds b w R:=
  ah (H:=⟨[(12,⟨[(1,.sl),(62,.i .i64)],[0,6,60,61]⟩),(20,⟨[(1,.sl),(16,.sl),(96,.i .i64)],[0,6,13,14,60,61,62,95]⟩)],[(17,⟨[],[0,1,6,13,14,15,60,61,62]⟩)]⟩) cr Tryz.func19 (cast (by kernel_rfl) h)
def f20 (l was:Sl) (w:World) (R:Bool->World->Prop):Prop:=
 VZ l was w fun(ok:Bool) w=>
 Cut ⟨l.a,l.len,l.cap⟩ 0 (i64.wrap ((was.len:Int)+2)) (l.cap:Int) 2 fun(all:Sl)=>
 ∃aq:Bool->Int->Nat->World->Prop,(∃n:Nat,aq ok 0 n w) /\ ∀Qu:Bool,∀i:Int,∀m:Nat,∀w:World,aq Qu i m w->(if (decide (i < (all.len:Int)))=true then (if (decide (i>=(was.len:Int)))=true then (if Qu=true then (Ix all.a all.len i 2 fun(a:Addr)=>
 Ld .s w a fun(Name:ByteArray)=>
 ∃m2:Nat,m2 < m /\ aq (Name.toList ==(⟨#[98,101,104,105,110,100]⟩:ByteArray).toList) (i64.wrap (i+1)) m2 w) else (∃m2:Nat,m2 < m /\ aq false (i64.wrap (i+1)) m2 w)) else (Dr w fun w=>
 Ix all.a all.len i 2 fun(a2:Addr)=>
 Ld .sl w (a2.add 1) fun(cV:Sl)=>
 Ix was.a was.len i 2 fun(a3:Addr)=>
 Ld .sl w (a3.add 1) fun(gr:Sl)=>
 if (decide ((cV.cap:Int) < (i64.wrap ((gr.len:Int)+2))))=true then (R false w) else (Dr w fun w=>
 Ix all.a all.len i 2 fun(a4:Addr)=>
 Ld .sl w (a4.add 1) fun(pF:Sl)=>
 Ix was.a was.len i 2 fun(a5:Addr)=>
 Ld .sl w (a5.add 1) fun(vS:Sl)=>
 Cut ⟨pF.a,pF.len,pF.cap⟩ 0 (i64.wrap ((vS.len:Int)+2)) (pF.cap:Int) 1 fun(f:Sl)=>
 ∃J_:Bool->World->Prop,(if Qu=true then (Ix was.a was.len i 2 fun(a6:Addr)=>
 Ld .sl w (a6.add 1) fun(vT:Sl)=>
 Ix f.a f.len (vT.len:Int) 1 fun(a7:Addr)=>
 Ld .s w a7 fun(x:ByteArray)=>
 if (x.toList ==(⟨#[98,101,104,105,110,100]⟩:ByteArray).toList)=true then (Ix was.a was.len i 2 fun(a8:Addr)=>
 Ld .sl w (a8.add 1) fun(Ny:Sl)=>
 Ix f.a f.len (i64.wrap ((Ny.len:Int)+1)) 1 fun(a9:Addr)=>
 Ld .s w a9 fun(x2:ByteArray)=>
 J_ (x2.toList ==(⟨#[98,101,104,105,110,100]⟩:ByteArray).toList) w) else (J_ false w)) else (J_ false w)) /\ ∀ok3:Bool,∀w:World,J_ ok3 w->(∃bc:Int->Nat->World->Prop,(∃n:Nat,bc 0 n w) /\ ∀k:Int,∀m3:Nat,∀w:World,bc k m3 w->(if (decide (k < (f.len:Int)))=true then (Ix f.a f.len k 1 fun(Mu:Addr)=>
 St Mu (.string (⟨#[79,118,101,114]⟩:ByteArray)) w fun w=>
 ∃m4:Nat,m4 < m3 /\ bc (i64.wrap (k+1)) m4 w) else (Ix all.a all.len i 2 fun(Mv:Addr)=>
 St Mv (.string (⟨#[79,118,101,114]⟩:ByteArray)) w fun w=>
 St (Mv.add 1) (.slice none 0 0) w fun w=>
 ∃m2:Nat,m2 < m /\ aq ok3 (i64.wrap (i+1)) m2 w)))))) else (R Qu w))
theorem SZ {l was w R} (h:f20 l was w R):W3 l was w R:=
  ah (H:=⟨[(4,⟨[(5,.b),(7,.i .i64)],[1,6]⟩),(13,⟨[(9,.i .i64)],[1,5,6,7,8]⟩)],[(12,⟨[(5,.b)],[1,6,7,8]⟩)]⟩) cr Tryz.func20 (cast (by kernel_rfl) h)
def f22 (w_:Option Addr) (ag an:Int) (w:World) (R:Int->World->Prop):Prop:=
 Nw (.cells #[.int .i64 ag,.int .i64 an] 33) w fun(e:Addr) w=>
 Ld (.i .i64) w e fun(ay:Int)=>Ld (.i .i64) w (e.add 1) fun(aP:Int)=>
 R7 w_ ay aP w fun(i:Int) w=>
 if (decide (i < 0))=true then (R 41 w) else (Dr w fun w=>
 NN w_ fun(gC:Addr)=>
 Ld .p w (gC.add 1) fun(Jq:Option Addr)=>
 Ld (.i .i64) w e fun(aX:Int)=>Ld (.i .i64) w (e.add 1) fun(bY:Int)=>
 c73 Jq aX bY w fun(r:Int) w=>
 NN w_ fun(mZ:Addr)=>
 Ld .sl w (mZ.add 2) fun(L:Sl)=>
 Cut ⟨L.a,L.len,L.cap⟩ 0 i (L.cap:Int) 3 fun(s:Sl)=>
 cA .sl Tryz.prog (Builtin.append_ #[71,71] 71 #[.slice none 0 0,.slice s.a s.len s.cap]) w fun(l:Sl) w=>
 NN w_ fun(D3:Addr)=>
 Ld .sl w (D3.add 2) fun(L2:Sl)=>
 Cut ⟨L2.a,L2.len,L2.cap⟩ (i64.wrap (i+1)) (L2.len:Int) (L2.cap:Int) 3 fun(s2:Sl)=>
 cA .sl Tryz.prog (Builtin.append_ #[71,71] 71 #[.slice l.a l.len l.cap,.slice s2.a s2.len s2.cap]) w fun(s3:Sl) w=>
 NN w_ fun(S0:Addr)=>
 St (S0.add 2) (.slice s3.a s3.len s3.cap) w fun w=>
 R 0 w)
theorem S1 {w_ ag an w R} (h:f22 w_ ag an w R):c22 w_ ag an w R:=
  ah (H:=⟨[],[]⟩) cr Tryz.func22 (cast (by kernel_rfl) h)
def f23 (p:Option Addr) (l was:Sl) (w:World) (R:Bool->World->Prop):Prop:=
 NN p fun(p_:Addr)=>
 Ld .p w p_ fun(a:Option Addr)=>
 VU a l w fun(ag an f:Int) w=>
 Nw (.cells #[.int .i64 0,.int .i64 0] 33) w fun(e:Addr) w=>
 St e (.int .i64 ag) w fun w=>
 St (e.add 1) (.int .i64 an) w fun w=>
 NN p fun(nT:Addr)=>
 Ld .p w (nT.add 1) fun(b:Option Addr)=>
 c74 b was w fun(Nz Xs h:Int) w=>
 Nw (.cells #[.int .i64 0,.int .i64 0] 33) w fun(g:Addr) w=>
 St g (.int .i64 Nz) w fun w=>
 St (g.add 1) (.int .i64 Xs) w fun w=>
 c75 l was w fun(whole:Bool) w=>
 ∃J_:World->Prop,(if (f ==0)=true then (Dr w fun w=>
 NN p fun(nZ:Addr)=>
 Ld .sl w (nZ.add 3) fun(given:Sl)=>
 Ld (.i .i64) w e fun(ay:Int)=>Ld (.i .i64) w (e.add 1) fun(aP:Int)=>
 Nw (.cells #[.int .i64 ay,.int .i64 aP] 33) w fun(b2:Addr) w=>
 cA .sl Tryz.prog (Builtin.append_ #[43,43] 43 #[.slice given.a given.len given.cap,.slice (some b2) 1 1]) w fun(s:Sl) w=>
 NN p fun(vN:Addr)=>
 St (vN.add 3) (.slice s.a s.len s.cap) w fun w=>
 J_ w) else (J_ w)) /\ ∀w:World,J_ w->(if whole=true then (Ld (.i .i64) w e fun(aX:Int)=>Ld (.i .i64) w (e.add 1) fun(bY:Int)=>
 Ld (.i .i64) w g fun(Jr:Int)=>Ld (.i .i64) w (g.add 1) fun(S2:Int)=>
 iH .b Tryz.prog (cH .eql 33 (.tmp 47) (.tmp 48) (.agg #[.int .i64 aX,.int .i64 bY]) (.agg #[.int .i64 Jr,.int .i64 S2])) w fun(eq:Bool)=>
 if eq=true then (R (f ==h) w) else (R false w)) else (R false w))
theorem S3 {p l was w R} (h:f23 p l was w R):Z6 p l was w R:=
  ah (H:=⟨[],[(6,⟨[],[7,8,9,10,11]⟩)]⟩) cr Tryz.func23 (cast (by kernel_rfl) h)
def f24 (l:Sl) (w:World) (R:Sl->World->Prop):Prop:=
 ∃aq:Sl->Int->Nat->World->Prop,(∃n:Nat,aq ⟨none,0,0⟩ 0 n w) /\ ∀out:Sl,∀i:Int,∀m:Nat,∀w:World,aq out i m w->(if (decide (i < (l.len:Int)))=true then (Dr w fun w=>
 Ix l.a l.len i 2 fun(a:Addr)=>
 Ld (.i .i64) w a fun(Kind:Int)=>
 Ix l.a l.len i 2 fun(a2:Addr)=>
 Ld .sl w (a2.add 1) fun(bU:Sl)=>
 c76 bU w fun(r:Sl) w=>
 w.cell? a=some (.int .i64 Kind) /\ (Nw (.cells #[.int .i64 Kind,.slice r.a r.len r.cap] 36) w fun(b:Addr) w=>
 cA .sl Tryz.prog (Builtin.append_ #[37,37] 37 #[.slice out.a out.len out.cap,.slice (some b) 1 1]) w fun(bR:Sl) w=>
 ∃m2:Nat,m2 < m /\ aq bR (i64.wrap (i+1)) m2 w)) else (∃bc:Sl->Int->Nat->World->Prop,(∃n:Nat,bc out 0 n w) /\ ∀fV:Sl,∀i2:Int,∀m3:Nat,∀w:World,bc fV i2 m3 w->(if (decide (i2 < 8))=true then (Nw (.cells #[.int .i64 77,.slice none 0 0] 36) w fun(b2:Addr) w=>
 cA .sl Tryz.prog (Builtin.append_ #[37,37] 37 #[.slice fV.a fV.len fV.cap,.slice (some b2) 1 1]) w fun(qI:Sl) w=>
 ∃m4:Nat,m4 < m3 /\ bc qI (i64.wrap (i2+1)) m4 w) else (Cut ⟨fV.a,fV.len,fV.cap⟩ 0 (l.len:Int) (fV.cap:Int) 2 fun(s:Sl)=>
 R s w))))
theorem S4 {l w R} (h:f24 l w R):c24 l w R:=
  ah (H:=⟨[(3,⟨[(3,.sl),(4,.i .i64)],[0]⟩),(7,⟨[(3,.sl),(5,.i .i64)],[0]⟩)],[]⟩) cr Tryz.func24 (cast (by kernel_rfl) h)
def f25 (kinds:Sl) (w:World) (R:Option Addr->Int->World->Prop):Prop:=
 c68 kinds w fun(S5:Bool) w=>
 if (!S5)=true then (R none 65 w) else (c77 200 w fun(p:Option Addr) (x_:Int) w=>
 c78 kinds w fun(r:Sl) w=>
 Nw (.cells #[.slice r.a r.len r.cap,.pointer p,.slice none 0 0] 73) w fun(a:Addr) w=>
 R (some a) 0 w)
theorem S6 {kinds w R} (h:f25 kinds w R):c25 kinds w R:=
  ah (H:=⟨[],[]⟩) cr Tryz.func25 (cast (by kernel_rfl) h)
def f26 (l:Sl) (w:World) (R:World->Prop):Prop:=
 ∃aq:Int->Nat->World->Prop,(∃n:Nat,aq 0 n w) /\ ∀i:Int,∀m:Nat,∀w:World,aq i m w->(if (decide (i < (l.len:Int)))=true then (∃bc:Int->Nat->World->Prop,(∃n:Nat,bc 0 n w) /\ ∀k:Int,∀m3:Nat,∀w:World,bc k m3 w->(Ix l.a l.len i 2 fun(a:Addr)=>
 Ld .sl w (a.add 1) fun(bU:Sl)=>
 if (decide (k < (bU.len:Int)))=true then (Dr w fun w=>
 Ix l.a l.len i 2 fun(a2:Addr)=>
 Ld .sl w (a2.add 1) fun(bT:Sl)=>
 Ix l.a l.len i 2 fun(a3:Addr)=>
 Ld .sl w (a3.add 1) fun(vU:Sl)=>
 Ix vU.a vU.len k 1 fun(a4:Addr)=>
 Ld (.i .i64) w a4 fun(x:Int)=>
 Ix bT.a bT.len k 1 fun(a5:Addr)=>
 St a5 (.int .i64 (i64.wrap (x+5))) w fun w=>
 ∃m4:Nat,m4 < m3 /\ bc (i64.wrap (k+1)) m4 w) else (∃m2:Nat,m2 < m /\ aq (i64.wrap (i+1)) m2 w))) else (R w))
theorem S7 {l w R} (h:f26 l w R):c26 l w R:=
  ah (H:=⟨[(1,⟨[(2,.i .i64)],[0]⟩),(4,⟨[(3,.i .i64)],[0,2]⟩)],[]⟩) cr Tryz.func26 (cast (by kernel_rfl) h)
def f27 (l:Sl) (w:World) (R:Sl->World->Prop):Prop:=
 ∃aq:Sl->Int->Nat->World->Prop,(∃n:Nat,aq ⟨none,0,0⟩ 0 n w) /\ ∀out:Sl,∀i:Int,∀m:Nat,∀w:World,aq out i m w->(if (decide (i < (l.len:Int)))=true then (Dr w fun w=>
 Ix l.a l.len i 2 fun(a:Addr)=>
 Ld (.i .i64) w a fun(Kind:Int)=>
 Ix l.a l.len i 2 fun(a2:Addr)=>
 Ld .sl w (a2.add 1) fun(bU:Sl)=>
 W7 bU w fun(r:Sl) w=>
 w.cell? a=some (.int .i64 Kind) /\ (Nw (.cells #[.int .i64 Kind,.slice r.a r.len r.cap] 36) w fun(b:Addr) w=>
 cA .sl Tryz.prog (Builtin.append_ #[37,37] 37 #[.slice out.a out.len out.cap,.slice (some b) 1 1]) w fun(bR:Sl) w=>
 ∃m2:Nat,m2 < m /\ aq bR (i64.wrap (i+1)) m2 w)) else (R out w))
theorem S8 {l w R} (h:f27 l w R):VW l w R:=
  ah (H:=⟨[(3,⟨[(3,.sl),(4,.i .i64)],[0]⟩)],[]⟩) cr Tryz.func27 (cast (by kernel_rfl) h)
def f28 (p:Option Addr) (dj tg:Int) (iR th:Int) (bA cD bP:Int) (aF bf:Sl) (w:World) (R:Int->Int->World->Prop):Prop:=
 Nw (.cells #[.int .i64 dj,.int .i64 tg,.int .i64 iR,.int .i64 th,.int .i64 bA,.int .i64 cD,.int .i64 bP,.slice aF.a aF.len aF.cap,.slice bf.a bf.len bf.cap] 39) w fun(o:Addr) w=>
 Nw (.cells #[.int .i64 0,.int .i64 0] 33) w fun(a:Addr) w=>
 ∃J_:Bool->World->Prop,(Ld (.i .i64) w (o.add 2) fun(At:Int)=>
 if (decide (At < 0))=true then (J_ true w) else (NN p fun(p_:Addr)=>
 Ld .sl w (p_.add 3) fun(given:Sl)=>
 J_ ((given.len:Int) ==0) w)) /\ ∀t15:Bool,∀w:World,J_ t15 w->(if t15=true then (Ld (.i .i64) w (o.add 4) fun(gR:Int)=>Ld (.i .i64) w ((o.add 4).add 1) fun(nF:Int)=>
 St a (.int .i64 gR) w fun w=>
 St (a.add 1) (.int .i64 nF) w fun w=>
 Ld (.i .i64) w a fun(cT:Int)=>Ld (.i .i64) w (a.add 1) fun(fG:Int)=>
 R cT fG w) else (Dr w fun w=>
 NN p fun(nT:Addr)=>
 Ld .sl w (nT.add 3) fun(Js:Sl)=>
 Ld (.i .i64) w (o.add 2) fun(At2:Int)=>
 NN p fun(nZ:Addr)=>
 Ld .sl w (nZ.add 3) fun(Jt:Sl)=>
 ((Jt.len:Int):Int)≠0 /\ (Ix Js.a Js.len (Int.tmod At2 (Jt.len:Int)) 2 fun(a2:Addr)=>
 Ld (.i .i64) w a2 fun(jM:Int)=>Ld (.i .i64) w (a2.add 1) fun(rN:Int)=>
 St a (.int .i64 jM) w fun w=>
 St (a.add 1) (.int .i64 rN) w fun w=>
 Ld (.i .i64) w a fun(ej:Int)=>Ld (.i .i64) w (a.add 1) fun(gV:Int)=>
 R ej gV w)))
theorem S9 {p dj tg iR th bA cD bP aF bf w R} (h:f28 p dj tg iR th bA cD bP aF bf w R):VX p dj tg iR th bA cD bP aF bf w R:=
  ah (H:=⟨[],[(2,⟨[(15,.b)],[0,3,4]⟩)]⟩) cr Tryz.func28 (cast (by kernel_rfl) h)
def f29 (p:Option Addr) (dj tg:Int) (iR th:Int) (bA cD bP:Int) (aF bf:Sl) (add:Bool) (w:World) (R:Bool->World->Prop):Prop:=
 Nw (.cells #[.int .i64 dj,.int .i64 tg,.int .i64 iR,.int .i64 th,.int .i64 bA,.int .i64 cD,.int .i64 bP,.slice aF.a aF.len aF.cap,.slice bf.a bf.len bf.cap] 39) w fun(o:Addr) w=>
 Ld .sl w ((o.add 6).add 1) fun(bU:Sl)=>
 c76 bU w fun(v:Sl) w=>
 Ld (.i .i64) w (o.add 6) fun(Kind:Int)=>
 Nw (.cells #[.int .i64 0,.slice none 0 0] 36) w fun(x:Addr) w=>
 St x (.int .i64 Kind) w fun w=>
 St (x.add 1) (.slice v.a v.len v.cap) w fun w=>
 Ld (.i .i64) w o fun(rM:Int)=>Ld (.i .i64) w (o.add 1) fun(Ja:Int)=>Ld (.i .i64) w (o.add 2) fun(BA:Int)=>Ld (.i .i64) w (o.add 3) fun(Jb:Int)=>Ld (.i .i64) w (o.add 4) fun(kf:Int)=>Ld (.i .i64) w (o.add 5) fun(oz:Int)=>Ld (.i .i64) w (o.add 6) fun(lZ:Int)=>Ld .sl w (o.add 7) fun(jr:Sl)=>Ld .sl w (o.add 8) fun(oA:Sl)=>
 VX p rM Ja BA Jb kf oz lZ jr oA w fun(ag an:Int) w=>
 Nw (.cells #[.int .i64 0,.int .i64 0] 33) w fun(e:Addr) w=>
 St e (.int .i64 ag) w fun w=>
 St (e.add 1) (.int .i64 an) w fun w=>
 ∃J_:Int->Int->World->Prop,(if add=true then (Dr w fun w=>
 NN p fun(p_:Addr)=>
 Ld .p w p_ fun(a:Option Addr)=>
 Ld (.i .i64) w e fun(ay:Int)=>Ld (.i .i64) w (e.add 1) fun(aP:Int)=>
 Ld (.i .i64) w x fun(mY:Int)=>Ld .sl w (x.add 1) fun(fW:Sl)=>
 VV a ay aP mY fW w fun(f:Int) w=>
 Dr w fun w=>
 NN p fun(nT:Addr)=>
 Ld .p w (nT.add 1) fun(b:Option Addr)=>
 Ld (.i .i64) w e fun(aX:Int)=>Ld (.i .i64) w (e.add 1) fun(bY:Int)=>
 Ld (.i .i64) w (o.add 6) fun(Ta:Int)=>Ld .sl w ((o.add 6).add 1) fun(Ju:Sl)=>
 c80 b aX bY Ta Ju w fun(g:Int) w=>
 J_ f g w) else (Dr w fun w=>
 NN p fun(nZ:Addr)=>
 Ld .p w nZ fun(a2:Option Addr)=>
 Ld (.i .i64) w e fun(ei:Int)=>Ld (.i .i64) w (e.add 1) fun(gU:Int)=>
 Ld (.i .i64) w x fun(NA:Int)=>Ld .sl w (x.add 1) fun(GP:Sl)=>
 c81 a2 ei gU NA GP w fun(f2:Int) w=>
 Dr w fun w=>
 NN p fun(vN:Addr)=>
 Ld .p w (vN.add 1) fun(b2:Option Addr)=>
 Ld (.i .i64) w e fun(kg:Int)=>Ld (.i .i64) w (e.add 1) fun(qH:Int)=>
 Ld (.i .i64) w (o.add 6) fun(NB:Int)=>Ld .sl w ((o.add 6).add 1) fun(GQ:Sl)=>
 c82 b2 kg qH NB GQ w fun(g2:Int) w=>
 J_ f2 g2 w)) /\ ∀f3:Int,∀g3:Int,∀w:World,J_ f3 g3 w->(Ld .sl w ((o.add 6).add 1) fun(bT:Sl)=>
 c83 v bT w fun(whole:Bool) w=>
 ∃aq:Int->Nat->World->Prop,(∃n:Nat,aq 0 n w) /\ ∀i:Int,∀m:Nat,∀w:World,aq i m w->(if (decide (i < (v.len:Int)))=true then (Ix v.a v.len i 1 fun(a3:Addr)=>
 St a3 (.int .i64 78) w fun w=>
 ∃m2:Nat,m2 < m /\ aq (i64.wrap (i+1)) m2 w) else (R (cond whole (f3 ==g3) false) w)))
theorem Tb {p dj tg iR th bA cD bP aF bf add w R} (h:f29 p dj tg iR th bA cD bP aF bf add w R):Z7 p dj tg iR th bA cD bP aF bf add w R:=
  ah (H:=⟨[(12,⟨[(13,.i .i64)],[7,10,11,12]⟩)],[(10,⟨[(10,.i .i64),(11,.i .i64)],[4,7]⟩)]⟩) cr Tryz.func29 (cast (by kernel_rfl) h)
def f30 (w_:Option Addr) (ag an kind:Int) (w:World) (R:Int->World->Prop):Prop:=
 Nw (.cells #[.int .i64 ag,.int .i64 an] 33) w fun(e:Addr) w=>
 Ld (.i .i64) w e fun(ay:Int)=>Ld (.i .i64) w (e.add 1) fun(aP:Int)=>
 R6 w_ ay aP kind w fun(set:Int) (has:Bool) (n_ bad:Int) w=>
 if (bad !=0)=true then (R bad w) else (if (!has)=true then (R 62 w) else (M6 w_ set kind w fun(at_:Int) w=>
 Ld (.i .i64) w e fun(aX:Int)=>Ld (.i .i64) w (e.add 1) fun(bY:Int)=>
 V4 w_ aX bY w fun(r:Sl) w=>
 c84 r at_ (i64.wrap (at_+n_)) w fun(values:Sl) w=>
 Dr w fun w=>
 Ld (.i .i64) w e fun(ei:Int)=>Ld (.i .i64) w (e.add 1) fun(gU:Int)=>
 (0:Int)<=kind /\ (R5 w_ ei gU (i64.wrap ((BitVec.ofInt 64 set &&& ~~~ BitVec.ofInt 64 (i64.wrap (1*2 ^ (min (Int.toNat kind) 64)))).toNat:Nat)) values w fun w=>
 R 0 w)))
theorem Tc {w_ ag an kind w R} (h:f30 w_ ag an kind w R):c30 w_ ag an kind w R:=
  ah (H:=⟨[],[]⟩) cr Tryz.func30 (cast (by kernel_rfl) h)
def f31 (w_:Option Addr) (ag an kind:Int) (w:World) (R:Int->World->Prop):Prop:=
 Nw (.cells #[.int .i64 ag,.int .i64 an] 33) w fun(e:Addr) w=>
 Ld (.i .i64) w e fun(ay:Int)=>Ld (.i .i64) w (e.add 1) fun(aP:Int)=>
 W8 w_ ay aP kind w fun(i k bad:Int) w=>
 if (bad !=0)=true then (R bad w) else (NN w_ fun(gC:Addr)=>
 Ld .sl w (gC.add 2) fun(L:Sl)=>
 Ix L.a L.len i 3 fun(a:Addr)=>
 Ld .sl w (a.add 2) fun(ch:Sl)=>
 Cut ⟨ch.a,ch.len,ch.cap⟩ 0 k (ch.cap:Int) 2 fun(s:Sl)=>
 cA .sl Tryz.prog (Builtin.append_ #[37,37] 37 #[.slice none 0 0,.slice s.a s.len s.cap]) w fun(l:Sl) w=>
 Dr w fun w=>
 NN w_ fun(mZ:Addr)=>
 Ld .sl w (mZ.add 2) fun(L2:Sl)=>
 NN w_ fun(D3:Addr)=>
 Ld .sl w (D3.add 2) fun(L3:Sl)=>
 Ix L3.a L3.len i 3 fun(a2:Addr)=>
 Ld .sl w (a2.add 2) fun(iS:Sl)=>
 Cut ⟨iS.a,iS.len,iS.cap⟩ (i64.wrap (k+1)) (iS.len:Int) (iS.cap:Int) 2 fun(s2:Sl)=>
 cA .sl Tryz.prog (Builtin.append_ #[37,37] 37 #[.slice l.a l.len l.cap,.slice s2.a s2.len s2.cap]) w fun(s3:Sl) w=>
 w.cell? (mZ.add 2)=some (.slice L2.a L2.len L2.cap) /\ (Ix L2.a L2.len i 3 fun(a3:Addr)=>
 St (a3.add 2) (.slice s3.a s3.len s3.cap) w fun w=>
 R 0 w))
theorem Td {w_ ag an kind w R} (h:f31 w_ ag an kind w R):c31 w_ ag an kind w R:=
  ah (H:=⟨[],[]⟩) cr Tryz.func31 (cast (by kernel_rfl) h)
def f32 (p:Option Addr) (dj tg:Int) (iR th:Int) (bA cD bP:Int) (aF bf:Sl) (w:World) (R:Bool->World->Prop):Prop:=
 Nw (.cells #[.int .i64 dj,.int .i64 tg,.int .i64 iR,.int .i64 th,.int .i64 bA,.int .i64 cD,.int .i64 bP,.slice aF.a aF.len aF.cap,.slice bf.a bf.len bf.cap] 39) w fun(o:Addr) w=>
 Ld (.i .i64) w o fun(rM:Int)=>Ld (.i .i64) w (o.add 1) fun(Ja:Int)=>Ld (.i .i64) w (o.add 2) fun(BA:Int)=>Ld (.i .i64) w (o.add 3) fun(Jb:Int)=>Ld (.i .i64) w (o.add 4) fun(kf:Int)=>Ld (.i .i64) w (o.add 5) fun(oz:Int)=>Ld (.i .i64) w (o.add 6) fun(lZ:Int)=>Ld .sl w (o.add 7) fun(jr:Sl)=>Ld .sl w (o.add 8) fun(oA:Sl)=>
 VX p rM Ja BA Jb kf oz lZ jr oA w fun(ag an:Int) w=>
 Nw (.cells #[.int .i64 0,.int .i64 0] 33) w fun(e:Addr) w=>
 St e (.int .i64 ag) w fun w=>
 St (e.add 1) (.int .i64 an) w fun w=>
 Dr w fun w=>
 NN p fun(p_:Addr)=>
 Ld .p w p_ fun(a:Option Addr)=>
 Ld (.i .i64) w e fun(ay:Int)=>Ld (.i .i64) w (e.add 1) fun(aP:Int)=>
 Ld (.i .i64) w (o.add 3) fun(N:Int)=>
 vI [(.cells #[.int .i64 0,.slice none 0 0] 36,none)] w fun(y:Option Addr) w=>
 c86 a ay aP N w fun(Te:Int) (wY:Sl) (f:Int) w=>
 vI [(.cells #[.int .i64 0,.slice none 0 0] 36,y)] w fun(y2:Option Addr) w=>
 td y2 fun(a2:Addr)=>
 St a2 (.int .i64 Te) w fun w=>
 St (a2.add 1) (.slice wY.a wY.len wY.cap) w fun w=>
 Dr w fun w=>
 NN p fun(nT:Addr)=>
 Ld .p w nT fun(a3:Option Addr)=>
 Ld (.i .i64) w e fun(aX:Int)=>Ld (.i .i64) w (e.add 1) fun(bY:Int)=>
 Ld (.i .i64) w (o.add 3) fun(N2:Int)=>
 vI [(.cells #[.int .i64 0,.slice none 0 0] 36,none)] w fun(y3:Option Addr) w=>
 c86 a3 aX bY N2 w fun(Tf:Int) (wZ:Sl) (x_:Int) w=>
 vI [(.cells #[.int .i64 0,.slice none 0 0] 36,y3)] w fun(y4:Option Addr) w=>
 td y4 fun(c:Addr)=>
 St c (.int .i64 Tf) w fun w=>
 St (c.add 1) (.slice wZ.a wZ.len wZ.cap) w fun w=>
 Dr w fun w=>
 NN p fun(nZ:Addr)=>
 Ld .p w nZ fun(a4:Option Addr)=>
 Ld (.i .i64) w e fun(ei:Int)=>Ld (.i .i64) w (e.add 1) fun(gU:Int)=>
 vI [(.cells #[.int .i64 0,.int .i64 0,.slice none 0 0] 75,none)] w fun(y5:Option Addr) w=>
 c87 a4 ei gU w fun(cK ez:Int) (cm:Sl) (g:Int) w=>
 vI [(.cells #[.int .i64 0,.int .i64 0,.slice none 0 0] 75,y5)] w fun(y6:Option Addr) w=>
 td y6 fun(r:Addr)=>
 St r (.int .i64 cK) w fun w=>
 St (r.add 1) (.int .i64 ez) w fun w=>
 St (r.add 2) (.slice cm.a cm.len cm.cap) w fun w=>
 Dr w fun w=>
 NN p fun(vN:Addr)=>
 Ld .p w vN fun(a5:Option Addr)=>
 Ld (.i .i64) w e fun(kg:Int)=>Ld (.i .i64) w (e.add 1) fun(qH:Int)=>
 vI [(.cells #[.int .i64 0,.int .i64 0,.slice none 0 0] 75,none)] w fun(y7:Option Addr) w=>
 c87 a5 kg qH w fun(GR NC:Int) (Aj:Sl) (V6:Int) w=>
 vI [(.cells #[.int .i64 0,.int .i64 0,.slice none 0 0] 75,y7)] w fun(y8:Option Addr) w=>
 td y8 fun(s:Addr)=>
 St s (.int .i64 GR) w fun w=>
 St (s.add 1) (.int .i64 NC) w fun w=>
 St (s.add 2) (.slice Aj.a Aj.len Aj.cap) w fun w=>
 Dr w fun w=>
 NN p fun(GO:Addr)=>
 Ld .p w (GO.add 1) fun(b:Option Addr)=>
 Ld (.i .i64) w e fun(wS:Int)=>Ld (.i .i64) w (e.add 1) fun(DT:Int)=>
 Ld (.i .i64) w (o.add 3) fun(N3:Int)=>
 vI [(.cells #[.int .i64 0,.slice none 0 0] 36,none)] w fun(y9:Option Addr) w=>
 c88 b wS DT N3 w fun(Tg:Int) (xc:Sl) (h:Int) w=>
 vI [(.cells #[.int .i64 0,.slice none 0 0] 36,y9)] w fun(y10:Option Addr) w=>
 td y10 fun(b2:Addr)=>
 St b2 (.int .i64 Tg) w fun w=>
 St (b2.add 1) (.slice xc.a xc.len xc.cap) w fun w=>
 Dr w fun w=>
 NN p fun(Jl:Addr)=>
 Ld .p w (Jl.add 1) fun(b3:Option Addr)=>
 Ld (.i .i64) w e fun(Jv:Int)=>Ld (.i .i64) w (e.add 1) fun(Th:Int)=>
 vI [(.cells #[.int .i64 0,.int .i64 0,.slice none 0 0] 75,none)] w fun(y11:Option Addr) w=>
 c89 b3 Jv Th w fun(GU ND:Int) (Ak:Sl) (i:Int) w=>
 vI [(.cells #[.int .i64 0,.int .i64 0,.slice none 0 0] 75,y11)] w fun(y12:Option Addr) w=>
 td y12 fun(t:Addr)=>
 St t (.int .i64 GU) w fun w=>
 St (t.add 1) (.int .i64 ND) w fun w=>
 St (t.add 2) (.slice Ak.a Ak.len Ak.cap) w fun w=>
 Dr w fun w=>
 NN p fun(Jm:Addr)=>
 Ld .p w Jm fun(a6:Option Addr)=>
 Ld (.i .i64) w e fun(Jw:Int)=>Ld (.i .i64) w (e.add 1) fun(Ti:Int)=>
 c90 a6 Jw Ti w fun(is:Bool) w=>
 Ld (.i .i64) w a2 fun(NF:Int)=>Ld .sl w (a2.add 1) fun(tj:Sl)=>
 Ld (.i .i64) w c fun(NG:Int)=>Ld .sl w (c.add 1) fun(tl:Sl)=>
 Nw (.cells #[.int .i64 NF,.slice tj.a tj.len tj.cap,.int .i64 NG,.slice tl.a tl.len tl.cap] 36) w fun(b4:Addr) w=>
 Ld (.i .i64) w b2 fun(NH:Int)=>Ld .sl w (b2.add 1) fun(tm:Sl)=>
 Ld (.i .i64) w b2 fun(NI:Int)=>Ld .sl w (b2.add 1) fun(tt:Sl)=>
 Nw (.cells #[.int .i64 NH,.slice tm.a tm.len tm.cap,.int .i64 NI,.slice tt.a tt.len tt.cap] 36) w fun(b5:Addr) w=>
 W9 ⟨some b4,2,2⟩ ⟨some b5,2,2⟩ w fun(one:Bool) w=>
 Ld (.i .i64) w r fun(fe:Int)=>Ld (.i .i64) w (r.add 1) fun(ir:Int)=>Ld .sl w (r.add 2) fun(eu:Sl)=>
 Ld (.i .i64) w s fun(D4:Int)=>Ld (.i .i64) w (s.add 1) fun(Jx:Int)=>Ld .sl w (s.add 2) fun(xd:Sl)=>
 Nw (.cells #[.int .i64 fe,.int .i64 ir,.slice eu.a eu.len eu.cap,.int .i64 D4,.int .i64 Jx,.slice xd.a xd.len xd.cap] 75) w fun(b6:Addr) w=>
 Ld (.i .i64) w t fun(lY:Int)=>Ld (.i .i64) w (t.add 1) fun(rL:Int)=>Ld .sl w (t.add 2) fun(jL:Sl)=>
 Ld (.i .i64) w t fun(D5:Int)=>Ld (.i .i64) w (t.add 1) fun(Jy:Int)=>Ld .sl w (t.add 2) fun(xe:Sl)=>
 Nw (.cells #[.int .i64 lY,.int .i64 rL,.slice jL.a jL.len jL.cap,.int .i64 D5,.int .i64 Jy,.slice xe.a xe.len xe.cap] 75) w fun(b7:Addr) w=>
 R3 ⟨some b6,2,2⟩ ⟨some b7,2,2⟩ w fun(two:Bool) w=>
 ∃J_:World->Prop,(Dr w fun w=>
 if (!one)=true then (R false w) else (if (!two)=true then (R false w) else (if (f !=h)=true then (R false w) else (if (g !=i)=true then (R false w) else (NN p fun(Nx:Addr)=>
 Ld .p w (Nx.add 1) fun(b8:Option Addr)=>
 Ld (.i .i64) w e fun(Jz:Int)=>Ld (.i .i64) w (e.add 1) fun(Tj:Int)=>
 c92 b8 Jz Tj w fun(r2:Bool) w=>
 if (!(is ==r2))=true then (R false w) else (J_ w)))))) /\ ∀w:World,J_ w->(Dr w fun w=>
 NN p fun(SO:Addr)=>
 Ld .sl w (a2.add 1) fun(bU:Sl)=>
 Xa (some (SO.add 6)) bU w fun w=>
 Dr w fun w=>
 NN p fun(DW:Addr)=>
 Ld .sl w (r.add 2) fun(ch:Sl)=>
 Xb (some (DW.add 6)) ch w fun w=>
 NN p fun(DX:Addr)=>
 V0 (some (DX.add 6)) w fun w=>
 Ld (.i .i64) w c fun(NJ:Int)=>Ld .sl w (c.add 1) fun(tu:Sl)=>
 Nw (.cells #[.int .i64 NJ,.slice tu.a tu.len tu.cap] 36) w fun(b9:Addr) w=>
 Ld (.i .i64) w b2 fun(NK:Int)=>Ld .sl w (b2.add 1) fun(tv:Sl)=>
 Nw (.cells #[.int .i64 NK,.slice tv.a tv.len tv.cap] 36) w fun(V7:Addr) w=>
 W9 ⟨some b9,1,1⟩ ⟨some V7,1,1⟩ w fun(SP:Bool) w=>
 Ld (.i .i64) w s fun(D6:Int)=>Ld (.i .i64) w (s.add 1) fun(JA:Int)=>Ld .sl w (s.add 2) fun(xf:Sl)=>
 Nw (.cells #[.int .i64 D6,.int .i64 JA,.slice xf.a xf.len xf.cap] 75) w fun(b11:Addr) w=>
 Ld (.i .i64) w t fun(D7:Int)=>Ld (.i .i64) w (t.add 1) fun(JB:Int)=>Ld .sl w (t.add 2) fun(xg:Sl)=>
 Nw (.cells #[.int .i64 D7,.int .i64 JB,.slice xg.a xg.len xg.cap] 75) w fun(b12:Addr) w=>
 R3 ⟨some b11,1,1⟩ ⟨some b12,1,1⟩ w fun(SQ:Bool) w=>
 Dr w fun w=>
 NN p fun(DY:Addr)=>
 Ld .sl w (c.add 1) fun(bT:Sl)=>
 Xa (some (DY.add 6)) bT w fun w=>
 Dr w fun w=>
 NN p fun(DZ:Addr)=>
 Ld .sl w (s.add 2) fun(iS:Sl)=>
 Xb (some (DZ.add 6)) iS w fun w=>
 NN p fun(D0:Addr)=>
 V0 (some (D0.add 6)) w fun w=>
 R (cond SP SQ false) w)
theorem Tk {p dj tg iR th bA cD bP aF bf w R} (h:f32 p dj tg iR th bA cD bP aF bf w R):c32 p dj tg iR th bA cD bP aF bf w R:=
  ah (H:=⟨[],[(13,⟨[],[0,6,8,10,12,14,16]⟩)]⟩) cr Tryz.func32 (cast (by kernel_rfl) h)
def f33 (w_:Option Addr) (w:World) (R:Option Addr->World->Prop):Prop:=
 Dr w fun w=>
 NN w_ fun(gC:Addr)=>
 Ld .sl w gC fun(kinds:Sl)=>
 NN w_ fun(mZ:Addr)=>
 Ld .p w (mZ.add 1) fun(ar:Option Addr)=>
 vI [(.map #[] 0,none),(.map #[] 0,none)] w fun(y y2:Option Addr) w=>
 V2 kinds w fun(r:Sl) w=>
 w.cell? (mZ.add 1)=some (.pointer ar) /\ (vI [(.map #[] 0,y),(.map #[] 0,y2)] w fun(y3 y4:Option Addr) w=>
 c95 ar w fun(r2:Option Addr) w=>
 vI [(.map #[] 0,y3),(.map #[] 0,y4)] w fun(y5 y6:Option Addr) w=>
 td y5 fun(a:Addr)=>
 vI [(.map #[] 0,y6)] w fun(y7:Option Addr) w=>
 td y7 fun(a2:Addr)=>
 Nw (.cells #[.slice r.a r.len r.cap,.pointer r2,.map (some a.block),.map (some a2.block)] 91) w fun(c:Addr) w=>
 NN w_ fun(D3:Addr)=>
 Ld .m w (D3.add 2) fun(aE:Option Nat)=>
 cA .p Tryz.prog (Instr.range 88 (.map aE)) w fun(it:Option Addr) w=>
 ∃aq:Nat->World->Prop,(∃n:Nat,aq n w) /\ ∀m:Nat,∀w:World,aq m w->(Ww Tryz.prog (.pointer it) 0 w (fun w=>
 NN w_ fun(S0:Addr)=>
 Ld .m w (S0.add 3) fun(tables:Option Nat)=>
 cA .p Tryz.prog (Instr.range 89 (.map tables)) w fun(it2:Option Addr) w=>
 ∃bc:Nat->World->Prop,(∃n:Nat,bc n w) /\ ∀m3:Nat,∀w:World,bc m3 w->(Ww Tryz.prog (.pointer it2) 0 w (fun w=>
 R (some c) w) fun(key elem:Value) w=>
 Wx Tryz.prog (.pointer it2) w fun(Tl JC:Value) w=>
 dx [.one (.i .i64)] (Tl) (fun(set:Int) _=>
 dx [.one .p] (JC) (fun(t:Option Addr) _=>
 Dr w fun w=>
 Ld .m w (c.add 3) fun(pG:Option Nat)=>
 c96 t w fun(r3:Option Addr) w=>
 w.cell? (c.add 3)=some (.map pG) /\ (rm Tryz.prog (Instr.mapUpdate 89 (.map pG) (.int .i64 set) (.pointer r3)) w fun w=>
 ∃m4:Nat,m4 < m3 /\ bc m4 w)) w) w)) fun(tw afy:Value) w=>
 Wx Tryz.prog (.pointer it) w fun(acw Xt:Value) w=>
 dx [.agg [.i .i64,.i .i64]] (acw) (fun(ag an:Int) _=>
 dx [.one (.i .i64)] (Xt) (fun(acx:Int) _=>
 Nw (.cells #[.int .i64 0,.int .i64 0] 33) w fun(e:Addr) w=>
 St e (.int .i64 ag) w fun w=>
 St (e.add 1) (.int .i64 an) w fun w=>
 Dr w fun w=>
 Ld .m w (c.add 2) fun(JD:Option Nat)=>
 Ld (.i .i64) w e fun(ay:Int)=>Ld (.i .i64) w (e.add 1) fun(aP:Int)=>
 rm Tryz.prog (Instr.mapUpdate 88 (.map JD) (.agg #[.int .i64 ay,.int .i64 aP]) (.int .i64 acx)) w fun w=>
 ∃m2:Nat,m2 < m /\ aq m2 w) w) w))
theorem Tm {w_ w R} (h:f33 w_ w R):c33 w_ w R:=
  ah (H:=⟨[(3,⟨[],[0,3,26]⟩),(7,⟨[],[3,42]⟩)],[]⟩) cr Tryz.func33 (cast (by kernel_rfl) h)
def f34 (p w_:Option Addr) (w:World) (R:World->Prop):Prop:=
 Dr w fun w=>
 NN p fun(p_:Addr)=>
 Ld .sl w (p_.add 4) fun(cR:Sl)=>
 NN p fun(nT:Addr)=>
 Ld .p w nT fun(a:Option Addr)=>
 Nw (.cells #[.pointer a] 41) w fun(b:Addr) w=>
 cA .sl Tryz.prog (Builtin.append_ #[44,44] 44 #[.slice cR.a cR.len cR.cap,.slice (some b) 1 1]) w fun(s:Sl) w=>
 NN p fun(nZ:Addr)=>
 St (nZ.add 4) (.slice s.a s.len s.cap) w fun w=>
 Dr w fun w=>
 NN p fun(vN:Addr)=>
 Ld .sl w (vN.add 5) fun(was:Sl)=>
 NN p fun(GO:Addr)=>
 Ld .p w (GO.add 1) fun(b2:Option Addr)=>
 c46 b2 w fun(r:Sl) w=>
 w.cell? (vN.add 5)=some (.slice was.a was.len was.cap) /\ (Ft w ⟨r.a,r.len,r.cap⟩ fun(x:ByteArray)=>
 Nw (.cells #[.string x] 9) w fun(b3:Addr) w=>
 cA .sl Tryz.prog (Builtin.append_ #[45,45] 45 #[.slice was.a was.len was.cap,.slice (some b3) 1 1]) w fun(s2:Sl) w=>
 NN p fun(Jl:Addr)=>
 St (Jl.add 5) (.slice s2.a s2.len s2.cap) w fun w=>
 NN p fun(Jm:Addr)=>
 St Jm (.pointer w_) w fun w=>
 R w)
theorem Tn {p w_ w R} (h:f34 p w_ w R):Z8 p w_ w R:=
  ah (H:=⟨[],[]⟩) cr Tryz.func34 (cast (by kernel_rfl) h)
def f35 (p:Option Addr) (w:World) (R:Bool->World->Prop):Prop:=
 NN p fun(p_:Addr)=>
 Ld .p w p_ fun(a:Option Addr)=>
 Qs a w fun(b:Sl) w=>
 Mk [.int .u8 0] 5 1 (i64.wrap ((b.len:Int)+8)) (i64.wrap ((b.len:Int)+8)) w fun(l:Sl) w=>
 cA (.i .i64) Tryz.prog (Builtin.copy_ #[23,23] 3 #[.slice l.a l.len l.cap,.slice b.a b.len b.cap]) w fun(n_:Int) w=>
 NN p fun(nT:Addr)=>
 Ld .sl w (nT.add 2) fun(kinds:Sl)=>
 Z5 kinds w fun(k:Sl) w=>
 Cut ⟨l.a,l.len,l.cap⟩ 0 (b.len:Int) (l.cap:Int) 1 fun(s:Sl)=>
 c19 k s w fun(w_:Option Addr) (e:Int) w=>
 NN p fun(nZ:Addr)=>
 Ld .sl w (nZ.add 2) fun(ti:Sl)=>
 W3 k ti w fun(whole:Bool) w=>
 Ft w ⟨l.a,l.len,l.cap⟩ fun(x:ByteArray)=>
 Ft w ⟨b.a,b.len,b.cap⟩ fun(x2:ByteArray)=>
 x2.size+(⟨#[0,0,0,0,0,0,0,0]⟩:ByteArray).size<=9223372036854775807 /\ (∃aq:Int->Nat->World->Prop,(∃n:Nat,aq 0 n w) /\ ∀i:Int,∀m:Nat,∀w:World,aq i m w->(if (decide (i < (l.len:Int)))=true then (Ix l.a l.len i 1 fun(a2:Addr)=>
 St a2 (.int .u8 99) w fun w=>
 ∃m2:Nat,m2 < m /\ aq (i64.wrap (i+1)) m2 w) else (if (cond (cond (cond w_.isNone true (e !=0)) true (!whole)) true (!(x.toList ==(x2++(⟨#[0,0,0,0,0,0,0,0]⟩:ByteArray)).toList)))=true then (R false w) else (Z8 p w_ w fun w=>
 R true w))))
theorem To {p w R} (h:f35 p w R):c35 p w R:=
  ah (H:=⟨[(9,⟨[(10,.i .i64)],[0,4,6,7,8,9]⟩)],[]⟩) cr Tryz.func35 (cast (by kernel_rfl) h)
def f36 (p:Option Addr) (w:World) (R:Sl->Sl->World->Prop):Prop:=
 NN p fun(p_:Addr)=>
 Ld .sl w (p_.add 1) fun(au:Sl)=>
 R8 au w fun(hH:Sl) w=>
 ∃aq:Int->Nat->World->Prop,(∃n:Nat,aq 0 n w) /\ ∀t13:Int,∀m:Nat,∀w:World,aq t13 m w->(if (decide (t13 < (hH.len:Int)))=true then (Ix hH.a hH.len t13 1 fun(a:Addr)=>
 Ld (.i .i64) w a fun(g:Int)=>
 ∃J_:Bool->World->Prop,(if (g ==1000000)=true then (NN p fun(nT:Addr)=>
 Ld .sl w (nT.add 2) fun(alive:Sl)=>
 Ix alive.a alive.len t13 1 fun(a2:Addr)=>
 Ld .b w a2 fun(x:Bool)=>
 J_ (!x) w) else (J_ false w)) /\ ∀t29:Bool,∀w:World,J_ t29 w->(if t29=true then (Ix hH.a hH.len t13 1 fun(a3:Addr)=>
 Ld (.i .i64) w a3 fun(x2:Int)=>
 Ix hH.a hH.len t13 1 fun(a4:Addr)=>
 St a4 (.int .i64 (i64.wrap (x2+1))) w fun w=>
 ∃m2:Nat,m2 < m /\ aq (i64.wrap (t13+1)) m2 w) else (∃m2:Nat,m2 < m /\ aq (i64.wrap (t13+1)) m2 w))) else (NN p fun(nZ:Addr)=>
 Ld .sl w (nZ.add 3) fun(free:Sl)=>
 R8 free w fun(uL:Sl) w=>
 R hH uL w))
theorem Tp {p w R} (h:f36 p w R):Z9 p w R:=
  ah (H:=⟨[(3,⟨[(13,.i .i64)],[0,2,11,12]⟩)],[(6,⟨[(29,.b)],[0,2,4,11,12,13]⟩)]⟩) cr Tryz.func36 (cast (by kernel_rfl) h)
def f37 (b l:Sl) (w:World) (R:Sl->World->Prop):Prop:=
 c98 b w fun(r:Sl) w=>
 c99 l w fun(r2:Sl) w=>
 cA .sl Tryz.prog (Builtin.append_ #[23,23] 23 #[.slice r.a r.len r.cap,.slice r2.a r2.len r2.cap]) w fun(s:Sl) w=>
 R s w
theorem Tq {b l w R} (h:f37 b l w R):c37 b l w R:=
  ah (H:=⟨[],[]⟩) cr Tryz.func37 (cast (by kernel_rfl) h)
def f38 (l:Sl) (w:World) (R:Sl->World->Prop):Prop:=
 ∃aq:Sl->Int->Nat->World->Prop,(∃n:Nat,aq ⟨none,0,0⟩ 0 n w) /\ ∀out:Sl,∀t8:Int,∀m:Nat,∀w:World,aq out t8 m w->(if (decide (t8 < (l.len:Int)))=true then (Ix l.a l.len t8 1 fun(a:Addr)=>
 Ld (.i .i64) w a fun(n_:Int)=>
 Nw (.cells #[.int .i64 n_] 2) w fun(b:Addr) w=>
 cA .sl Tryz.prog (Builtin.append_ #[34,34] 34 #[.slice out.a out.len out.cap,.slice (some b) 1 1]) w fun(bR:Sl) w=>
 ∃m2:Nat,m2 < m /\ aq bR (i64.wrap (t8+1)) m2 w) else (R out w))
theorem Ts {l w R} (h:f38 l w R):c38 l w R:=
  ah (H:=⟨[(3,⟨[(3,.sl),(8,.i .i64)],[6,7]⟩)],[]⟩) cr Tryz.func38 (cast (by kernel_rfl) h)
def f39 (w_:Option Addr) (w:World) (R:Sl->World->Prop):Prop:=
 NN w_ fun(gC:Addr)=>
 Ld .p w (gC.add 1) fun(ar:Option Addr)=>
 W5 ar w fun(r:Sl) w=>
 ∃aq:Sl->Int->Nat->World->Prop,(∃n:Nat,aq ⟨none,0,0⟩ 0 n w) /\ ∀out:Sl,∀t12:Int,∀m:Nat,∀w:World,aq out t12 m w->(if (decide (t12 < (r.len:Int)))=true then (Ix r.a r.len t12 2 fun(a:Addr)=>
 Ld (.i .i64) w a fun(ag:Int)=>Ld (.i .i64) w (a.add 1) fun(an:Int)=>
 Nw (.cells #[.int .i64 0,.int .i64 0] 33) w fun(e:Addr) w=>
 St e (.int .i64 ag) w fun w=>
 St (e.add 1) (.int .i64 an) w fun w=>
 Ld (.i .i64) w e fun(ay:Int)=>Ld (.i .i64) w (e.add 1) fun(aP:Int)=>
 M7 w_ ay aP w fun(cK ez:Int) (cm:Sl) w=>
 Nw (.cells #[.int .i64 cK,.int .i64 ez,.slice cm.a cm.len cm.cap] 75) w fun(b:Addr) w=>
 cA .sl Tryz.prog (Builtin.append_ #[71,71] 71 #[.slice out.a out.len out.cap,.slice (some b) 1 1]) w fun(bR:Sl) w=>
 ∃m2:Nat,m2 < m /\ aq bR (i64.wrap (t12+1)) m2 w) else (R out w))
theorem Tt {w_ w R} (h:f39 w_ w R):VY w_ w R:=
  ah (H:=⟨[(3,⟨[(3,.sl),(12,.i .i64)],[0,10,11]⟩)],[]⟩) cr Tryz.func39 (cast (by kernel_rfl) h)
def f40 (b:Sl) (n_:Int) (w:World) (R:Sl->World->Prop):Prop:=
 c98 b w fun(r:Sl) w=>
 Ai r n_ w fun(r2:Sl) w=>
 R r2 w
theorem Tu {b n_ w R} (h:f40 b n_ w R):c40 b n_ w R:=
  ah (H:=⟨[],[]⟩) cr Tryz.func40 (cast (by kernel_rfl) h)
def f41 (b:Sl) (n_:Int) (w:World) (R:Sl->World->Prop):Prop:=
 GH n_ w fun(r:Int) w=>
 c40 b r w fun(r2:Sl) w=>
 R r2 w
theorem Tv {b n_ w R} (h:f41 b n_ w R):c41 b n_ w R:=
  ah (H:=⟨[],[]⟩) cr Tryz.func41 (cast (by kernel_rfl) h)
def f42 (w_:Option Addr) (w:World) (R:Sl->World->Prop):Prop:=
 ∃aq:Sl->Int->Nat->World->Prop,(∃n:Nat,aq ⟨none,0,0⟩ 0 n w) /\ ∀out:Sl,∀i:Int,∀m:Nat,∀w:World,aq out i m w->(NN w_ fun(gC:Addr)=>
 Ld .sl w (gC.add 2) fun(L:Sl)=>
 if (decide (i < (L.len:Int)))=true then (Dr w fun w=>
 NN w_ fun(mZ:Addr)=>
 Ld .sl w (mZ.add 2) fun(L2:Sl)=>
 Ix L2.a L2.len i 3 fun(a:Addr)=>
 Ld (.i .i64) w a fun(gR:Int)=>Ld (.i .i64) w (a.add 1) fun(nF:Int)=>
 NN w_ fun(D3:Addr)=>
 Ld .sl w (D3.add 2) fun(L3:Sl)=>
 Ix L3.a L3.len i 3 fun(a2:Addr)=>
 Ld .sl w (a2.add 2) fun(ch:Sl)=>
 VW ch w fun(r:Sl) w=>
 w.cell? a=some (.int .i64 gR) /\ w.cell? (a.add 1)=some (.int .i64 nF) /\ w.cell? (mZ.add 2)=some (.slice L2.a L2.len L2.cap) /\ (Nw (.cells #[.int .i64 gR,.int .i64 nF,.slice r.a r.len r.cap] 75) w fun(b:Addr) w=>
 cA .sl Tryz.prog (Builtin.append_ #[71,71] 71 #[.slice out.a out.len out.cap,.slice (some b) 1 1]) w fun(bR:Sl) w=>
 ∃m2:Nat,m2 < m /\ aq bR (i64.wrap (i+1)) m2 w)) else (R out w))
theorem Tw {w_ w R} (h:f42 w_ w R):c42 w_ w R:=
  ah (H:=⟨[(3,⟨[(3,.sl),(4,.i .i64)],[0]⟩)],[]⟩) cr Tryz.func42 (cast (by kernel_rfl) h)
def f43 (w_:Option Addr) (w:World) (R:Option Nat->World->Prop):Prop:=
 Nw (.map #[] 0) w fun(out:Addr) w=>
 NN w_ fun(gC:Addr)=>
 Ld .m w (gC.add 3) fun(tables:Option Nat)=>
 cA .p Tryz.prog (Instr.range 89 (.map tables)) w fun(it:Option Addr) w=>
 ∃aq:Nat->World->Prop,(∃n:Nat,aq n w) /\ ∀m:Nat,∀w:World,aq m w->(Ww Tryz.prog (.pointer it) 0 w (fun w=>
 R (some out.block) w) fun(key elem:Value) w=>
 Wx Tryz.prog (.pointer it) w fun(Tl JC:Value) w=>
 dx [.one (.i .i64)] (Tl) (fun(set:Int) _=>
 dx [.one .p] (JC) (fun(t:Option Addr) _=>
 GI t w fun(r:Int) w=>
 rm Tryz.prog (Instr.mapUpdate 99 (.map (some out.block)) (.int .i64 set) (.int .i64 r)) w fun w=>
 ∃m2:Nat,m2 < m /\ aq m2 w) w) w)
theorem Tx {w_ w R} (h:f43 w_ w R):c43 w_ w R:=
  ah (H:=⟨[(3,⟨[],[3,11]⟩)],[]⟩) cr Tryz.func43 (cast (by kernel_rfl) h)
def f44 (w_:Option Addr) (w:World) (R:Sl->World->Prop):Prop:=
 ∃aq:Sl->Int->Nat->World->Prop,(∃n:Nat,aq ⟨none,0,0⟩ 0 n w) /\ ∀out:Sl,∀i:Int,∀m:Nat,∀w:World,aq out i m w->(NN w_ fun(gC:Addr)=>
 Ld .sl w (gC.add 2) fun(L:Sl)=>
 if (decide (i < (L.len:Int)))=true then (NN w_ fun(mZ:Addr)=>
 Ld .sl w (mZ.add 2) fun(L2:Sl)=>
 Ix L2.a L2.len i 3 fun(a:Addr)=>
 Ld .sl w (a.add 2) fun(ch:Sl)=>
 M8 ch w fun(set:Int) w=>
 ∃J_:Int->World->Prop,(∃bc:Int->Nat->World->Prop,(∃n:Nat,bc 0 n w) /\ ∀k:Int,∀m3:Nat,∀w:World,bc k m3 w->(if (decide (k < (out.len:Int)))=true then (Ix out.a out.len k 2 fun(a2:Addr)=>
 Ld (.i .i64) w a2 fun(Set:Int)=>
 if (Set !=set)=true then (∃m4:Nat,m4 < m3 /\ bc (i64.wrap (k+1)) m4 w) else (J_ k w)) else (J_ k w))) /\ ∀k2:Int,∀w:World,J_ k2 w->(∃sL:Sl->World->Prop,(if (k2 ==(out.len:Int))=true then (Nw (.cells #[.int .i64 set,.int .i64 0] 157) w fun(b:Addr) w=>
 cA .sl Tryz.prog (Builtin.append_ #[101,101] 101 #[.slice out.a out.len out.cap,.slice (some b) 1 1]) w fun(bR:Sl) w=>
 sL bR w) else (sL out w)) /\ ∀fV:Sl,∀w:World,sL fV w->(Ix fV.a fV.len k2 2 fun(a3:Addr)=>
 Ld (.i .i64) w (a3.add 1) fun(N:Int)=>
 Ix fV.a fV.len k2 2 fun(a4:Addr)=>
 St (a4.add 1) (.int .i64 (i64.wrap (N+1))) w fun w=>
 ∃m2:Nat,m2 < m /\ aq fV (i64.wrap (i+1)) m2 w))) else (R out w))
theorem Ty {w_ w R} (h:f44 w_ w R):c44 w_ w R:=
  ah (H:=⟨[(3,⟨[(3,.sl),(4,.i .i64)],[0]⟩),(7,⟨[(6,.i .i64)],[0,3,4,5]⟩)],[(9,⟨[(6,.i .i64)],[0,3,4,5]⟩),(11,⟨[(3,.sl)],[0,4,6]⟩)]⟩) cr Tryz.func44 (cast (by kernel_rfl) h)
def f45 (w_:Option Addr) (w:World) (R:Sl->World->Prop):Prop:=
 NN w_ fun(gC:Addr)=>
 Ld .sl w gC fun(kinds:Sl)=>
 V2 kinds w fun(r:Sl) w=>
 R r w
theorem Tz {w_ w R} (h:f45 w_ w R):c45 w_ w R:=
  ah (H:=⟨[],[]⟩) cr Tryz.func45 (cast (by kernel_rfl) h)
def f46 (w_:Option Addr) (w:World) (R:Sl->World->Prop):Prop:=
 R9 w_ w fun(b:Sl) w=>
 ∃aq:Sl->Int->Nat->World->Prop,(∃n:Nat,aq b 0 n w) /\ ∀b2:Sl,∀i:Int,∀m:Nat,∀w:World,aq b2 i m w->(NN w_ fun(gC:Addr)=>
 Ld .sl w (gC.add 2) fun(L:Sl)=>
 if (decide (i < (L.len:Int)))=true then (NN w_ fun(mZ:Addr)=>
 Ld .sl w (mZ.add 2) fun(L2:Sl)=>
 Ix L2.a L2.len i 3 fun(a:Addr)=>
 Ld .sl w (a.add 2) fun(ch:Sl)=>
 M8 ch w fun(r:Int) w=>
 DM b2 (u64.wrap r) w fun(b3:Sl) w=>
 ∃bc:Sl->Int->Nat->World->Prop,(∃n:Nat,bc b3 0 n w) /\ ∀b4:Sl,∀k:Int,∀m3:Nat,∀w:World,bc b4 k m3 w->(if (decide (k < (ch.len:Int)))=true then (∃eg:Sl->Int->Nat->World->Prop,(∃n:Nat,eg b4 0 n w) /\ ∀b5:Sl,∀j:Int,∀m5:Nat,∀w:World,eg b5 j m5 w->(Ix ch.a ch.len k 2 fun(a2:Addr)=>
 Ld .sl w (a2.add 1) fun(bU:Sl)=>
 if (decide (j < (bU.len:Int)))=true then (Ix ch.a ch.len k 2 fun(a3:Addr)=>
 Ld .sl w (a3.add 1) fun(bT:Sl)=>
 Ix bT.a bT.len j 1 fun(a4:Addr)=>
 Ld (.i .i64) w a4 fun(x:Int)=>
 GJ b5 x w fun(b6:Sl) w=>
 ∃m6:Nat,m6 < m5 /\ eg b6 (i64.wrap (j+1)) m6 w) else (∃m4:Nat,m4 < m3 /\ bc b5 (i64.wrap (k+1)) m4 w))) else (∃m2:Nat,m2 < m /\ aq b4 (i64.wrap (i+1)) m2 w))) else (R b2 w))
theorem TA {w_ w R} (h:f46 w_ w R):c46 w_ w R:=
  ah (H:=⟨[(3,⟨[(3,.sl),(4,.i .i64)],[0]⟩),(8,⟨[(3,.sl),(6,.i .i64)],[0,4,5]⟩),(11,⟨[(3,.sl),(7,.i .i64)],[0,4,5,6]⟩)],[]⟩) cr Tryz.func46 (cast (by kernel_rfl) h)
def f47 (a b:Sl) (w:World) (R:Bool->World->Prop):Prop:=
 if ((a.len:Int) !=(b.len:Int))=true then (R false w) else (∃aq:Int->Nat->World->Prop,(∃n:Nat,aq 0 n w) /\ ∀i:Int,∀m:Nat,∀w:World,aq i m w->(if (decide (i < (a.len:Int)))=true then (Dr w fun w=>
 Ix a.a a.len i 3 fun(a2:Addr)=>
 Ld .sl w (a2.add 2) fun(ch:Sl)=>
 Ix b.a b.len i 3 fun(a3:Addr)=>
 Ld .sl w (a3.add 2) fun(iS:Sl)=>
 W9 ch iS w fun(ok:Bool) w=>
 Dr w fun w=>
 if (!ok)=true then (R false w) else (Ix a.a a.len i 3 fun(a4:Addr)=>
 Ld (.i .i64) w a4 fun(gR:Int)=>Ld (.i .i64) w (a4.add 1) fun(nF:Int)=>
 Ix b.a b.len i 3 fun(a5:Addr)=>
 Ld (.i .i64) w a5 fun(JE:Int)=>Ld (.i .i64) w (a5.add 1) fun(TB:Int)=>
 iH .b Tryz.prog (cH .neq 33 (.tmp 36) (.tmp 41) (.agg #[.int .i64 gR,.int .i64 nF]) (.agg #[.int .i64 JE,.int .i64 TB])) w fun(eq:Bool)=>
 if eq=true then (R false w) else (∃m2:Nat,m2 < m /\ aq (i64.wrap (i+1)) m2 w))) else (R true w)))
theorem TC {a b w R} (h:f47 a b w R):R3 a b w R:=
  ah (H:=⟨[(4,⟨[(5,.i .i64)],[0,1]⟩)],[]⟩) cr Tryz.func47 (cast (by kernel_rfl) h)
def f48 (a:Option Nat) (b:Sl) (w:World) (R:Bool->World->Prop):Prop:=
 iH (.i .i64) Tryz.prog (Builtin.len_ #[99] 3 #[.map a]) w fun(n_:Int)=>
 if (n_ !=(b.len:Int))=true then (R false w) else (∃aq:Int->Nat->World->Prop,(∃n:Nat,aq 0 n w) /\ ∀i:Int,∀m:Nat,∀w:World,aq i m w->(if (decide (i < (b.len:Int)))=true then (Ix b.a b.len i 2 fun(a2:Addr)=>
 Ld (.i .i64) w a2 fun(Set:Int)=>
 gB [.one (.i .i64),.one .b] Tryz.prog (Instr.lookup 99 (.map a) (.int .i64 Set) true) w fun(e:Int) (ok:Bool) _=>
 if (!ok)=true then (R false w) else (Ix b.a b.len i 2 fun(a3:Addr)=>
 Ld (.i .i64) w (a3.add 1) fun(N:Int)=>
 if (e !=N)=true then (R false w) else (∃m2:Nat,m2 < m /\ aq (i64.wrap (i+1)) m2 w))) else (R true w)))
theorem TD {a b w R} (h:f48 a b w R):c48 a b w R:=
  ah (H:=⟨[(4,⟨[(5,.i .i64)],[0,1]⟩)],[]⟩) cr Tryz.func48 (cast (by kernel_rfl) h)
def f49 (a b:Sl) (w:World) (R:Bool->World->Prop):Prop:=
 if ((a.len:Int) !=(b.len:Int))=true then (R false w) else (∃aq:Int->Nat->World->Prop,(∃n:Nat,aq 0 n w) /\ ∀i:Int,∀m:Nat,∀w:World,aq i m w->(if (decide (i < (a.len:Int)))=true then (∃J_:World->Prop,(Dr w fun w=>
 Ix a.a a.len i 2 fun(a2:Addr)=>
 Ld .s w a2 fun(Name:ByteArray)=>
 Ix b.a b.len i 2 fun(a3:Addr)=>
 Ld .s w a3 fun(Xu:ByteArray)=>
 if (!(Name.toList ==Xu.toList))=true then (R false w) else (Ix a.a a.len i 2 fun(a4:Addr)=>
 Ld .sl w (a4.add 1) fun(cV:Sl)=>
 Ix b.a b.len i 2 fun(a5:Addr)=>
 Ld .sl w (a5.add 1) fun(gr:Sl)=>
 if ((cV.len:Int) !=(gr.len:Int))=true then (R false w) else (J_ w))) /\ ∀w:World,J_ w->(∃bc:Int->Nat->World->Prop,(∃n:Nat,bc 0 n w) /\ ∀k:Int,∀m3:Nat,∀w:World,bc k m3 w->(Ix a.a a.len i 2 fun(a6:Addr)=>
 Ld .sl w (a6.add 1) fun(pF:Sl)=>
 if (decide (k < (pF.len:Int)))=true then (Dr w fun w=>
 Ix a.a a.len i 2 fun(a7:Addr)=>
 Ld .sl w (a7.add 1) fun(vS:Sl)=>
 Ix vS.a vS.len k 1 fun(a8:Addr)=>
 Ld .s w a8 fun(x:ByteArray)=>
 Ix b.a b.len i 2 fun(a9:Addr)=>
 Ld .sl w (a9.add 1) fun(vT:Sl)=>
 Ix vT.a vT.len k 1 fun(Mu:Addr)=>
 Ld .s w Mu fun(x2:ByteArray)=>
 if (!(x.toList ==x2.toList))=true then (R false w) else (∃m4:Nat,m4 < m3 /\ bc (i64.wrap (k+1)) m4 w)) else (∃m2:Nat,m2 < m /\ aq (i64.wrap (i+1)) m2 w)))) else (R true w)))
theorem TE {a b w R} (h:f49 a b w R):VZ a b w R:=
  ah (H:=⟨[(4,⟨[(5,.i .i64)],[0,1]⟩),(9,⟨[(6,.i .i64)],[0,1,5]⟩)],[(8,⟨[],[0,1,5]⟩)]⟩) cr Tryz.func49 (cast (by kernel_rfl) h)
def f50 (b:Option Addr) (l:Sl) (w:World) (R:World->Prop):Prop:=
 NN b fun(b_:Addr)=>
 Ld .sl w (b_.add 2) fun(r:Sl)=>
 ∃aq:Int->Nat->World->Prop,(∃n:Nat,aq 0 n w) /\ ∀i:Int,∀m:Nat,∀w:World,aq i m w->(if (decide (i < (l.len:Int)))=true then (Ix l.a l.len i 3 fun(a:Addr)=>
 Ld .sl w (a.add 2) fun(ch:Sl)=>
 Xb b ch w fun w=>
 Ix l.a l.len i 3 fun(a2:Addr)=>
 St a2 (.int .i64 (i64.wrap (1000000+(r.len:Int)))) w fun w=>
 St (a2.add 1) (.int .i64 0) w fun w=>
 St (a2.add 2) (.slice none 0 0) w fun w=>
 ∃m2:Nat,m2 < m /\ aq (i64.wrap (i+1)) m2 w) else (NN b fun(Nr:Addr)=>
 Ld .sl w (Nr.add 2) fun(r2:Sl)=>
 Nw (.cells #[.slice l.a l.len l.cap] 71) w fun(b2:Addr) w=>
 cA .sl Tryz.prog (Builtin.append_ #[48,48] 48 #[.slice r2.a r2.len r2.cap,.slice (some b2) 1 1]) w fun(s:Sl) w=>
 NN b fun(Ns:Addr)=>
 St (Ns.add 2) (.slice s.a s.len s.cap) w fun w=>
 NN b fun(Nt:Addr)=>
 Ld .sl w (Nt.add 5) fun(z:Sl)=>
 Nw (.cells #[.int .i64 (i64.wrap (1000000+(r.len:Int)))] 3) w fun(b3:Addr) w=>
 cA .sl Tryz.prog (Builtin.append_ #[49,49] 49 #[.slice z.a z.len z.cap,.slice (some b3) 1 1]) w fun(s2:Sl) w=>
 NN b fun(Nu:Addr)=>
 St (Nu.add 5) (.slice s2.a s2.len s2.cap) w fun w=>
 R w))
theorem TF {b l w R} (h:f50 b l w R):c50 b l w R:=
  ah (H:=⟨[(2,⟨[(5,.i .i64)],[0,1,4]⟩)],[]⟩) cr Tryz.func50 (cast (by kernel_rfl) h)
def f51 (b:Option Addr) (w:World) (R:World->Prop):Prop:=
 NN b fun(b_:Addr)=>
 Ld .sl w b_ fun(v:Sl)=>
 NN b fun(Nr:Addr)=>
 Ld (.i .i64) w (Nr.add 6) fun(i:Int)=>
 ∃aq:Int->Nat->World->Prop,(∃n:Nat,aq i n w) /\ ∀i2:Int,∀m:Nat,∀w:World,aq i2 m w->(if (decide (i2 < (v.len:Int)))=true then (NN b fun(Ns:Addr)=>
 Ld .sl w Ns fun(v2:Sl)=>
 Ix v2.a v2.len i2 1 fun(a:Addr)=>
 Ld .sl w a fun(l:Sl)=>
 ∃bc:Sl->Int->Nat->World->Prop,(∃n:Nat,bc l 0 n w) /\ ∀l2:Sl,∀k:Int,∀m3:Nat,∀w:World,bc l2 k m3 w->(NN b fun(Nt:Addr)=>
 Ld (.i .i64) w (Nt.add 6) fun(i3:Int)=>
 M9 (i64.wrap (i2 - i3)) w fun(r:Int) w=>
 if (decide (k < r))=true then (NN b fun(Nu:Addr)=>
 Ld .sl w (Nu.add 3) fun(x:Sl)=>
 Ix x.a x.len i2 1 fun(a2:Addr)=>
 Ld (.i .i64) w a2 fun(x2:Int)=>
 Nw (.cells #[.int .i64 x2] 2) w fun(b2:Addr) w=>
 cA .sl Tryz.prog (Builtin.append_ #[34,34] 34 #[.slice l2.a l2.len l2.cap,.slice (some b2) 1 1]) w fun(l3:Sl) w=>
 ∃m4:Nat,m4 < m3 /\ bc l3 (i64.wrap (k+1)) m4 w) else (NN b fun(Nv:Addr)=>
 Ld .sl w Nv fun(v3:Sl)=>
 Nw (.cells #[.slice l2.a l2.len l2.cap] 34) w fun(b3:Addr) w=>
 cA .sl Tryz.prog (Builtin.append_ #[46,46] 46 #[.slice v3.a v3.len v3.cap,.slice (some b3) 1 1]) w fun(s:Sl) w=>
 NN b fun(Xo:Addr)=>
 St Xo (.slice s.a s.len s.cap) w fun w=>
 Dr w fun w=>
 NN b fun(Xp:Addr)=>
 Ld .sl w (Xp.add 3) fun(x3:Sl)=>
 NN b fun(Xq:Addr)=>
 Ld .sl w (Xq.add 3) fun(x4:Sl)=>
 Ix x4.a x4.len i2 1 fun(a3:Addr)=>
 Ld (.i .i64) w a3 fun(x5:Int)=>
 Nw (.cells #[.int .i64 x5] 2) w fun(b4:Addr) w=>
 cA .sl Tryz.prog (Builtin.append_ #[34,34] 34 #[.slice x3.a x3.len x3.cap,.slice (some b4) 1 1]) w fun(s2:Sl) w=>
 NN b fun(Jk:Addr)=>
 St (Jk.add 3) (.slice s2.a s2.len s2.cap) w fun w=>
 ∃m2:Nat,m2 < m /\ aq (i64.wrap (i2+1)) m2 w))) else (NN b fun(SI:Addr)=>
 Ld .sl w SI fun(v4:Sl)=>
 NN b fun(SJ:Addr)=>
 St (SJ.add 6) (.int .i64 (v4.len:Int)) w fun w=>
 NN b fun(SK:Addr)=>
 Ld .sl w (SK.add 1) fun(p:Sl)=>
 NN b fun(SL:Addr)=>
 Ld (.i .i64) w (SL.add 7) fun(j:Int)=>
 ∃eg:Int->Nat->World->Prop,(∃n:Nat,eg j n w) /\ ∀i4:Int,∀m5:Nat,∀w:World,eg i4 m5 w->(if (decide (i4 < (p.len:Int)))=true then (NN b fun(acy:Addr)=>
 Ld .sl w (acy.add 1) fun(p2:Sl)=>
 Ix p2.a p2.len i4 1 fun(a4:Addr)=>
 Ld .sl w a4 fun(l4:Sl)=>
 ∃oB:Sl->Int->Nat->World->Prop,(∃n:Nat,oB l4 0 n w) /\ ∀l5:Sl,∀k2:Int,∀m7:Nat,∀w:World,oB l5 k2 m7 w->(NN b fun(acz:Addr)=>
 Ld (.i .i64) w (acz.add 7) fun(j2:Int)=>
 M9 (i64.wrap (i4 - j2)) w fun(r2:Int) w=>
 if (decide (k2 < r2))=true then (NN b fun(acA:Addr)=>
 Ld .sl w (acA.add 4) fun(y:Sl)=>
 Ix y.a y.len i4 1 fun(a5:Addr)=>
 Ld (.i .i64) w a5 fun(x6:Int)=>
 Nw (.cells #[.int .i64 x6,.slice none 0 0] 36) w fun(b5:Addr) w=>
 cA .sl Tryz.prog (Builtin.append_ #[37,37] 37 #[.slice l5.a l5.len l5.cap,.slice (some b5) 1 1]) w fun(l6:Sl) w=>
 ∃m8:Nat,m8 < m7 /\ oB l6 (i64.wrap (k2+1)) m8 w) else (NN b fun(acB:Addr)=>
 Ld .sl w (acB.add 1) fun(p3:Sl)=>
 Nw (.cells #[.slice l5.a l5.len l5.cap] 37) w fun(b6:Addr) w=>
 cA .sl Tryz.prog (Builtin.append_ #[47,47] 47 #[.slice p3.a p3.len p3.cap,.slice (some b6) 1 1]) w fun(s3:Sl) w=>
 NN b fun(TG:Addr)=>
 St (TG.add 1) (.slice s3.a s3.len s3.cap) w fun w=>
 Dr w fun w=>
 NN b fun(TH:Addr)=>
 Ld .sl w (TH.add 4) fun(y2:Sl)=>
 NN b fun(TI:Addr)=>
 Ld .sl w (TI.add 4) fun(y3:Sl)=>
 Ix y3.a y3.len i4 1 fun(a6:Addr)=>
 Ld (.i .i64) w a6 fun(x7:Int)=>
 Nw (.cells #[.int .i64 x7] 3) w fun(b7:Addr) w=>
 cA .sl Tryz.prog (Builtin.append_ #[49,49] 49 #[.slice y2.a y2.len y2.cap,.slice (some b7) 1 1]) w fun(s4:Sl) w=>
 NN b fun(TJ:Addr)=>
 St (TJ.add 4) (.slice s4.a s4.len s4.cap) w fun w=>
 ∃m6:Nat,m6 < m5 /\ eg (i64.wrap (i4+1)) m6 w))) else (NN b fun(acC:Addr)=>
 Ld .sl w (acC.add 1) fun(p4:Sl)=>
 NN b fun(acD:Addr)=>
 St (acD.add 7) (.int .i64 (p4.len:Int)) w fun w=>
 NN b fun(acE:Addr)=>
 Ld .sl w (acE.add 2) fun(r3:Sl)=>
 NN b fun(acF:Addr)=>
 Ld (.i .i64) w (acF.add 8) fun(k3:Int)=>
 ∃wT:Int->Nat->World->Prop,(∃n:Nat,wT k3 n w) /\ ∀i5:Int,∀m9:Nat,∀w:World,wT i5 m9 w->(if (decide (i5 < (r3.len:Int)))=true then (NN b fun(acG:Addr)=>
 Ld .sl w (acG.add 2) fun(r4:Sl)=>
 Ix r4.a r4.len i5 1 fun(a7:Addr)=>
 Ld .sl w a7 fun(l7:Sl)=>
 ∃wU:Sl->Int->Nat->World->Prop,(∃n:Nat,wU l7 0 n w) /\ ∀l8:Sl,∀k4:Int,∀Qv:Nat,∀w:World,wU l8 k4 Qv w->(if (decide (k4 < 70))=true then (NN b fun(acH:Addr)=>
 Ld .sl w (acH.add 5) fun(z:Sl)=>
 Ix z.a z.len i5 1 fun(a8:Addr)=>
 Ld (.i .i64) w a8 fun(x8:Int)=>
 Nw (.cells #[.int .i64 x8,.int .i64 0,.slice none 0 0] 75) w fun(b8:Addr) w=>
 cA .sl Tryz.prog (Builtin.append_ #[71,71] 71 #[.slice l8.a l8.len l8.cap,.slice (some b8) 1 1]) w fun(l9:Sl) w=>
 ∃Xr:Nat,Xr < Qv /\ wU l9 (i64.wrap (k4+1)) Xr w) else (NN b fun(acI:Addr)=>
 Ld .sl w (acI.add 2) fun(r5:Sl)=>
 Nw (.cells #[.slice l8.a l8.len l8.cap] 71) w fun(b9:Addr) w=>
 cA .sl Tryz.prog (Builtin.append_ #[48,48] 48 #[.slice r5.a r5.len r5.cap,.slice (some b9) 1 1]) w fun(s5:Sl) w=>
 NN b fun(TK:Addr)=>
 St (TK.add 2) (.slice s5.a s5.len s5.cap) w fun w=>
 Dr w fun w=>
 NN b fun(TL:Addr)=>
 Ld .sl w (TL.add 5) fun(z2:Sl)=>
 NN b fun(TM:Addr)=>
 Ld .sl w (TM.add 5) fun(z3:Sl)=>
 Ix z3.a z3.len i5 1 fun(a9:Addr)=>
 Ld (.i .i64) w a9 fun(x9:Int)=>
 Nw (.cells #[.int .i64 x9] 3) w fun(V7:Addr) w=>
 cA .sl Tryz.prog (Builtin.append_ #[49,49] 49 #[.slice z2.a z2.len z2.cap,.slice (some V7) 1 1]) w fun(s6:Sl) w=>
 NN b fun(TN:Addr)=>
 St (TN.add 5) (.slice s6.a s6.len s6.cap) w fun w=>
 ∃Qw:Nat,Qw < m9 /\ wT (i64.wrap (i5+1)) Qw w))) else (NN b fun(acJ:Addr)=>
 Ld .sl w (acJ.add 2) fun(r6:Sl)=>
 NN b fun(acK:Addr)=>
 St (acK.add 8) (.int .i64 (r6.len:Int)) w fun w=>
 R w))))))
theorem TO {b w R} (h:f51 b w R):V0 b w R:=
  ah (H:=⟨[(2,⟨[(3,.i .i64)],[0,2]⟩),(6,⟨[(4,.sl),(5,.i .i64)],[0,2,3]⟩),(14,⟨[(6,.i .i64)],[0,2]⟩),(18,⟨[(7,.sl),(8,.i .i64)],[0,2,6]⟩),(26,⟨[(9,.i .i64)],[0,2]⟩),(30,⟨[(10,.sl),(11,.i .i64)],[0,2,9]⟩)],[]⟩) cr Tryz.func51 (cast (by kernel_rfl) h)
def f52 (kinds:Sl) (w:World) (R:Bool->World->Prop):Prop:=
 ∃aq:Sl->Int->Nat->World->Prop,(∃n:Nat,aq ⟨none,0,0⟩ 0 n w) /\ ∀names:Sl,∀t8:Int,∀m:Nat,∀w:World,aq names t8 m w->(if (decide (t8 < (kinds.len:Int)))=true then (Ix kinds.a kinds.len t8 2 fun(a:Addr)=>
 Ld .s w a fun(D8:ByteArray)=>Ld .sl w (a.add 1) fun(kj:Sl)=>
 Nw (.cells #[.string (⟨#[]⟩:ByteArray),.slice none 0 0] 107) w fun(k:Addr) w=>
 St k (.string D8) w fun w=>
 St (k.add 1) (.slice kj.a kj.len kj.cap) w fun w=>
 ∃J_:World->Prop,(Ld .sl w (k.add 1) fun(cV:Sl)=>
 if (decide ((cV.len:Int) > 4))=true then (R false w) else (Ld .sl w (k.add 1) fun(gr:Sl)=>
 Na gr w fun(r:Bool) w=>
 if (!r)=true then (R false w) else (J_ w))) /\ ∀w:World,J_ w->(Ld .s w k fun(Name:ByteArray)=>
 Nw (.cells #[.string Name] 9) w fun(b:Addr) w=>
 cA .sl Tryz.prog (Builtin.append_ #[45,45] 45 #[.slice names.a names.len names.cap,.slice (some b) 1 1]) w fun(oD:Sl) w=>
 ∃m2:Nat,m2 < m /\ aq oD (i64.wrap (t8+1)) m2 w)) else (if (decide ((kinds.len:Int)>=1))=true then (if (decide ((kinds.len:Int)<=12))=true then (Na names w fun(r2:Bool) w=>
 R r2 w) else (R false w)) else (R false w)))
theorem JF {kinds w R} (h:f52 kinds w R):c52 kinds w R:=
  ah (H:=⟨[(3,⟨[(3,.sl),(8,.i .i64)],[0,6,7]⟩)],[(7,⟨[],[0,3,5,6,7,8]⟩)]⟩) cr Tryz.func52 (cast (by kernel_rfl) h)
def f53 (aO:Int) (w:World) (R:Option Addr->Int->World->Prop):Prop:=
 if (cond (decide (aO < 1)) true (decide (aO > 200)))=true then (R none 1 w) else (Nw (.cells #[.int .i64 aO,.slice none 0 0,.slice none 0 0,.slice none 0 0] 149) w fun(a:Addr) w=>
 R (some a) 0 w)
theorem JG {aO w R} (h:f53 aO w R):V1 aO w R:=
  ah (H:=⟨[],[]⟩) cr Tryz.func53 (cast (by kernel_rfl) h)
def f54 (kinds:Sl) (w:World) (R:Sl->World->Prop):Prop:=
 Nb kinds w fun(out:Sl) w=>
 ∃aq:Int->Nat->World->Prop,(∃n:Nat,aq 0 n w) /\ ∀t9:Int,∀m:Nat,∀w:World,aq t9 m w->(if (decide (t9 < (out.len:Int)))=true then (Ix out.a out.len t9 2 fun(a:Addr)=>
 Ld .sl w (a.add 1) fun(cV:Sl)=>
 Sa cV w fun(r:Sl) w=>
 Ix out.a out.len t9 2 fun(a2:Addr)=>
 St (a2.add 1) (.slice r.a r.len r.cap) w fun w=>
 ∃m2:Nat,m2 < m /\ aq (i64.wrap (t9+1)) m2 w) else (R out w))
theorem JH {kinds w R} (h:f54 kinds w R):V2 kinds w R:=
  ah (H:=⟨[(3,⟨[(9,.i .i64)],[3,8]⟩)],[]⟩) cr Tryz.func54 (cast (by kernel_rfl) h)
def f55 (w_:Option Addr) (kind:Int) (w:World) (R:Int->Bool->World->Prop):Prop:=
 ∃J_:World->Prop,(if (decide (kind < 1))=true then (R 0 false w) else (NN w_ fun(gC:Addr)=>
 Ld .sl w gC fun(kinds:Sl)=>
 if (decide (kind >(kinds.len:Int)))=true then (R 0 false w) else (J_ w))) /\ ∀w:World,J_ w->(NN w_ fun(mZ:Addr)=>
 Ld .sl w mZ fun(ti:Sl)=>
 Ix ti.a ti.len (i64.wrap (kind - 1)) 2 fun(a:Addr)=>
 Ld .sl w (a.add 1) fun(cV:Sl)=>
 R (cV.len:Int) true w)
theorem TP {w_ kind w R} (h:f55 w_ kind w R):W4 w_ kind w R:=
  ah (H:=⟨[],[(3,⟨[],[0,1]⟩)]⟩) cr Tryz.func55 (cast (by kernel_rfl) h)
def f56 (s:Sl) (i:Int) (v:Sl) (w:World) (R:Sl->World->Prop):Prop:=
 Cut ⟨s.a,s.len,s.cap⟩ i (s.len:Int) (s.cap:Int) 1 fun(s2:Sl)=>
 if ((v.len:Int) ==0)=true then (R s w) else (if (i ==(s.len:Int))=true then (cA .sl Tryz.prog (Builtin.append_ #[34,34] 34 #[.slice s.a s.len s.cap,.slice v.a v.len v.cap]) w fun(s3:Sl) w=>
 R s3 w) else (if (decide ((i64.wrap ((s.len:Int)+(v.len:Int))) >(s.cap:Int)))=true then (Cut ⟨s.a,s.len,s.cap⟩ 0 i (s.cap:Int) 1 fun(s4:Sl)=>
 cA .sl Tryz.prog (Builtin.append_ #[34,3] 34 #[.slice s4.a s4.len s4.cap,.int .i64 (i64.wrap ((i64.wrap ((s.len:Int)+(v.len:Int))) - i))]) w fun(JI:Sl) w=>
 Cut ⟨JI.a,JI.len,JI.cap⟩ i (JI.len:Int) (JI.cap:Int) 1 fun(s5:Sl)=>
 cA (.i .i64) Tryz.prog (Builtin.copy_ #[34,34] 3 #[.slice s5.a s5.len s5.cap,.slice v.a v.len v.cap]) w fun(n_:Int) w=>
 Dr w fun w=>
 Cut ⟨JI.a,JI.len,JI.cap⟩ (i64.wrap (i+(v.len:Int))) (JI.len:Int) (JI.cap:Int) 1 fun(s6:Sl)=>
 Cut ⟨s.a,s.len,s.cap⟩ i (s.len:Int) (s.cap:Int) 1 fun(s7:Sl)=>
 cA (.i .i64) Tryz.prog (Builtin.copy_ #[34,34] 3 #[.slice s6.a s6.len s6.cap,.slice s7.a s7.len s7.cap]) w fun(vQ:Int) w=>
 R JI w) else (Cut ⟨s.a,s.len,s.cap⟩ 0 (i64.wrap ((s.len:Int)+(v.len:Int))) (s.cap:Int) 1 fun(s8:Sl)=>
 Cut ⟨s8.a,s8.len,s8.cap⟩ (i64.wrap (i+(v.len:Int))) (s8.len:Int) (s8.cap:Int) 1 fun(s9:Sl)=>
 Bl Tryz.prog 112 [.slice v.a v.len v.cap,.slice s9.a s9.len s9.cap] [.one .b] w fun(r:Bool) w=>
 if (!r)=true then (Dr w fun w=>
 Cut ⟨s8.a,s8.len,s8.cap⟩ (i64.wrap (i+(v.len:Int))) (s8.len:Int) (s8.cap:Int) 1 fun(Xv:Sl)=>
 Cut ⟨s8.a,s8.len,s8.cap⟩ i (s8.len:Int) (s8.cap:Int) 1 fun(s11:Sl)=>
 cA (.i .i64) Tryz.prog (Builtin.copy_ #[34,34] 3 #[.slice Xv.a Xv.len Xv.cap,.slice s11.a s11.len s11.cap]) w fun(n_3:Int) w=>
 Cut ⟨s8.a,s8.len,s8.cap⟩ i (s8.len:Int) (s8.cap:Int) 1 fun(s12:Sl)=>
 cA (.i .i64) Tryz.prog (Builtin.copy_ #[34,34] 3 #[.slice s12.a s12.len s12.cap,.slice v.a v.len v.cap]) w fun(n_4:Int) w=>
 R s8 w) else (Cut ⟨s8.a,s8.len,s8.cap⟩ (s.len:Int) (s8.len:Int) (s8.cap:Int) 1 fun(s13:Sl)=>
 cA (.i .i64) Tryz.prog (Builtin.copy_ #[34,34] 3 #[.slice s13.a s13.len s13.cap,.slice v.a v.len v.cap]) w fun(n_5:Int) w=>
 Cut ⟨s8.a,s8.len,s8.cap⟩ i (s8.len:Int) (s8.cap:Int) 1 fun(s14:Sl)=>
 ace s14 (v.len:Int) w fun w=>
 R s8 w))))
theorem JJ {s i v w R} (h:f56 s i v w R):R4 s i v w R:=
  ah (H:=⟨[],[]⟩) cr Tryz.func56 (cast (by kernel_rfl) h)
def f57 (w_:Option Addr) (set kind:Int) (w:World) (R:Int->World->Prop):Prop:=
 ∃aq:Int->Int->Nat->World->Prop,(∃n:Nat,aq 0 1 n w) /\ ∀n_:Int,∀k:Int,∀m:Nat,∀w:World,aq n_ k m w->(if (decide (k < kind))=true then ((0:Int)<=k /\ (if ((i64.wrap ((BitVec.ofInt 64 (Int.fdiv set (2 ^ (min (Int.toNat k) 64))) &&& BitVec.ofInt 64 1).toNat:Nat)) ==1)=true then (NN w_ fun(gC:Addr)=>
 Ld .sl w gC fun(kinds:Sl)=>
 Ix kinds.a kinds.len (i64.wrap (k - 1)) 2 fun(a:Addr)=>
 Ld .sl w (a.add 1) fun(cV:Sl)=>
 ∃m2:Nat,m2 < m /\ aq (i64.wrap (n_+(cV.len:Int))) (i64.wrap (k+1)) m2 w) else (∃m2:Nat,m2 < m /\ aq n_ (i64.wrap (k+1)) m2 w))) else (R n_ w))
theorem TQ {w_ set kind w R} (h:f57 w_ set kind w R):M6 w_ set kind w R:=
  ah (H:=⟨[(3,⟨[(7,.i .i64),(8,.i .i64)],[0,1,2]⟩)],[]⟩) cr Tryz.func57 (cast (by kernel_rfl) h)
def f58 (p:Option Addr) (w:World) (R:Int->Int->Int->World->Prop):Prop:=
 Nw (.cells #[.int .i64 0,.int .i64 0] 33) w fun(a:Addr) w=>
 NN p fun(p_:Addr)=>
 Ld .sl w (p_.add 3) fun(free:Sl)=>
 if (decide ((free.len:Int) > 0))=true then (NN p fun(nT:Addr)=>
 Ld .sl w (nT.add 3) fun(uL:Sl)=>
 Ix uL.a uL.len 0 1 fun(a2:Addr)=>
 Ld (.i .i64) w a2 fun(i:Int)=>
 NN p fun(nZ:Addr)=>
 Ld .sl w (nZ.add 3) fun(BF:Sl)=>
 Cut ⟨BF.a,BF.len,BF.cap⟩ 1 (BF.len:Int) (BF.cap:Int) 1 fun(s:Sl)=>
 NN p fun(vN:Addr)=>
 St (vN.add 3) (.slice s.a s.len s.cap) w fun w=>
 NN p fun(GO:Addr)=>
 Ld .sl w (GO.add 1) fun(au:Sl)=>
 Ix au.a au.len i 1 fun(a3:Addr)=>
 Ld (.i .i64) w a3 fun(x:Int)=>
 Ix au.a au.len i 1 fun(a4:Addr)=>
 St a4 (.int .i64 (i64.wrap (x+1))) w fun w=>
 NN p fun(Jl:Addr)=>
 Ld .sl w (Jl.add 2) fun(alive:Sl)=>
 Ix alive.a alive.len i 1 fun(a5:Addr)=>
 St a5 (.bool true) w fun w=>
 NN p fun(Jm:Addr)=>
 Ld .sl w (Jm.add 1) fun(hH:Sl)=>
 Ix hH.a hH.len i 1 fun(a6:Addr)=>
 Ld (.i .i64) w a6 fun(x2:Int)=>
 St a (.int .i64 i) w fun w=>
 St (a.add 1) (.int .i64 x2) w fun w=>
 Ld (.i .i64) w a fun(cT:Int)=>Ld (.i .i64) w (a.add 1) fun(fG:Int)=>
 R cT fG 0 w) else (Dr w fun w=>
 NN p fun(Nx:Addr)=>
 Ld .sl w (Nx.add 1) fun(JK:Sl)=>
 NN p fun(SO:Addr)=>
 Ld (.i .i64) w SO fun(aO:Int)=>
 if ((JK.len:Int) ==aO)=true then (St a (.int .i64 0) w fun w=>
 St (a.add 1) (.int .i64 0) w fun w=>
 Ld (.i .i64) w a fun(ej:Int)=>Ld (.i .i64) w (a.add 1) fun(gV:Int)=>
 R ej gV 40 w) else (NN p fun(DW:Addr)=>
 Ld .sl w (DW.add 1) fun(JL:Sl)=>
 Nw (.cells #[.int .i64 1] 3) w fun(b:Addr) w=>
 cA .sl Tryz.prog (Builtin.append_ #[49,49] 49 #[.slice JL.a JL.len JL.cap,.slice (some b) 1 1]) w fun(s2:Sl) w=>
 NN p fun(DX:Addr)=>
 St (DX.add 1) (.slice s2.a s2.len s2.cap) w fun w=>
 NN p fun(DY:Addr)=>
 Ld .sl w (DY.add 2) fun(tx:Sl)=>
 Nw (.cells #[.bool true] 4) w fun(b2:Addr) w=>
 cA .sl Tryz.prog (Builtin.append_ #[147,147] 147 #[.slice tx.a tx.len tx.cap,.slice (some b2) 1 1]) w fun(s3:Sl) w=>
 NN p fun(DZ:Addr)=>
 St (DZ.add 2) (.slice s3.a s3.len s3.cap) w fun w=>
 NN p fun(D0:Addr)=>
 Ld .sl w (D0.add 1) fun(Xw:Sl)=>
 St a (.int .i64 (i64.wrap ((Xw.len:Int) - 1))) w fun w=>
 St (a.add 1) (.int .i64 1) w fun w=>
 Ld (.i .i64) w a fun(iq:Int)=>Ld (.i .i64) w (a.add 1) fun(na:Int)=>
 R iq na 0 w))
theorem D9 {p w R} (h:f58 p w R):V3 p w R:=
  ah (H:=⟨[],[]⟩) cr Tryz.func58 (cast (by kernel_rfl) h)
def f59 (w_:Option Addr) (ag an set:Int) (values:Sl) (w:World) (R:World->Prop):Prop:=
 Nw (.cells #[.int .i64 ag,.int .i64 an] 33) w fun(e:Addr) w=>
 Dr w fun w=>
 NN w_ fun(gC:Addr)=>
 Ld .m w (gC.add 2) fun(aE:Option Nat)=>
 Ld (.i .i64) w e fun(ay:Int)=>Ld (.i .i64) w (e.add 1) fun(aP:Int)=>
 rm Tryz.prog (Instr.mapUpdate 88 (.map aE) (.agg #[.int .i64 ay,.int .i64 aP]) (.int .i64 set)) w fun w=>
 Dr w fun w=>
 Ld (.i .i64) w e fun(aX:Int)=>Ld (.i .i64) w (e.add 1) fun(bY:Int)=>
 Sb w_ set w fun(r:Option Addr) w=>
 w.cell? e=some (.int .i64 aX) /\ w.cell? (e.add 1)=some (.int .i64 bY) /\ (Sc r aX bY values w fun(r2 r3:Int) w=>
 R w)
theorem TR {w_ ag an set values w R} (h:f59 w_ ag an set values w R):R5 w_ ag an set values w R:=
  ah (H:=⟨[],[]⟩) cr Tryz.func59 (cast (by kernel_rfl) h)
def f60 (w_:Option Addr) (ag an kind:Int) (w:World) (R:Int->Bool->Int->Int->World->Prop):Prop:=
 Nw (.cells #[.int .i64 ag,.int .i64 an] 33) w fun(e:Addr) w=>
 Dr w fun w=>
 NN w_ fun(gC:Addr)=>
 Ld .p w (gC.add 1) fun(ar:Option Addr)=>
 Ld (.i .i64) w e fun(ay:Int)=>Ld (.i .i64) w (e.add 1) fun(aP:Int)=>
 DN ar ay aP w fun(r:Bool) w=>
 if (!r)=true then (R 0 false 0 41 w) else (W4 w_ kind w fun(fields:Int) (ok:Bool) w=>
 if (!ok)=true then (R 0 false 0 60 w) else (Dr w fun w=>
 NN w_ fun(mZ:Addr)=>
 Ld .m w (mZ.add 2) fun(aE:Option Nat)=>
 Ld (.i .i64) w e fun(aX:Int)=>Ld (.i .i64) w (e.add 1) fun(bY:Int)=>
 gB [.one (.i .i64)] Tryz.prog (Instr.lookup 88 (.map aE) (.agg #[.int .i64 aX,.int .i64 bY]) false) w fun(set:Int) _=>
 Dr w fun w=>
 (0:Int)<=kind /\ (R set ((i64.wrap ((BitVec.ofInt 64 (Int.fdiv set (2 ^ (min (Int.toNat kind) 64))) &&& BitVec.ofInt 64 1).toNat:Nat)) ==1) fields 0 w)))
theorem TS {w_ ag an kind w R} (h:f60 w_ ag an kind w R):R6 w_ ag an kind w R:=
  ah (H:=⟨[],[]⟩) cr Tryz.func60 (cast (by kernel_rfl) h)
def f61 (w_:Option Addr) (ag an:Int) (w:World) (R:Sl->World->Prop):Prop:=
 Nw (.cells #[.int .i64 ag,.int .i64 an] 33) w fun(e:Addr) w=>
 Dr w fun w=>
 NN w_ fun(gC:Addr)=>
 Ld .m w (gC.add 2) fun(aE:Option Nat)=>
 Ld (.i .i64) w e fun(ay:Int)=>Ld (.i .i64) w (e.add 1) fun(aP:Int)=>
 gB [.one (.i .i64)] Tryz.prog (Instr.lookup 88 (.map aE) (.agg #[.int .i64 ay,.int .i64 aP]) false) w fun(set:Int) _=>
 NN w_ fun(mZ:Addr)=>
 Ld .m w (mZ.add 3) fun(tables:Option Nat)=>
 gB [.one .p] Tryz.prog (Instr.lookup 89 (.map tables) (.int .i64 set) false) w fun(t:Option Addr) _=>
 Ld (.i .i64) w e fun(aX:Int)=>Ld (.i .i64) w (e.add 1) fun(bY:Int)=>
 DO t aX bY w fun(r:Int) w=>
 IZ t r w fun(xh Ea:Int) (values:Sl) (x_:Int) w=>
 Nw (.cells #[.int .i64 0,.int .i64 0] 33) w fun(V6:Addr) w=>
 St V6 (.int .i64 xh) w fun w=>
 St (V6.add 1) (.int .i64 Ea) w fun w=>
 Ld (.i .i64) w e fun(ei:Int)=>Ld (.i .i64) w (e.add 1) fun(gU:Int)=>
 DO t ei gU w fun(r2:Int) w=>
 Sd t r2 w fun(cT fG:Int) (r3:Bool) (r4:Int) w=>
 Dr w fun w=>
 NN w_ fun(D3:Addr)=>
 Ld .m w (D3.add 2) fun(JD:Option Nat)=>
 Ld (.i .i64) w e fun(kg:Int)=>Ld (.i .i64) w (e.add 1) fun(qH:Int)=>
 cA .v Tryz.prog (Builtin.delete_ #[88,33] 0 #[.map JD,.agg #[.int .i64 kg,.int .i64 qH]]) w fun(n_:Value) w=>
 GI t w fun(r5:Int) w=>
 if (r5 ==0)=true then (NN w_ fun(S0:Addr)=>
 Ld .m w (S0.add 3) fun(pG:Option Nat)=>
 cA .v Tryz.prog (Builtin.delete_ #[89,3] 0 #[.map pG,.int .i64 set]) w fun(vQ:Value) w=>
 R values w) else (R values w)
theorem TU {w_ ag an w R} (h:f61 w_ ag an w R):V4 w_ ag an w R:=
  ah (H:=⟨[],[]⟩) cr Tryz.func61 (cast (by kernel_rfl) h)
def f62 (p:Option Addr) (ag an:Int) (w:World) (R:Int->World->Prop):Prop:=
 Nw (.cells #[.int .i64 ag,.int .i64 an] 33) w fun(e:Addr) w=>
 Ld (.i .i64) w e fun(ay:Int)=>Ld (.i .i64) w (e.add 1) fun(aP:Int)=>
 DN p ay aP w fun(r:Bool) w=>
 if (!r)=true then (R 41 w) else (Dr w fun w=>
 NN p fun(p_:Addr)=>
 Ld .sl w (p_.add 2) fun(alive:Sl)=>
 Ld (.i .i64) w e fun(Index:Int)=>
 Ix alive.a alive.len Index 1 fun(a:Addr)=>
 St a (.bool false) w fun w=>
 Ld (.i .i64) w (e.add 1) fun(Xx:Int)=>
 if (decide (Xx < 1000000))=true then (Dr w fun w=>
 NN p fun(nT:Addr)=>
 Ld .sl w (nT.add 3) fun(free:Sl)=>
 Ld (.i .i64) w e fun(qJ:Int)=>
 Nw (.cells #[.int .i64 qJ] 3) w fun(b:Addr) w=>
 cA .sl Tryz.prog (Builtin.append_ #[49,49] 49 #[.slice free.a free.len free.cap,.slice (some b) 1 1]) w fun(s:Sl) w=>
 NN p fun(nZ:Addr)=>
 St (nZ.add 3) (.slice s.a s.len s.cap) w fun w=>
 R 0 w) else (R 0 w))
theorem TV {p ag an w R} (h:f62 p ag an w R):c62 p ag an w R:=
  ah (H:=⟨[],[]⟩) cr Tryz.func62 (cast (by kernel_rfl) h)
def f63 (b:Sl) (w:World) (R:Sl->Sl->Bool->World->Prop):Prop:=
 Se b 200 w fun(l:Sl) (n_:Int) w=>
 ∃aq:Sl->Int->Nat->World->Prop,(∃n:Nat,aq ⟨none,0,0⟩ 0 n w) /\ ∀out:Sl,∀t17:Int,∀m:Nat,∀w:World,aq out t17 m w->(if (decide (t17 < (l.len:Int)))=true then (Ix l.a l.len t17 1 fun(a:Addr)=>
 Ld (.i .i64) w a fun(x:Int)=>
 if (cond (decide (x < 0)) true (decide (x > 1000001)))=true then (R ⟨none,0,0⟩ ⟨none,0,0⟩ false w) else (Nw (.cells #[.int .i64 x] 3) w fun(b2:Addr) w=>
 cA .sl Tryz.prog (Builtin.append_ #[49,49] 49 #[.slice out.a out.len out.cap,.slice (some b2) 1 1]) w fun(bR:Sl) w=>
 ∃m2:Nat,m2 < m /\ aq bR (i64.wrap (t17+1)) m2 w)) else (Dr w fun w=>
 Cut ⟨b.a,b.len,b.cap⟩ n_ (b.len:Int) (b.cap:Int) 1 fun(s:Sl)=>
 R out s (decide (n_ > 0)) w))
theorem TW {b w R} (h:f63 b w R):c63 b w R:=
  ah (H:=⟨[(4,⟨[(7,.sl),(17,.i .i64)],[0,6,15,16]⟩)],[]⟩) cr Tryz.func63 (cast (by kernel_rfl) h)
def f64 (aO:Int) (au free:Sl) (w:World) (R:Option Addr->Int->World->Prop):Prop:=
 V1 aO w fun(p:Option Addr) (e:Int) w=>
 if (cond (e !=0) true (decide ((au.len:Int) > aO)))=true then (R none 1 w) else (∃aq:Int->Nat->World->Prop,(∃n:Nat,aq 0 n w) /\ ∀t29:Int,∀m:Nat,∀w:World,aq t29 m w->(if (decide (t29 < (au.len:Int)))=true then (Ix au.a au.len t29 1 fun(a:Addr)=>
 Ld (.i .i64) w a fun(g:Int)=>
 if (cond (decide (g < 1)) true (decide (g > 1000001)))=true then (R none 1 w) else (NN p fun(p_:Addr)=>
 Ld .sl w (p_.add 1) fun(hH:Sl)=>
 Nw (.cells #[.int .i64 (if 1000000 < g then 1000000 else g)] 3) w fun(b:Addr) w=>
 cA .sl Tryz.prog (Builtin.append_ #[49,49] 49 #[.slice hH.a hH.len hH.cap,.slice (some b) 1 1]) w fun(s:Sl) w=>
 NN p fun(nT:Addr)=>
 St (nT.add 1) (.slice s.a s.len s.cap) w fun w=>
 NN p fun(nZ:Addr)=>
 Ld .sl w (nZ.add 2) fun(alive:Sl)=>
 Nw (.cells #[.bool (decide (g<=1000000))] 4) w fun(b2:Addr) w=>
 cA .sl Tryz.prog (Builtin.append_ #[147,147] 147 #[.slice alive.a alive.len alive.cap,.slice (some b2) 1 1]) w fun(s2:Sl) w=>
 NN p fun(vN:Addr)=>
 St (vN.add 2) (.slice s2.a s2.len s2.cap) w fun w=>
 ∃m2:Nat,m2 < m /\ aq (i64.wrap (t29+1)) m2 w)) else (∃bc:Int->Nat->World->Prop,(∃n:Nat,bc 0 n w) /\ ∀t64:Int,∀m3:Nat,∀w:World,bc t64 m3 w->(if (decide (t64 < (free.len:Int)))=true then (Ix free.a free.len t64 1 fun(a2:Addr)=>
 Ld (.i .i64) w a2 fun(i:Int)=>
 ∃J_:World->Prop,(if (decide (i < 0))=true then (R none 1 w) else (if (decide (i>=(au.len:Int)))=true then (R none 1 w) else (NN p fun(GO:Addr)=>
 Ld .sl w (GO.add 2) fun(tx:Sl)=>
 Ix tx.a tx.len i 1 fun(a3:Addr)=>
 Ld .b w a3 fun(x:Bool)=>
 if (!x)=true then (R none 1 w) else (Ix au.a au.len i 1 fun(a4:Addr)=>
 Ld (.i .i64) w a4 fun(x2:Int)=>
 if (decide (x2>=1000000))=true then (R none 1 w) else (J_ w))))) /\ ∀w:World,J_ w->(NN p fun(Jl:Addr)=>
 Ld .sl w (Jl.add 2) fun(JM:Sl)=>
 Ix JM.a JM.len i 1 fun(a5:Addr)=>
 St a5 (.bool false) w fun w=>
 NN p fun(Jm:Addr)=>
 Ld .sl w (Jm.add 3) fun(uL:Sl)=>
 Nw (.cells #[.int .i64 i] 3) w fun(b3:Addr) w=>
 cA .sl Tryz.prog (Builtin.append_ #[49,49] 49 #[.slice uL.a uL.len uL.cap,.slice (some b3) 1 1]) w fun(s3:Sl) w=>
 NN p fun(Nx:Addr)=>
 St (Nx.add 3) (.slice s3.a s3.len s3.cap) w fun w=>
 ∃m4:Nat,m4 < m3 /\ bc (i64.wrap (t64+1)) m4 w)) else (R p 0 w)))))
theorem TX {aO au free w R} (h:f64 aO au free w R):c64 aO au free w R:=
  ah (H:=⟨[(5,⟨[(29,.i .i64)],[1,2,8,27,28]⟩),(13,⟨[(64,.i .i64)],[1,8,62,63]⟩)],[(17,⟨[],[1,8,13,62,63,64]⟩)]⟩) cr Tryz.func64 (cast (by kernel_rfl) h)
def f65 (p:Option Addr) (w:World) (R:Sl->World->Prop):Prop:=
 NN p fun(p_:Addr)=>
 Ld .sl w (p_.add 1) fun(au:Sl)=>
 ∃aq:Sl->Int->Nat->World->Prop,(∃n:Nat,aq ⟨none,0,0⟩ 0 n w) /\ ∀out:Sl,∀t12:Int,∀m:Nat,∀w:World,aq out t12 m w->(if (decide (t12 < (au.len:Int)))=true then (Nc p t12 w fun(ag an err:Int) w=>
 Nw (.cells #[.int .i64 0,.int .i64 0] 33) w fun(e:Addr) w=>
 St e (.int .i64 ag) w fun w=>
 St (e.add 1) (.int .i64 an) w fun w=>
 if (err ==0)=true then (Ld (.i .i64) w e fun(ay:Int)=>Ld (.i .i64) w (e.add 1) fun(aP:Int)=>
 Nw (.cells #[.int .i64 ay,.int .i64 aP] 33) w fun(b:Addr) w=>
 cA .sl Tryz.prog (Builtin.append_ #[43,43] 43 #[.slice out.a out.len out.cap,.slice (some b) 1 1]) w fun(bR:Sl) w=>
 ∃m2:Nat,m2 < m /\ aq bR (i64.wrap (t12+1)) m2 w) else (∃m2:Nat,m2 < m /\ aq out (i64.wrap (t12+1)) m2 w)) else (R out w))
theorem TY {p w R} (h:f65 p w R):W5 p w R:=
  ah (H:=⟨[(3,⟨[(3,.sl),(12,.i .i64)],[0,11]⟩)],[]⟩) cr Tryz.func65 (cast (by kernel_rfl) h)
def f66 (b:Sl) (w:World) (R:Int->Int->World->Prop):Prop:=
 ∃aq:Int->Int->Nat->World->Prop,(∃n:Nat,aq 0 0 n w) /\ ∀n_:Int,∀t9:Int,∀m:Nat,∀w:World,aq n_ t9 m w->(if (decide (t9 < (b.len:Int)))=true then (Ix b.a b.len t9 1 fun(a:Addr)=>
 Ld (.i .u8) w a fun(c:Int)=>
 if (cond (t9 ==9) (decide (c > 1)) false)=true then (R 0 0 w) else ((0:Int)<=(i64.wrap (7*t9)) /\ (if (decide (c>=128))=true then (∃m2:Nat,m2 < m /\ aq (u64.wrap ((BitVec.ofInt 64 n_ ||| BitVec.ofInt 64 (u64.wrap ((u64.wrap (u8.wrap ((BitVec.ofInt 8 c &&& BitVec.ofInt 8 127).toNat:Nat)))*2 ^ (min (Int.toNat (i64.wrap (7*t9))) 64)))).toNat:Nat)) (i64.wrap (t9+1)) m2 w) else (if (cond (c ==0) (decide (t9 > 0)) false)=true then (R 0 0 w) else (R (u64.wrap ((BitVec.ofInt 64 n_ ||| BitVec.ofInt 64 (u64.wrap ((u64.wrap (u8.wrap ((BitVec.ofInt 8 c &&& BitVec.ofInt 8 127).toNat:Nat)))*2 ^ (min (Int.toNat (i64.wrap (7*t9))) 64)))).toNat:Nat)) (i64.wrap (t9+1)) w))))) else (R 0 0 w))
theorem TZ {b w R} (h:f66 b w R):W6 b w R:=
  ah (H:=⟨[(3,⟨[(4,.i .u64),(9,.i .i64)],[7,8]⟩)],[]⟩) cr Tryz.func66 (cast (by kernel_rfl) h)
def f67 (b:Sl) (w:World) (R:Int->Int->World->Prop):Prop:=
 W6 b w fun(n_ size:Int) w=>
 I0 n_ w fun(r:Int) w=>
 R r size w
theorem T0 {b w R} (h:f67 b w R):c67 b w R:=
  ah (H:=⟨[],[]⟩) cr Tryz.func67 (cast (by kernel_rfl) h)
def f68 (kinds:Sl) (w:World) (R:Bool->World->Prop):Prop:=
 ∃aq:Sl->Int->Nat->World->Prop,(∃n:Nat,aq ⟨none,0,0⟩ 0 n w) /\ ∀names:Sl,∀i:Int,∀m:Nat,∀w:World,aq names i m w->(if (decide (i < (kinds.len:Int)))=true then (Ix kinds.a kinds.len i 2 fun(a:Addr)=>
 Ld .sl w (a.add 1) fun(cV:Sl)=>
 Nd cV w fun(S5:Bool) w=>
 ∃J_:World->Prop,(if (!S5)=true then (R false w) else (Ix kinds.a kinds.len i 2 fun(a2:Addr)=>
 Ld .sl w (a2.add 1) fun(gr:Sl)=>
 if (decide ((gr.len:Int) > 4))=true then (R false w) else (J_ w))) /\ ∀w:World,J_ w->(Ix kinds.a kinds.len i 2 fun(a3:Addr)=>
 Ld .s w a3 fun(Name:ByteArray)=>
 Nw (.cells #[.string Name] 9) w fun(b:Addr) w=>
 cA .sl Tryz.prog (Builtin.append_ #[45,45] 45 #[.slice names.a names.len names.cap,.slice (some b) 1 1]) w fun(oD:Sl) w=>
 ∃m2:Nat,m2 < m /\ aq oD (i64.wrap (i+1)) m2 w)) else (Nd names w fun(Xy:Bool) w=>
 R (cond (cond Xy (decide ((kinds.len:Int)>=1)) false) (decide ((kinds.len:Int)<=12)) false) w))
theorem T3 {kinds w R} (h:f68 kinds w R):c68 kinds w R:=
  ah (H:=⟨[(3,⟨[(3,.sl),(4,.i .i64)],[0]⟩)],[(8,⟨[],[0,3,4]⟩)]⟩) cr Tryz.func68 (cast (by kernel_rfl) h)
def f72 (w_:Option Addr) (ag an:Int) (w:World) (R:Int->World->Prop):Prop:=
 Nw (.cells #[.int .i64 ag,.int .i64 an] 33) w fun(e:Addr) w=>
 ∃aq:Int->Nat->World->Prop,(∃n:Nat,aq 0 n w) /\ ∀i:Int,∀m:Nat,∀w:World,aq i m w->(NN w_ fun(gC:Addr)=>
 Ld .sl w (gC.add 2) fun(L:Sl)=>
 if (decide (i < (L.len:Int)))=true then (Dr w fun w=>
 NN w_ fun(mZ:Addr)=>
 Ld .sl w (mZ.add 2) fun(L2:Sl)=>
 Ix L2.a L2.len i 3 fun(a:Addr)=>
 Ld (.i .i64) w a fun(gR:Int)=>Ld (.i .i64) w (a.add 1) fun(nF:Int)=>
 Ld (.i .i64) w e fun(ay:Int)=>Ld (.i .i64) w (e.add 1) fun(aP:Int)=>
 iH .b Tryz.prog (cH .eql 33 (.tmp 22) (.tmp 23) (.agg #[.int .i64 gR,.int .i64 nF]) (.agg #[.int .i64 ay,.int .i64 aP])) w fun(eq:Bool)=>
 if eq=true then (R i w) else (∃m2:Nat,m2 < m /\ aq (i64.wrap (i+1)) m2 w)) else (R (-1) w))
theorem T4 {w_ ag an w R} (h:f72 w_ ag an w R):R7 w_ ag an w R:=
  ah (H:=⟨[(2,⟨[(5,.i .i64)],[0,3]⟩)],[]⟩) cr Tryz.func72 (cast (by kernel_rfl) h)
def f73 (p:Option Addr) (ag an:Int) (w:World) (R:Int->World->Prop):Prop:=
 Nw (.cells #[.int .i64 ag,.int .i64 an] 33) w fun(e:Addr) w=>
 Ld (.i .i64) w e fun(ay:Int)=>Ld (.i .i64) w (e.add 1) fun(aP:Int)=>
 Sf p ay aP w fun(bD:Bool) w=>
 if (!bD)=true then (R 41 w) else (Dr w fun w=>
 NN p fun(p_:Addr)=>
 Ld .sl w (p_.add 2) fun(On:Sl)=>
 Ld (.i .i64) w e fun(Index:Int)=>
 Ix On.a On.len Index 1 fun(a:Addr)=>
 St a (.bool false) w fun w=>
 Ld (.i .i64) w (e.add 1) fun(Xx:Int)=>
 if (decide (Xx < 1000000))=true then (NN p fun(nT:Addr)=>
 Ld .sl w (nT.add 3) fun(xi:Sl)=>
 cA .sl Tryz.prog (Builtin.append_ #[49,49] 49 #[.slice none 0 0,.slice xi.a xi.len xi.cap]) w fun(free:Sl) w=>
 Ld (.i .i64) w e fun(qJ:Int)=>
 Nw (.cells #[.int .i64 qJ] 3) w fun(b:Addr) w=>
 cA .sl Tryz.prog (Builtin.append_ #[49,49] 49 #[.slice free.a free.len free.cap,.slice (some b) 1 1]) w fun(s:Sl) w=>
 NN p fun(nZ:Addr)=>
 St (nZ.add 3) (.slice s.a s.len s.cap) w fun w=>
 R 0 w) else (R 0 w))
theorem T5 {p ag an w R} (h:f73 p ag an w R):c73 p ag an w R:=
  ah (H:=⟨[],[]⟩) cr Tryz.func73 (cast (by kernel_rfl) h)
def f74 (w_:Option Addr) (parts:Sl) (w:World) (R:Int->Int->Int->World->Prop):Prop:=
 Nw (.cells #[.int .i64 0,.int .i64 0] 33) w fun(a:Addr) w=>
 ∃aq:Sl->Int->Nat->World->Prop,(∃n:Nat,aq ⟨none,0,0⟩ 0 n w) /\ ∀all:Sl,∀i:Int,∀m:Nat,∀w:World,aq all i m w->(if (decide (i < (parts.len:Int)))=true then (Ix parts.a parts.len i 2 fun(a2:Addr)=>
 Ld (.i .i64) w a2 fun(Kind:Int)=>
 Bz w_ Kind w fun(n_:Int) w=>
 if (decide (n_ < 0))=true then (St a (.int .i64 0) w fun w=>
 St (a.add 1) (.int .i64 0) w fun w=>
 Ld (.i .i64) w a fun(cT:Int)=>Ld (.i .i64) w (a.add 1) fun(fG:Int)=>
 R cT fG 60 w) else (Ix parts.a parts.len i 2 fun(a3:Addr)=>
 Ld (.i .i64) w a3 fun(g9:Int)=>
 I1 all g9 w fun(r:Int) w=>
 if (decide (r>=0))=true then (St a (.int .i64 0) w fun w=>
 St (a.add 1) (.int .i64 0) w fun w=>
 Ld (.i .i64) w a fun(ej:Int)=>Ld (.i .i64) w (a.add 1) fun(gV:Int)=>
 R ej gV 61 w) else (Ix parts.a parts.len i 2 fun(a4:Addr)=>
 Ld .sl w (a4.add 1) fun(bU:Sl)=>
 if ((bU.len:Int) !=n_)=true then (St a (.int .i64 0) w fun w=>
 St (a.add 1) (.int .i64 0) w fun w=>
 Ld (.i .i64) w a fun(iq:Int)=>Ld (.i .i64) w (a.add 1) fun(na:Int)=>
 R iq na 63 w) else (Ix parts.a parts.len i 2 fun(a5:Addr)=>
 Ld (.i .i64) w a5 fun(mY:Int)=>Ld .sl w (a5.add 1) fun(fW:Sl)=>
 Nf all mY fW w fun(Xz:Sl) w=>
 ∃m2:Nat,m2 < m /\ aq Xz (i64.wrap (i+1)) m2 w)))) else (NN w_ fun(gC:Addr)=>
 Ld .p w (gC.add 1) fun(Jq:Option Addr)=>
 Sg Jq w fun(ag an bad:Int) w=>
 Nw (.cells #[.int .i64 0,.int .i64 0] 33) w fun(e:Addr) w=>
 St e (.int .i64 ag) w fun w=>
 St (e.add 1) (.int .i64 an) w fun w=>
 if (bad !=0)=true then (St a (.int .i64 0) w fun w=>
 St (a.add 1) (.int .i64 0) w fun w=>
 Ld (.i .i64) w a fun(wV:Int)=>Ld (.i .i64) w (a.add 1) fun(D1:Int)=>
 R wV D1 bad w) else (Ld (.i .i64) w e fun(ay:Int)=>Ld (.i .i64) w (e.add 1) fun(aP:Int)=>
 Si w_ ay aP all w fun w=>
 Ld (.i .i64) w e fun(aX:Int)=>Ld (.i .i64) w (e.add 1) fun(bY:Int)=>
 St a (.int .i64 aX) w fun w=>
 St (a.add 1) (.int .i64 bY) w fun w=>
 Ld (.i .i64) w a fun(wW:Int)=>Ld (.i .i64) w (a.add 1) fun(D2:Int)=>
 R wW D2 0 w)))
theorem T6 {w_ parts w R} (h:f74 w_ parts w R):c74 w_ parts w R:=
  ah (H:=⟨[(3,⟨[(6,.sl),(7,.i .i64)],[0,1,4]⟩)],[]⟩) cr Tryz.func74 (cast (by kernel_rfl) h)
def f75 (l was:Sl) (w:World) (R:Bool->World->Prop):Prop:=
 Cut ⟨l.a,l.len,l.cap⟩ 0 (i64.wrap ((was.len:Int)+8)) (l.cap:Int) 2 fun(l2:Sl)=>
 ∃aq:Int->Nat->World->Prop,(∃n:Nat,aq 0 n w) /\ ∀i:Int,∀m:Nat,∀w:World,aq i m w->(if (decide (i < (l2.len:Int)))=true then (if (decide (i>=(was.len:Int)))=true then (Ix l2.a l2.len i 2 fun(a:Addr)=>
 Ld (.i .i64) w a fun(Kind:Int)=>
 if (Kind !=77)=true then (R false w) else (Ix l2.a l2.len i 2 fun(a2:Addr)=>
 Ld .sl w (a2.add 1) fun(bU:Sl)=>
 if (!bU.a.isNone)=true then (R false w) else (∃m2:Nat,m2 < m /\ aq (i64.wrap (i+1)) m2 w))) else (Dr w fun w=>
 Ix l2.a l2.len i 2 fun(a3:Addr)=>
 Ld .sl w (a3.add 1) fun(bT:Sl)=>
 Ix was.a was.len i 2 fun(a4:Addr)=>
 Ld .sl w (a4.add 1) fun(vU:Sl)=>
 c83 bT vU w fun(ok:Bool) w=>
 Dr w fun w=>
 if (!ok)=true then (R false w) else (Ix l2.a l2.len i 2 fun(a5:Addr)=>
 Ld (.i .i64) w a5 fun(g9:Int)=>
 Ix was.a was.len i 2 fun(a6:Addr)=>
 Ld (.i .i64) w a6 fun(nG:Int)=>
 if (g9 !=nG)=true then (R false w) else (∃m2:Nat,m2 < m /\ aq (i64.wrap (i+1)) m2 w)))) else (R true w))
theorem T7 {l was w R} (h:f75 l was w R):c75 l was w R:=
  ah (H:=⟨[(3,⟨[(5,.i .i64)],[0,1]⟩)],[]⟩) cr Tryz.func75 (cast (by kernel_rfl) h)
def f76 (l:Sl) (w:World) (R:Sl->World->Prop):Prop:=
 cA .sl Tryz.prog (Builtin.append_ #[34,34] 34 #[.slice none 0 0,.slice l.a l.len l.cap]) w fun(out:Sl) w=>
 ∃aq:Sl->Int->Nat->World->Prop,(∃n:Nat,aq out 0 n w) /\ ∀bR:Sl,∀i:Int,∀m:Nat,∀w:World,aq bR i m w->(if (decide (i < 8))=true then (Nw (.cells #[.int .i64 77] 2) w fun(b:Addr) w=>
 cA .sl Tryz.prog (Builtin.append_ #[34,34] 34 #[.slice bR.a bR.len bR.cap,.slice (some b) 1 1]) w fun(fV:Sl) w=>
 ∃m2:Nat,m2 < m /\ aq fV (i64.wrap (i+1)) m2 w) else (Cut ⟨bR.a,bR.len,bR.cap⟩ 0 (l.len:Int) (bR.cap:Int) 1 fun(s:Sl)=>
 R s w))
theorem T8 {l w R} (h:f76 l w R):c76 l w R:=
  ah (H:=⟨[(4,⟨[(3,.sl),(4,.i .i64)],[0]⟩)],[]⟩) cr Tryz.func76 (cast (by kernel_rfl) h)
def f77 (aO:Int) (w:World) (R:Option Addr->Int->World->Prop):Prop:=
 if (cond (decide (aO < 1)) true (decide (aO > 200)))=true then (R none 1 w) else (Nw (.cells #[.int .i64 aO,.slice none 0 0,.slice none 0 0,.slice none 0 0] 177) w fun(a:Addr) w=>
 R (some a) 0 w)
theorem T9 {aO w R} (h:f77 aO w R):c77 aO w R:=
  ah (H:=⟨[],[]⟩) cr Tryz.func77 (cast (by kernel_rfl) h)
def f78 (kinds:Sl) (w:World) (R:Sl->World->Prop):Prop:=
 ∃aq:Sl->Int->Nat->World->Prop,(∃n:Nat,aq ⟨none,0,0⟩ 0 n w) /\ ∀out:Sl,∀i:Int,∀m:Nat,∀w:World,aq out i m w->(if (decide (i < (kinds.len:Int)))=true then (Ix kinds.a kinds.len i 2 fun(a:Addr)=>
 Ld .s w a fun(Name:ByteArray)=>
 Nw (.cells #[.string (⟨#[]⟩:ByteArray),.slice none 0 0] 107) w fun(k:Addr) w=>
 St k (.string Name) w fun w=>
 St (k.add 1) (.slice none 0 0) w fun w=>
 Dr w fun w=>
 Ld .sl w (k.add 1) fun(cV:Sl)=>
 Ix kinds.a kinds.len i 2 fun(a2:Addr)=>
 Ld .sl w (a2.add 1) fun(gr:Sl)=>
 cA .sl Tryz.prog (Builtin.append_ #[45,45] 45 #[.slice cV.a cV.len cV.cap,.slice gr.a gr.len gr.cap]) w fun(s:Sl) w=>
 St (k.add 1) (.slice s.a s.len s.cap) w fun w=>
 Ld .s w k fun(D8:ByteArray)=>Ld .sl w (k.add 1) fun(kj:Sl)=>
 Nw (.cells #[.string D8,.slice kj.a kj.len kj.cap] 107) w fun(b:Addr) w=>
 cA .sl Tryz.prog (Builtin.append_ #[22,22] 22 #[.slice out.a out.len out.cap,.slice (some b) 1 1]) w fun(bR:Sl) w=>
 ∃m2:Nat,m2 < m /\ aq bR (i64.wrap (i+1)) m2 w) else (R out w))
theorem Ua {kinds w R} (h:f78 kinds w R):c78 kinds w R:=
  ah (H:=⟨[(3,⟨[(3,.sl),(4,.i .i64)],[0]⟩)],[]⟩) cr Tryz.func78 (cast (by kernel_rfl) h)
def f79 (l:Sl) (w:World) (R:Sl->World->Prop):Prop:=
 cA .sl Tryz.prog (Builtin.append_ #[34,34] 34 #[.slice none 0 0,.slice l.a l.len l.cap]) w fun(s:Sl) w=>
 R s w
theorem Ub {l w R} (h:f79 l w R):W7 l w R:=
  ah (H:=⟨[],[]⟩) cr Tryz.func79 (cast (by kernel_rfl) h)
def f80 (w_:Option Addr) (ag an cg:Int) (aC:Sl) (w:World) (R:Int->World->Prop):Prop:=
 Nw (.cells #[.int .i64 ag,.int .i64 an] 33) w fun(e:Addr) w=>
 Nw (.cells #[.int .i64 cg,.slice aC.a aC.len aC.cap] 36) w fun(p:Addr) w=>
 Ld (.i .i64) w e fun(ay:Int)=>Ld (.i .i64) w (e.add 1) fun(aP:Int)=>
 R7 w_ ay aP w fun(i:Int) w=>
 Ld (.i .i64) w p fun(Kind:Int)=>
 Bz w_ Kind w fun(n_:Int) w=>
 if (decide (i < 0))=true then (R 41 w) else (if (decide (n_ < 0))=true then (R 60 w) else (Dr w fun w=>
 NN w_ fun(gC:Addr)=>
 Ld .sl w (gC.add 2) fun(L:Sl)=>
 Ix L.a L.len i 3 fun(a:Addr)=>
 Ld .sl w (a.add 2) fun(ch:Sl)=>
 Ld (.i .i64) w p fun(g9:Int)=>
 I1 ch g9 w fun(r:Int) w=>
 if (decide (r>=0))=true then (R 61 w) else (Ld .sl w (p.add 1) fun(bU:Sl)=>
 if ((bU.len:Int) !=n_)=true then (R 63 w) else (Dr w fun w=>
 NN w_ fun(mZ:Addr)=>
 Ld .sl w (mZ.add 2) fun(L2:Sl)=>
 NN w_ fun(D3:Addr)=>
 Ld .sl w (D3.add 2) fun(L3:Sl)=>
 Ix L3.a L3.len i 3 fun(a2:Addr)=>
 Ld .sl w (a2.add 2) fun(iS:Sl)=>
 Ld (.i .i64) w p fun(NL:Int)=>Ld .sl w (p.add 1) fun(GV:Sl)=>
 Nf iS NL GV w fun(r2:Sl) w=>
 w.cell? (mZ.add 2)=some (.slice L2.a L2.len L2.cap) /\ (Ix L2.a L2.len i 3 fun(a3:Addr)=>
 St (a3.add 2) (.slice r2.a r2.len r2.cap) w fun w=>
 R 0 w)))))
theorem Uc {w_ ag an cg aC w R} (h:f80 w_ ag an cg aC w R):c80 w_ ag an cg aC w R:=
  ah (H:=⟨[],[]⟩) cr Tryz.func80 (cast (by kernel_rfl) h)
def f81 (w_:Option Addr) (ag an cg:Int) (aC:Sl) (w:World) (R:Int->World->Prop):Prop:=
 Nw (.cells #[.int .i64 ag,.int .i64 an] 33) w fun(e:Addr) w=>
 Nw (.cells #[.int .i64 cg,.slice aC.a aC.len aC.cap] 36) w fun(p:Addr) w=>
 Ld (.i .i64) w e fun(ay:Int)=>Ld (.i .i64) w (e.add 1) fun(aP:Int)=>
 Ld (.i .i64) w p fun(Kind:Int)=>
 R6 w_ ay aP Kind w fun(set:Int) (has:Bool) (n_ bad:Int) w=>
 if (bad !=0)=true then (R bad w) else (if (!has)=true then (R 62 w) else (Ld .sl w (p.add 1) fun(bU:Sl)=>
 if ((bU.len:Int) !=n_)=true then (R 63 w) else (NN w_ fun(gC:Addr)=>
 Ld .m w (gC.add 3) fun(tables:Option Nat)=>
 gB [.one .p] Tryz.prog (Instr.lookup 89 (.map tables) (.int .i64 set) false) w fun(t:Option Addr) _=>
 Ld .sl w (p.add 1) fun(bT:Sl)=>
 ∃aq:Int->Nat->World->Prop,(∃n:Nat,aq 0 n w) /\ ∀t46:Int,∀m:Nat,∀w:World,aq t46 m w->(if (decide (t46 < (bT.len:Int)))=true then (Ix bT.a bT.len t46 1 fun(a:Addr)=>
 Ld (.i .i64) w a fun(x:Int)=>
 Dr w fun w=>
 Ld (.i .i64) w e fun(aX:Int)=>Ld (.i .i64) w (e.add 1) fun(bY:Int)=>
 Ld (.i .i64) w p fun(g9:Int)=>
 DO t aX bY w fun(r:Int) w=>
 w.cell? p=some (.int .i64 g9) /\ (M6 w_ set g9 w fun(r2:Int) w=>
 Ng t r (i64.wrap (r2+t46)) x w fun(r3:Int) w=>
 ∃m2:Nat,m2 < m /\ aq (i64.wrap (t46+1)) m2 w)) else (R 0 w)))))
theorem Ud {w_ ag an cg aC w R} (h:f81 w_ ag an cg aC w R):c81 w_ ag an cg aC w R:=
  ah (H:=⟨[(10,⟨[(46,.i .i64)],[0,4,5,7,11,44,45]⟩)],[]⟩) cr Tryz.func81 (cast (by kernel_rfl) h)
def f82 (w_:Option Addr) (ag an cg:Int) (aC:Sl) (w:World) (R:Int->World->Prop):Prop:=
 Nw (.cells #[.int .i64 ag,.int .i64 an] 33) w fun(e:Addr) w=>
 Nw (.cells #[.int .i64 cg,.slice aC.a aC.len aC.cap] 36) w fun(p:Addr) w=>
 Ld (.i .i64) w e fun(ay:Int)=>Ld (.i .i64) w (e.add 1) fun(aP:Int)=>
 Ld (.i .i64) w p fun(Kind:Int)=>
 W8 w_ ay aP Kind w fun(i k bad:Int) w=>
 if (bad !=0)=true then (R bad w) else (Dr w fun w=>
 Ld .sl w (p.add 1) fun(bU:Sl)=>
 Ld (.i .i64) w p fun(g9:Int)=>
 Bz w_ g9 w fun(r:Int) w=>
 w.cell? (p.add 1)=some (.slice bU.a bU.len bU.cap) /\ (if ((bU.len:Int) !=r)=true then (R 63 w) else (NN w_ fun(gC:Addr)=>
 Ld .sl w (gC.add 2) fun(L:Sl)=>
 Ix L.a L.len i 3 fun(a:Addr)=>
 Ld .sl w (a.add 2) fun(ch:Sl)=>
 cA .sl Tryz.prog (Builtin.append_ #[37,37] 37 #[.slice none 0 0,.slice ch.a ch.len ch.cap]) w fun(l:Sl) w=>
 Dr w fun w=>
 Ld (.i .i64) w p fun(nG:Int)=>
 Ld .sl w (p.add 1) fun(bT:Sl)=>
 W7 bT w fun(r2:Sl) w=>
 w.cell? p=some (.int .i64 nG) /\ (Ix l.a l.len k 2 fun(a2:Addr)=>
 St a2 (.int .i64 nG) w fun w=>
 St (a2.add 1) (.slice r2.a r2.len r2.cap) w fun w=>
 NN w_ fun(mZ:Addr)=>
 Ld .sl w (mZ.add 2) fun(L2:Sl)=>
 Ix L2.a L2.len i 3 fun(a3:Addr)=>
 St (a3.add 2) (.slice l.a l.len l.cap) w fun w=>
 R 0 w))))
theorem Ue {w_ ag an cg aC w R} (h:f82 w_ ag an cg aC w R):c82 w_ ag an cg aC w R:=
  ah (H:=⟨[],[]⟩) cr Tryz.func82 (cast (by kernel_rfl) h)
def f83 (l was:Sl) (w:World) (R:Bool->World->Prop):Prop:=
 ∃J_:World->Prop,(if ((l.len:Int) !=(was.len:Int))=true then (R false w) else (if (decide ((l.cap:Int) < (i64.wrap ((was.len:Int)+8))))=true then (R false w) else (J_ w))) /\ ∀w:World,J_ w->(Cut ⟨l.a,l.len,l.cap⟩ 0 (i64.wrap ((was.len:Int)+8)) (l.cap:Int) 1 fun(l2:Sl)=>
 ∃aq:Int->Nat->World->Prop,(∃n:Nat,aq 0 n w) /\ ∀i:Int,∀m:Nat,∀w:World,aq i m w->(if (decide (i < (l2.len:Int)))=true then (∃sL:Int->World->Prop,(if (decide (i < (was.len:Int)))=true then (Ix was.a was.len i 1 fun(a:Addr)=>
 Ld (.i .i64) w a fun(want:Int)=>
 sL want w) else (sL 77 w)) /\ ∀Qy:Int,∀w:World,sL Qy w->(Ix l2.a l2.len i 1 fun(a2:Addr)=>
 Ld (.i .i64) w a2 fun(x:Int)=>
 if (x !=Qy)=true then (R false w) else (∃m2:Nat,m2 < m /\ aq (i64.wrap (i+1)) m2 w))) else (R true w)))
theorem Uf {l was w R} (h:f83 l was w R):c83 l was w R:=
  ah (H:=⟨[(5,⟨[(5,.i .i64)],[0,1]⟩)],[(3,⟨[],[0,1]⟩),(10,⟨[(6,.i .i64)],[0,1,5]⟩)]⟩) cr Tryz.func83 (cast (by kernel_rfl) h)
def f84 (s:Sl) (i j:Int) (w:World) (R:Sl->World->Prop):Prop:=
 Cut ⟨s.a,s.len,s.cap⟩ i j (s.len:Int) 1 fun(s2:Sl)=>
 if (i ==j)=true then (R s w) else (Dr w fun w=>
 Cut ⟨s.a,s.len,s.cap⟩ 0 i (s.cap:Int) 1 fun(s3:Sl)=>
 Cut ⟨s.a,s.len,s.cap⟩ j (s.len:Int) (s.cap:Int) 1 fun(s4:Sl)=>
 cA .sl Tryz.prog (Builtin.append_ #[34,34] 34 #[.slice s3.a s3.len s3.cap,.slice s4.a s4.len s4.cap]) w fun(s5:Sl) w=>
 Cut ⟨s5.a,s5.len,s5.cap⟩ (s5.len:Int) (s.len:Int) (s5.cap:Int) 1 fun(s6:Sl)=>
 cA .v Tryz.prog (Builtin.clear_ #[34] 0 #[.slice s6.a s6.len s6.cap]) w fun(n_:Value) w=>
 R s5 w)
theorem Ug {s i j w R} (h:f84 s i j w R):c84 s i j w R:=
  ah (H:=⟨[],[]⟩) cr Tryz.func84 (cast (by kernel_rfl) h)
def f85 (w_:Option Addr) (ag an kind:Int) (w:World) (R:Int->Int->Int->World->Prop):Prop:=
 Nw (.cells #[.int .i64 ag,.int .i64 an] 33) w fun(e:Addr) w=>
 Ld (.i .i64) w e fun(ay:Int)=>Ld (.i .i64) w (e.add 1) fun(aP:Int)=>
 R7 w_ ay aP w fun(i:Int) w=>
 if (decide (i < 0))=true then (R 0 0 41 w) else (Bz w_ kind w fun(r:Int) w=>
 if (decide (r < 0))=true then (R 0 0 60 w) else (NN w_ fun(gC:Addr)=>
 Ld .sl w (gC.add 2) fun(L:Sl)=>
 Ix L.a L.len i 3 fun(a:Addr)=>
 Ld .sl w (a.add 2) fun(ch:Sl)=>
 I1 ch kind w fun(k:Int) w=>
 if (decide (k < 0))=true then (R 0 0 62 w) else (R i k 0 w)))
theorem Uh {w_ ag an kind w R} (h:f85 w_ ag an kind w R):W8 w_ ag an kind w R:=
  ah (H:=⟨[],[]⟩) cr Tryz.func85 (cast (by kernel_rfl) h)
def f86 (w_:Option Addr) (ag an kind:Int) (w:World) (R:Int->Sl->Int->World->Prop):Prop:=
 Nw (.cells #[.int .i64 ag,.int .i64 an] 33) w fun(e:Addr) w=>
 Nw (.cells #[.int .i64 0,.slice none 0 0] 36) w fun(a:Addr) w=>
 Ld (.i .i64) w e fun(ay:Int)=>Ld (.i .i64) w (e.add 1) fun(aP:Int)=>
 R6 w_ ay aP kind w fun(set:Int) (has:Bool) (x_ bad:Int) w=>
 if (bad !=0)=true then (St a (.int .i64 0) w fun w=>
 St (a.add 1) (.slice none 0 0) w fun w=>
 Ld (.i .i64) w a fun(ko:Int)=>Ld .sl w (a.add 1) fun(eR:Sl)=>
 R ko eR bad w) else (if (!has)=true then (St a (.int .i64 0) w fun w=>
 St (a.add 1) (.slice none 0 0) w fun w=>
 Ld (.i .i64) w a fun(Al:Int)=>Ld .sl w (a.add 1) fun(tz:Sl)=>
 R Al tz 62 w) else (Ld (.i .i64) w e fun(aX:Int)=>Ld (.i .i64) w (e.add 1) fun(bY:Int)=>
 Nh w_ aX bY set kind w fun(NM:Int) (tA:Sl) w=>
 St a (.int .i64 NM) w fun w=>
 St (a.add 1) (.slice tA.a tA.len tA.cap) w fun w=>
 Ld (.i .i64) w a fun(NO:Int)=>Ld .sl w (a.add 1) fun(GW:Sl)=>
 R NO GW 0 w))
theorem Ui {w_ ag an kind w R} (h:f86 w_ ag an kind w R):c86 w_ ag an kind w R:=
  ah (H:=⟨[],[]⟩) cr Tryz.func86 (cast (by kernel_rfl) h)
def f87 (w_:Option Addr) (ag an:Int) (w:World) (R:Int->Int->Sl->Int->World->Prop):Prop:=
 Nw (.cells #[.int .i64 ag,.int .i64 an] 33) w fun(e:Addr) w=>
 Nw (.cells #[.int .i64 0,.int .i64 0,.slice none 0 0] 75) w fun(a:Addr) w=>
 Dr w fun w=>
 NN w_ fun(gC:Addr)=>
 Ld .p w (gC.add 1) fun(ar:Option Addr)=>
 Ld (.i .i64) w e fun(ay:Int)=>Ld (.i .i64) w (e.add 1) fun(aP:Int)=>
 DN ar ay aP w fun(r:Bool) w=>
 if (!r)=true then (St a (.int .i64 0) w fun w=>
 St (a.add 1) (.int .i64 0) w fun w=>
 St (a.add 2) (.slice none 0 0) w fun w=>
 Ld (.i .i64) w a fun(cK:Int)=>Ld (.i .i64) w (a.add 1) fun(ez:Int)=>Ld .sl w (a.add 2) fun(cm:Sl)=>
 R cK ez cm 41 w) else (Ld (.i .i64) w e fun(aX:Int)=>Ld (.i .i64) w (e.add 1) fun(bY:Int)=>
 M7 w_ aX bY w fun(fe ir:Int) (eu:Sl) w=>
 St a (.int .i64 fe) w fun w=>
 St (a.add 1) (.int .i64 ir) w fun w=>
 St (a.add 2) (.slice eu.a eu.len eu.cap) w fun w=>
 Ld (.i .i64) w a fun(Eb:Int)=>Ld (.i .i64) w (a.add 1) fun(JN:Int)=>Ld .sl w (a.add 2) fun(JO:Sl)=>
 R Eb JN JO 0 w)
theorem Uj {w_ ag an w R} (h:f87 w_ ag an w R):c87 w_ ag an w R:=
  ah (H:=⟨[],[]⟩) cr Tryz.func87 (cast (by kernel_rfl) h)
def f88 (w_:Option Addr) (ag an kind:Int) (w:World) (R:Int->Sl->Int->World->Prop):Prop:=
 Nw (.cells #[.int .i64 ag,.int .i64 an] 33) w fun(e:Addr) w=>
 Nw (.cells #[.int .i64 0,.slice none 0 0] 36) w fun(a:Addr) w=>
 Ld (.i .i64) w e fun(ay:Int)=>Ld (.i .i64) w (e.add 1) fun(aP:Int)=>
 W8 w_ ay aP kind w fun(i k bad:Int) w=>
 if (bad !=0)=true then (St a (.int .i64 0) w fun w=>
 St (a.add 1) (.slice none 0 0) w fun w=>
 Ld (.i .i64) w a fun(ko:Int)=>Ld .sl w (a.add 1) fun(eR:Sl)=>
 R ko eR bad w) else (NN w_ fun(gC:Addr)=>
 Ld .sl w (gC.add 2) fun(L:Sl)=>
 Ix L.a L.len i 3 fun(a2:Addr)=>
 Ld .sl w (a2.add 2) fun(ch:Sl)=>
 Cut ⟨ch.a,ch.len,ch.cap⟩ k (i64.wrap (k+1)) (ch.cap:Int) 2 fun(s:Sl)=>
 VW s w fun(r:Sl) w=>
 Ix r.a r.len 0 2 fun(a3:Addr)=>
 Ld (.i .i64) w a3 fun(mY:Int)=>Ld .sl w (a3.add 1) fun(fW:Sl)=>
 St a (.int .i64 mY) w fun w=>
 St (a.add 1) (.slice fW.a fW.len fW.cap) w fun w=>
 Ld (.i .i64) w a fun(Al:Int)=>Ld .sl w (a.add 1) fun(tz:Sl)=>
 R Al tz 0 w)
theorem Uk {w_ ag an kind w R} (h:f88 w_ ag an kind w R):c88 w_ ag an kind w R:=
  ah (H:=⟨[],[]⟩) cr Tryz.func88 (cast (by kernel_rfl) h)
def f89 (w_:Option Addr) (ag an:Int) (w:World) (R:Int->Int->Sl->Int->World->Prop):Prop:=
 Nw (.cells #[.int .i64 ag,.int .i64 an] 33) w fun(e:Addr) w=>
 Nw (.cells #[.int .i64 0,.int .i64 0,.slice none 0 0] 75) w fun(a:Addr) w=>
 Ld (.i .i64) w e fun(ay:Int)=>Ld (.i .i64) w (e.add 1) fun(aP:Int)=>
 R7 w_ ay aP w fun(i:Int) w=>
 if (decide (i < 0))=true then (St a (.int .i64 0) w fun w=>
 St (a.add 1) (.int .i64 0) w fun w=>
 St (a.add 2) (.slice none 0 0) w fun w=>
 Ld (.i .i64) w a fun(cK:Int)=>Ld (.i .i64) w (a.add 1) fun(ez:Int)=>Ld .sl w (a.add 2) fun(cm:Sl)=>
 R cK ez cm 41 w) else (Dr w fun w=>
 Ld (.i .i64) w e fun(aX:Int)=>Ld (.i .i64) w (e.add 1) fun(bY:Int)=>
 NN w_ fun(gC:Addr)=>
 Ld .sl w (gC.add 2) fun(L:Sl)=>
 Ix L.a L.len i 3 fun(a2:Addr)=>
 Ld .sl w (a2.add 2) fun(ch:Sl)=>
 VW ch w fun(r:Sl) w=>
 w.cell? e=some (.int .i64 aX) /\ w.cell? (e.add 1)=some (.int .i64 bY) /\ (St a (.int .i64 aX) w fun w=>
 St (a.add 1) (.int .i64 bY) w fun w=>
 St (a.add 2) (.slice r.a r.len r.cap) w fun w=>
 Ld (.i .i64) w a fun(fe:Int)=>Ld (.i .i64) w (a.add 1) fun(ir:Int)=>Ld .sl w (a.add 2) fun(eu:Sl)=>
 R fe ir eu 0 w))
theorem Ul {w_ ag an w R} (h:f89 w_ ag an w R):c89 w_ ag an w R:=
  ah (H:=⟨[],[]⟩) cr Tryz.func89 (cast (by kernel_rfl) h)
def f90 (w_:Option Addr) (ag an:Int) (w:World) (R:Bool->World->Prop):Prop:=
 Nw (.cells #[.int .i64 ag,.int .i64 an] 33) w fun(e:Addr) w=>
 Dr w fun w=>
 NN w_ fun(gC:Addr)=>
 Ld .p w (gC.add 1) fun(ar:Option Addr)=>
 Ld (.i .i64) w e fun(ay:Int)=>Ld (.i .i64) w (e.add 1) fun(aP:Int)=>
 DN ar ay aP w fun(r:Bool) w=>
 R r w
theorem Um {w_ ag an w R} (h:f90 w_ ag an w R):c90 w_ ag an w R:=
  ah (H:=⟨[],[]⟩) cr Tryz.func90 (cast (by kernel_rfl) h)
def f91 (a b:Sl) (w:World) (R:Bool->World->Prop):Prop:=
 if ((a.len:Int) !=(b.len:Int))=true then (R false w) else (∃aq:Int->Nat->World->Prop,(∃n:Nat,aq 0 n w) /\ ∀i:Int,∀m:Nat,∀w:World,aq i m w->(if (decide (i < (a.len:Int)))=true then (Dr w fun w=>
 Ix a.a a.len i 2 fun(a2:Addr)=>
 Ld .sl w (a2.add 1) fun(bU:Sl)=>
 Ix b.a b.len i 2 fun(a3:Addr)=>
 Ld .sl w (a3.add 1) fun(bT:Sl)=>
 Sj bU bT w fun(ok:Bool) w=>
 Dr w fun w=>
 if (!ok)=true then (R false w) else (Ix a.a a.len i 2 fun(a4:Addr)=>
 Ld (.i .i64) w a4 fun(Kind:Int)=>
 Ix b.a b.len i 2 fun(a5:Addr)=>
 Ld (.i .i64) w a5 fun(g9:Int)=>
 if (Kind !=g9)=true then (R false w) else (∃m2:Nat,m2 < m /\ aq (i64.wrap (i+1)) m2 w))) else (R true w)))
theorem Un {a b w R} (h:f91 a b w R):W9 a b w R:=
  ah (H:=⟨[(4,⟨[(5,.i .i64)],[0,1]⟩)],[]⟩) cr Tryz.func91 (cast (by kernel_rfl) h)
def f92 (w_:Option Addr) (ag an:Int) (w:World) (R:Bool->World->Prop):Prop:=
 Nw (.cells #[.int .i64 ag,.int .i64 an] 33) w fun(e:Addr) w=>
 Ld (.i .i64) w e fun(ay:Int)=>Ld (.i .i64) w (e.add 1) fun(aP:Int)=>
 R7 w_ ay aP w fun(r:Int) w=>
 R (decide (r>=0)) w
theorem Uo {w_ ag an w R} (h:f92 w_ ag an w R):c92 w_ ag an w R:=
  ah (H:=⟨[],[]⟩) cr Tryz.func92 (cast (by kernel_rfl) h)
def f93 (b:Option Addr) (l:Sl) (w:World) (R:World->Prop):Prop:=
 NN b fun(b_:Addr)=>
 Ld .sl w b_ fun(v:Sl)=>
 ∃aq:Int->Nat->World->Prop,(∃n:Nat,aq 0 n w) /\ ∀i:Int,∀m:Nat,∀w:World,aq i m w->(if (decide (i < (l.len:Int)))=true then (Ix l.a l.len i 1 fun(a:Addr)=>
 St a (.int .i64 (i64.wrap (1000000+(v.len:Int)))) w fun w=>
 ∃m2:Nat,m2 < m /\ aq (i64.wrap (i+1)) m2 w) else (NN b fun(Nr:Addr)=>
 Ld .sl w Nr fun(v2:Sl)=>
 Nw (.cells #[.slice l.a l.len l.cap] 34) w fun(b2:Addr) w=>
 cA .sl Tryz.prog (Builtin.append_ #[46,46] 46 #[.slice v2.a v2.len v2.cap,.slice (some b2) 1 1]) w fun(s:Sl) w=>
 NN b fun(Ns:Addr)=>
 St Ns (.slice s.a s.len s.cap) w fun w=>
 NN b fun(Nt:Addr)=>
 Ld .sl w (Nt.add 3) fun(x:Sl)=>
 Nw (.cells #[.int .i64 (i64.wrap (1000000+(v.len:Int)))] 2) w fun(b3:Addr) w=>
 cA .sl Tryz.prog (Builtin.append_ #[34,34] 34 #[.slice x.a x.len x.cap,.slice (some b3) 1 1]) w fun(s2:Sl) w=>
 NN b fun(Nu:Addr)=>
 St (Nu.add 3) (.slice s2.a s2.len s2.cap) w fun w=>
 R w))
theorem Up {b l w R} (h:f93 b l w R):Xa b l w R:=
  ah (H:=⟨[(2,⟨[(5,.i .i64)],[0,1,4]⟩)],[]⟩) cr Tryz.func93 (cast (by kernel_rfl) h)
def f94 (b:Option Addr) (l:Sl) (w:World) (R:World->Prop):Prop:=
 NN b fun(b_:Addr)=>
 Ld .sl w (b_.add 1) fun(p:Sl)=>
 ∃aq:Int->Nat->World->Prop,(∃n:Nat,aq 0 n w) /\ ∀i:Int,∀m:Nat,∀w:World,aq i m w->(if (decide (i < (l.len:Int)))=true then (Ix l.a l.len i 2 fun(a:Addr)=>
 Ld .sl w (a.add 1) fun(bU:Sl)=>
 Xa b bU w fun w=>
 Ix l.a l.len i 2 fun(a2:Addr)=>
 St a2 (.int .i64 (i64.wrap (1000000+(p.len:Int)))) w fun w=>
 St (a2.add 1) (.slice none 0 0) w fun w=>
 ∃m2:Nat,m2 < m /\ aq (i64.wrap (i+1)) m2 w) else (NN b fun(Nr:Addr)=>
 Ld .sl w (Nr.add 1) fun(p2:Sl)=>
 Nw (.cells #[.slice l.a l.len l.cap] 37) w fun(b2:Addr) w=>
 cA .sl Tryz.prog (Builtin.append_ #[47,47] 47 #[.slice p2.a p2.len p2.cap,.slice (some b2) 1 1]) w fun(s:Sl) w=>
 NN b fun(Ns:Addr)=>
 St (Ns.add 1) (.slice s.a s.len s.cap) w fun w=>
 NN b fun(Nt:Addr)=>
 Ld .sl w (Nt.add 4) fun(y:Sl)=>
 Nw (.cells #[.int .i64 (i64.wrap (1000000+(p.len:Int)))] 3) w fun(b3:Addr) w=>
 cA .sl Tryz.prog (Builtin.append_ #[49,49] 49 #[.slice y.a y.len y.cap,.slice (some b3) 1 1]) w fun(s2:Sl) w=>
 NN b fun(Nu:Addr)=>
 St (Nu.add 4) (.slice s2.a s2.len s2.cap) w fun w=>
 R w))
theorem Uq {b l w R} (h:f94 b l w R):Xb b l w R:=
  ah (H:=⟨[(2,⟨[(5,.i .i64)],[0,1,4]⟩)],[]⟩) cr Tryz.func94 (cast (by kernel_rfl) h)
def f95 (p:Option Addr) (w:World) (R:Option Addr->World->Prop):Prop:=
 Dr w fun w=>
 NN p fun(p_:Addr)=>
 Ld (.i .i64) w p_ fun(aO:Int)=>
 NN p fun(nT:Addr)=>
 Ld .sl w (nT.add 1) fun(au:Sl)=>
 NN p fun(nZ:Addr)=>
 Ld .sl w (nZ.add 2) fun(alive:Sl)=>
 NN p fun(vN:Addr)=>
 Ld .sl w (vN.add 3) fun(free:Sl)=>
 R8 au w fun(r:Sl) w=>
 w.cell? (vN.add 3)=some (.slice free.a free.len free.cap) /\ w.cell? (nZ.add 2)=some (.slice alive.a alive.len alive.cap) /\ w.cell? p_=some (.int .i64 aO) /\ (Sk alive w fun(r2:Sl) w=>
 w.cell? (vN.add 3)=some (.slice free.a free.len free.cap) /\ w.cell? p_=some (.int .i64 aO) /\ (R8 free w fun(r3:Sl) w=>
 w.cell? p_=some (.int .i64 aO) /\ (Nw (.cells #[.int .i64 aO,.slice r.a r.len r.cap,.slice r2.a r2.len r2.cap,.slice r3.a r3.len r3.cap] 149) w fun(a:Addr) w=>
 R (some a) w)))
theorem Ur {p w R} (h:f95 p w R):c95 p w R:=
  ah (H:=⟨[],[]⟩) cr Tryz.func95 (cast (by kernel_rfl) h)
def f96 (t:Option Addr) (w:World) (R:Option Addr->World->Prop):Prop:=
 Dr w fun w=>
 NN t fun(t_:Addr)=>
 Ld .sl w t_ fun(aw:Sl)=>
 NN t fun(Qz:Addr)=>
 Ld .m w (Qz.add 2) fun(rows:Option Nat)=>
 Sm aw w fun(r:Sl) w=>
 w.cell? (Qz.add 2)=some (.map rows) /\ (Sn rows w fun(r2:Option Nat) w=>
 Nw (.cells #[.slice r.a r.len r.cap,.slice none 0 0,.map r2] 186) w fun(c:Addr) w=>
 NN t fun(XA:Addr)=>
 Ld .sl w (XA.add 1) fun(cB:Sl)=>
 ∃aq:Int->Nat->World->Prop,(∃n:Nat,aq 0 n w) /\ ∀t23:Int,∀m:Nat,∀w:World,aq t23 m w->(if (decide (t23 < (cB.len:Int)))=true then (Ix cB.a cB.len t23 1 fun(a:Addr)=>
 Ld .sl w a fun(l:Sl)=>
 Dr w fun w=>
 Ld .sl w (c.add 1) fun(ey:Sl)=>
 I2 l w fun(r3:Sl) w=>
 w.cell? (c.add 1)=some (.slice ey.a ey.len ey.cap) /\ (Nw (.cells #[.slice r3.a r3.len r3.cap] 34) w fun(b:Addr) w=>
 cA .sl Tryz.prog (Builtin.append_ #[46,46] 46 #[.slice ey.a ey.len ey.cap,.slice (some b) 1 1]) w fun(s:Sl) w=>
 St (c.add 1) (.slice s.a s.len s.cap) w fun w=>
 ∃m2:Nat,m2 < m /\ aq (i64.wrap (t23+1)) m2 w)) else (R (some c) w)))
theorem Us {t w R} (h:f96 t w R):c96 t w R:=
  ah (H:=⟨[(3,⟨[(23,.i .i64)],[3,21,22]⟩)],[]⟩) cr Tryz.func96 (cast (by kernel_rfl) h)
def f97 (s:Sl) (w:World) (R:Sl->World->Prop):Prop:=
 if s.a.isNone=true then (R ⟨none,0,0⟩ w) else (Nw (.cells #[] 3) w fun(b:Addr) w=>
 cA .sl Tryz.prog (Builtin.append_ #[49,49] 49 #[.slice (some b) 0 0,.slice s.a s.len s.cap]) w fun(s2:Sl) w=>
 R s2 w)
theorem JP {s w R} (h:f97 s w R):R8 s w R:=
  ah (H:=⟨[],[]⟩) cr Tryz.func97 (cast (by kernel_rfl) h)
def f98 (b:Sl) (w:World) (R:Sl->World->Prop):Prop:=
 cA .sl Tryz.prog (Builtin.append_ #[23,23] 23 #[.slice none 0 0,.slice b.a b.len b.cap]) w fun(s:Sl) w=>
 R s w
theorem Ec {b w R} (h:f98 b w R):c98 b w R:=
  ah (H:=⟨[],[]⟩) cr Tryz.func98 (cast (by kernel_rfl) h)
def f99 (l:Sl) (w:World) (R:Sl->World->Prop):Prop:=
 Nw (.cells #[.slice l.a l.len l.cap] 34) w fun(l2:Addr) w=>
 Ld .sl w l2 fun(l3:Sl)=>
 Ai ⟨none,0,0⟩ (u64.wrap (l3.len:Int)) w fun(head:Sl) w=>
 Nw (.cells #[.slice none 0 0] 23) w fun(rO:Addr) w=>
 St rO (.slice head.a head.len head.cap) w fun w=>
 Ld .sl w l2 fun(l4:Sl)=>
 if ((l4.len:Int) ==0)=true then (Ld .sl w rO fun(XB:Sl)=>
 R XB w) else (∃aq:Sl->Int->Nat->World->Prop,(∃n:Nat,aq ⟨none,0,0⟩ 0 n w) /\ ∀kp:Sl,∀t17:Int,∀m:Nat,∀w:World,aq kp t17 m w->(if (decide (t17 < 3))=true then (IC Tryz.prog (.func (.func 142) #[] #[.pointer (some rO),.pointer (some l2)]) [.int .u8 t17] [.one .sl] w fun(r:Sl) w=>
 if (cond kp.a.isNone true (decide ((r.len:Int) < (kp.len:Int))))=true then (∃m2:Nat,m2 < m /\ aq r (u8.wrap (t17+1)) m2 w) else (∃m2:Nat,m2 < m /\ aq kp (u8.wrap (t17+1)) m2 w)) else (R kp w)))
theorem Ut {l w R} (h:f99 l w R):c99 l w R:=
  ah (H:=⟨[(7,⟨[(5,.sl),(17,.i .u8)],[4]⟩)],[]⟩) cr Tryz.func99 (cast (by kernel_rfl) h)
def f100 (w_:Option Addr) (ag an:Int) (w:World) (R:Int->Int->Sl->World->Prop):Prop:=
 Nw (.cells #[.int .i64 ag,.int .i64 an] 33) w fun(e:Addr) w=>
 Nw (.cells #[.int .i64 0,.int .i64 0,.slice none 0 0] 75) w fun(a:Addr) w=>
 Ld (.i .i64) w e fun(ay:Int)=>Ld (.i .i64) w (e.add 1) fun(aP:Int)=>
 Nw (.cells #[.int .i64 0,.int .i64 0,.slice none 0 0] 75) w fun(r:Addr) w=>
 St r (.int .i64 ay) w fun w=>
 St (r.add 1) (.int .i64 aP) w fun w=>
 St (r.add 2) (.slice none 0 0) w fun w=>
 Dr w fun w=>
 NN w_ fun(gC:Addr)=>
 Ld .m w (gC.add 2) fun(aE:Option Nat)=>
 Ld (.i .i64) w e fun(aX:Int)=>Ld (.i .i64) w (e.add 1) fun(bY:Int)=>
 gB [.one (.i .i64)] Tryz.prog (Instr.lookup 88 (.map aE) (.agg #[.int .i64 aX,.int .i64 bY]) false) w fun(set:Int) _=>
 NN w_ fun(mZ:Addr)=>
 Ld .sl w mZ fun(kinds:Sl)=>
 ∃aq:Int->Nat->World->Prop,(∃n:Nat,aq 0 n w) /\ ∀t21:Int,∀m:Nat,∀w:World,aq t21 m w->(if (decide (t21 < (kinds.len:Int)))=true then ((0:Int)<=(i64.wrap (t21+1)) /\ (if ((i64.wrap ((BitVec.ofInt 64 (Int.fdiv set (2 ^ (min (Int.toNat (i64.wrap (t21+1))) 64))) &&& BitVec.ofInt 64 1).toNat:Nat)) ==1)=true then (Dr w fun w=>
 Ld .sl w (r.add 2) fun(ch:Sl)=>
 Ld (.i .i64) w e fun(ei:Int)=>Ld (.i .i64) w (e.add 1) fun(gU:Int)=>
 Nh w_ ei gU set (i64.wrap (t21+1)) w fun(ko:Int) (eR:Sl) w=>
 w.cell? (r.add 2)=some (.slice ch.a ch.len ch.cap) /\ (Nw (.cells #[.int .i64 ko,.slice eR.a eR.len eR.cap] 36) w fun(b:Addr) w=>
 cA .sl Tryz.prog (Builtin.append_ #[37,37] 37 #[.slice ch.a ch.len ch.cap,.slice (some b) 1 1]) w fun(s:Sl) w=>
 St (r.add 2) (.slice s.a s.len s.cap) w fun w=>
 ∃m2:Nat,m2 < m /\ aq (i64.wrap (t21+1)) m2 w)) else (∃m2:Nat,m2 < m /\ aq (i64.wrap (t21+1)) m2 w))) else (Ld (.i .i64) w r fun(cK:Int)=>Ld (.i .i64) w (r.add 1) fun(ez:Int)=>Ld .sl w (r.add 2) fun(cm:Sl)=>
 St a (.int .i64 cK) w fun w=>
 St (a.add 1) (.int .i64 ez) w fun w=>
 St (a.add 2) (.slice cm.a cm.len cm.cap) w fun w=>
 Ld (.i .i64) w a fun(fe:Int)=>Ld (.i .i64) w (a.add 1) fun(ir:Int)=>Ld .sl w (a.add 2) fun(eu:Sl)=>
 R fe ir eu w))
theorem NP {w_ ag an w R} (h:f100 w_ ag an w R):M7 w_ ag an w R:=
  ah (H:=⟨[(4,⟨[(21,.i .i64)],[0,3,4,5,6,20]⟩)],[]⟩) cr Tryz.func100 (cast (by kernel_rfl) h)
def f101 (b:Sl) (n_:Int) (w:World) (R:Sl->World->Prop):Prop:=
 ∃aq:Sl->Int->Nat->World->Prop,(∃n:Nat,aq b n_ n w) /\ ∀b2:Sl,∀vQ:Int,∀m:Nat,∀w:World,aq b2 vQ m w->(if (decide (vQ>=128))=true then (Nw (.cells #[.int .u8 (u8.wrap ((BitVec.ofInt 8 (u8.wrap vQ) ||| BitVec.ofInt 8 128).toNat:Nat))] 5) w fun(b3:Addr) w=>
 cA .sl Tryz.prog (Builtin.append_ #[23,23] 23 #[.slice b2.a b2.len b2.cap,.slice (some b3) 1 1]) w fun(b4:Sl) w=>
 (0:Int)<=7 /\ (∃m2:Nat,m2 < m /\ aq b4 (Int.fdiv vQ (2 ^ (min (Int.toNat 7) 64))) m2 w)) else (Nw (.cells #[.int .u8 (u8.wrap vQ)] 5) w fun(b5:Addr) w=>
 cA .sl Tryz.prog (Builtin.append_ #[23,23] 23 #[.slice b2.a b2.len b2.cap,.slice (some b5) 1 1]) w fun(s:Sl) w=>
 R s w))
theorem NQ {b n_ w R} (h:f101 b n_ w R):Ai b n_ w R:=
  ah (H:=⟨[(1,⟨[(0,.sl),(1,.i .u64)],[]⟩)],[]⟩) cr Tryz.func101 (cast (by kernel_rfl) h)
def f102 (n_:Int) (w:World) (R:Int->World->Prop):Prop:=
 (0:Int)<=1 /\ ((0:Int)<=63 /\ (R (u64.wrap ((BitVec.ofInt 64 (u64.wrap (i64.wrap (n_*2 ^ (min (Int.toNat 1) 64)))) ^^^ BitVec.ofInt 64 (u64.wrap (Int.fdiv n_ (2 ^ (min (Int.toNat 63) 64))))).toNat:Nat)) w))
theorem FC {n_ w R} (h:f102 n_ w R):GH n_ w R:=
  ah (H:=⟨[],[]⟩) cr Tryz.func102 (cast (by kernel_rfl) h)
def f103 (t:Option Addr) (w:World) (R:Int->World->Prop):Prop:=
 NN t fun(t_:Addr)=>
 Ld .sl w t_ fun(aw:Sl)=>
 R (aw.len:Int) w
theorem NR {t w R} (h:f103 t w R):GI t w R:=
  ah (H:=⟨[],[]⟩) cr Tryz.func103 (cast (by kernel_rfl) h)
def f104 (l:Sl) (w:World) (R:Int->World->Prop):Prop:=
 ∃aq:Int->Int->Nat->World->Prop,(∃n:Nat,aq 0 0 n w) /\ ∀n_:Int,∀i:Int,∀m:Nat,∀w:World,aq n_ i m w->(if (decide (i < (l.len:Int)))=true then (Ix l.a l.len i 2 fun(a:Addr)=>
 Ld (.i .i64) w a fun(Kind:Int)=>
 (0:Int)<=Kind /\ (∃m2:Nat,m2 < m /\ aq (i64.wrap (n_+(i64.wrap (1*2 ^ (min (Int.toNat Kind) 64))))) (i64.wrap (i+1)) m2 w)) else (R n_ w))
theorem NS {l w R} (h:f104 l w R):M8 l w R:=
  ah (H:=⟨[(3,⟨[(3,.i .i64),(4,.i .i64)],[0]⟩)],[]⟩) cr Tryz.func104 (cast (by kernel_rfl) h)
def f105 (w_:Option Addr) (w:World) (R:Sl->World->Prop):Prop:=
 NN w_ fun(gC:Addr)=>
 Ld .p w (gC.add 1) fun(Jq:Option Addr)=>
 Sq Jq w fun(au free:Sl) w=>
 Nj au w fun(r:Sl) w=>
 Ni ⟨none,0,0⟩ r w fun(b:Sl) w=>
 Nj free w fun(r2:Sl) w=>
 Ni b r2 w fun(r3:Sl) w=>
 R r3 w
theorem NT {w_ w R} (h:f105 w_ w R):R9 w_ w R:=
  ah (H:=⟨[],[]⟩) cr Tryz.func105 (cast (by kernel_rfl) h)
def f106 (b:Sl) (n_:Int) (w:World) (R:Sl->World->Prop):Prop:=
 cA .sl Tryz.prog (Builtin.append_ #[23,23] 23 #[.slice none 0 0,.slice b.a b.len b.cap]) w fun(out:Sl) w=>
 ∃aq:Int->Sl->Nat->World->Prop,(∃n:Nat,aq n_ out n w) /\ ∀vQ:Int,∀bR:Sl,∀m:Nat,∀w:World,aq vQ bR m w->(if (decide (vQ>=128))=true then ((128:Int)≠0 /\ (Nw (.cells #[.int .u8 (u8.wrap (u64.wrap ((Int.tmod vQ 128)+128)))] 5) w fun(b2:Addr) w=>
 cA .sl Tryz.prog (Builtin.append_ #[23,23] 23 #[.slice bR.a bR.len bR.cap,.slice (some b2) 1 1]) w fun(fV:Sl) w=>
 (128:Int)≠0 /\ (∃m2:Nat,m2 < m /\ aq (u64.wrap (Int.tdiv vQ 128)) fV m2 w))) else (Nw (.cells #[.int .u8 (u8.wrap vQ)] 5) w fun(b3:Addr) w=>
 cA .sl Tryz.prog (Builtin.append_ #[23,23] 23 #[.slice bR.a bR.len bR.cap,.slice (some b3) 1 1]) w fun(s:Sl) w=>
 R s w))
theorem NU {b n_ w R} (h:f106 b n_ w R):DM b n_ w R:=
  ah (H:=⟨[(3,⟨[(1,.i .u64),(5,.sl)],[]⟩)],[]⟩) cr Tryz.func106 (cast (by kernel_rfl) h)
def f107 (b:Sl) (n_:Int) (w:World) (R:Sl->World->Prop):Prop:=
 Sr n_ w fun(r:Int) w=>
 DM b r w fun(r2:Sl) w=>
 R r2 w
theorem NV {b n_ w R} (h:f107 b n_ w R):GJ b n_ w R:=
  ah (H:=⟨[],[]⟩) cr Tryz.func107 (cast (by kernel_rfl) h)
def f108 (n_:Int) (w:World) (R:Int->World->Prop):Prop:=
 if (decide (n_ < 4))=true then (R 70 w) else (R 9 w)
theorem NW {n_ w R} (h:f108 n_ w R):M9 n_ w R:=
  ah (H:=⟨[],[]⟩) cr Tryz.func108 (cast (by kernel_rfl) h)
def f109 (l:Sl) (w:World) (R:Bool->World->Prop):Prop:=
 ∃aq:Int->Nat->World->Prop,(∃n:Nat,aq 0 n w) /\ ∀t7:Int,∀m:Nat,∀w:World,aq t7 m w->(if (decide (t7 < (l.len:Int)))=true then (Ix l.a l.len t7 1 fun(a:Addr)=>
 Ld .s w a fun(s:ByteArray)=>
 Ss s w fun(r:Bool) w=>
 if (!r)=true then (R false w) else (Cut ⟨l.a,l.len,l.cap⟩ 0 t7 (l.cap:Int) 1 fun(s2:Sl)=>
 Su s2 s w fun(r2:Bool) w=>
 if r2=true then (R false w) else (∃m2:Nat,m2 < m /\ aq (i64.wrap (t7+1)) m2 w))) else (R true w))
theorem NX {l w R} (h:f109 l w R):Na l w R:=
  ah (H:=⟨[(2,⟨[(7,.i .i64)],[0,5,6]⟩)],[]⟩) cr Tryz.func109 (cast (by kernel_rfl) h)
def f110 (s:Sl) (w:World) (R:Sl->World->Prop):Prop:=
 if s.a.isNone=true then (R ⟨none,0,0⟩ w) else (Nw (.cells #[] 107) w fun(b:Addr) w=>
 cA .sl Tryz.prog (Builtin.append_ #[22,22] 22 #[.slice (some b) 0 0,.slice s.a s.len s.cap]) w fun(s2:Sl) w=>
 R s2 w)
theorem FD {s w R} (h:f110 s w R):Nb s w R:=
  ah (H:=⟨[],[]⟩) cr Tryz.func110 (cast (by kernel_rfl) h)
def f111 (s:Sl) (w:World) (R:Sl->World->Prop):Prop:=
 if s.a.isNone=true then (R ⟨none,0,0⟩ w) else (Nw (.cells #[] 9) w fun(b:Addr) w=>
 cA .sl Tryz.prog (Builtin.append_ #[45,45] 45 #[.slice (some b) 0 0,.slice s.a s.len s.cap]) w fun(s2:Sl) w=>
 R s2 w)
theorem NY {s w R} (h:f111 s w R):Sa s w R:=
  ah (H:=⟨[],[]⟩) cr Tryz.func111 (cast (by kernel_rfl) h)
def f114 (w_:Option Addr) (set:Int) (w:World) (R:Option Addr->World->Prop):Prop:=
 NN w_ fun(gC:Addr)=>
 Ld .m w (gC.add 3) fun(tables:Option Nat)=>
 gB [.one .p] Tryz.prog (Instr.lookup 89 (.map tables) (.int .i64 set) false) w fun(t:Option Addr) _=>
 if t.isNone=true then (NN w_ fun(mZ:Addr)=>
 Ld .sl w mZ fun(kinds:Sl)=>
 M6 w_ set (i64.wrap ((kinds.len:Int)+1)) w fun(r:Int) w=>
 Sv r w fun(t2:Option Addr) (r2:Int) w=>
 NN w_ fun(D3:Addr)=>
 Ld .m w (D3.add 3) fun(pG:Option Nat)=>
 rm Tryz.prog (Instr.mapUpdate 89 (.map pG) (.int .i64 set) (.pointer t2)) w fun w=>
 R t2 w) else (R t w)
theorem NZ {w_ set w R} (h:f114 w_ set w R):Sb w_ set w R:=
  ah (H:=⟨[],[]⟩) cr Tryz.func114 (cast (by kernel_rfl) h)
def f115 (t:Option Addr) (ag an:Int) (values:Sl) (w:World) (R:Int->Int->World->Prop):Prop:=
 Nw (.cells #[.int .i64 ag,.int .i64 an] 33) w fun(e:Addr) w=>
 Dr w fun w=>
 NN t fun(t_:Addr)=>
 Ld .m w (t_.add 2) fun(rows:Option Nat)=>
 Ld (.i .i64) w e fun(ay:Int)=>Ld (.i .i64) w (e.add 1) fun(aP:Int)=>
 gB [.one (.i .i64),.one .b] Tryz.prog (Instr.lookup 88 (.map rows) (.agg #[.int .i64 ay,.int .i64 aP]) true) w fun(e2:Int) (ok:Bool) _=>
 NN t fun(Qz:Addr)=>
 Ld .sl w Qz fun(aw:Sl)=>
 NN t fun(XA:Addr)=>
 Ld .sl w (XA.add 1) fun(cB:Sl)=>
 if ((values.len:Int) !=(cB.len:Int))=true then (R 0 63 w) else (if ok=true then (R 0 61 w) else (if (decide ((aw.len:Int)>=200))=true then (R 0 40 w) else (∃aq:Int->Nat->World->Prop,(∃n:Nat,aq 0 n w) /\ ∀t43:Int,∀m:Nat,∀w:World,aq t43 m w->(if (decide (t43 < (values.len:Int)))=true then (Ix values.a values.len t43 1 fun(a:Addr)=>
 Ld (.i .i64) w a fun(x:Int)=>
 Dr w fun w=>
 NN t fun(t_4:Addr)=>
 Ld .sl w (t_4.add 1) fun(ey:Sl)=>
 NN t fun(t_5:Addr)=>
 Ld .sl w (t_5.add 1) fun(BG:Sl)=>
 Ix BG.a BG.len t43 1 fun(a2:Addr)=>
 Ld .sl w a2 fun(x2:Sl)=>
 Nw (.cells #[.int .i64 x] 2) w fun(b:Addr) w=>
 cA .sl Tryz.prog (Builtin.append_ #[34,34] 34 #[.slice x2.a x2.len x2.cap,.slice (some b) 1 1]) w fun(s:Sl) w=>
 w.cell? (t_4.add 1)=some (.slice ey.a ey.len ey.cap) /\ (Ix ey.a ey.len t43 1 fun(a3:Addr)=>
 St a3 (.slice s.a s.len s.cap) w fun w=>
 ∃m2:Nat,m2 < m /\ aq (i64.wrap (t43+1)) m2 w)) else (Dr w fun w=>
 NN t fun(t_6:Addr)=>
 Ld .sl w t_6 fun(pH:Sl)=>
 Ld (.i .i64) w e fun(aX:Int)=>Ld (.i .i64) w (e.add 1) fun(bY:Int)=>
 Nw (.cells #[.int .i64 aX,.int .i64 bY] 33) w fun(b2:Addr) w=>
 cA .sl Tryz.prog (Builtin.append_ #[43,43] 43 #[.slice pH.a pH.len pH.cap,.slice (some b2) 1 1]) w fun(s2:Sl) w=>
 NN t fun(t_7:Addr)=>
 St t_7 (.slice s2.a s2.len s2.cap) w fun w=>
 Dr w fun w=>
 NN t fun(t_8:Addr)=>
 Ld .m w (t_8.add 2) fun(JQ:Option Nat)=>
 Ld (.i .i64) w e fun(ei:Int)=>Ld (.i .i64) w (e.add 1) fun(gU:Int)=>
 rm Tryz.prog (Instr.mapUpdate 88 (.map JQ) (.agg #[.int .i64 ei,.int .i64 gU]) (.int .i64 (aw.len:Int))) w fun w=>
 R (aw.len:Int) 0 w)))))
theorem N0 {t ag an values w R} (h:f115 t ag an values w R):Sc t ag an values w R:=
  ah (H:=⟨[(10,⟨[(43,.i .i64)],[0,4,10,41,42]⟩)],[]⟩) cr Tryz.func115 (cast (by kernel_rfl) h)
def f116 (p:Option Addr) (ag an:Int) (w:World) (R:Bool->World->Prop):Prop:=
 Nw (.cells #[.int .i64 ag,.int .i64 an] 33) w fun(e:Addr) w=>
 Ld (.i .i64) w e fun(Index:Int)=>
 Nc p Index w fun(jM rN err:Int) w=>
 Nw (.cells #[.int .i64 0,.int .i64 0] 33) w fun(x:Addr) w=>
 St x (.int .i64 jM) w fun w=>
 St (x.add 1) (.int .i64 rN) w fun w=>
 if (err ==0)=true then (Ld (.i .i64) w x fun(oC:Int)=>Ld (.i .i64) w (x.add 1) fun(wX:Int)=>
 Ld (.i .i64) w e fun(ay:Int)=>Ld (.i .i64) w (e.add 1) fun(aP:Int)=>
 iH .b Tryz.prog (cH .eql 33 (.tmp 17) (.tmp 18) (.agg #[.int .i64 oC,.int .i64 wX]) (.agg #[.int .i64 ay,.int .i64 aP])) w fun(eq:Bool)=>
 R eq w) else (R false w)
theorem N1 {p ag an w R} (h:f116 p ag an w R):DN p ag an w R:=
  ah (H:=⟨[],[]⟩) cr Tryz.func116 (cast (by kernel_rfl) h)
def f117 (t:Option Addr) (row:Int) (w:World) (R:Int->Int->Sl->Int->World->Prop):Prop:=
 Nw (.cells #[.int .i64 0,.int .i64 0] 33) w fun(a:Addr) w=>
 I3 t row w fun(r:Bool) w=>
 if (!r)=true then (St a (.int .i64 0) w fun w=>
 St (a.add 1) (.int .i64 0) w fun w=>
 Ld (.i .i64) w a fun(cT:Int)=>Ld (.i .i64) w (a.add 1) fun(fG:Int)=>
 R cT fG ⟨none,0,0⟩ 50 w) else (NN t fun(t_:Addr)=>
 Ld .sl w (t_.add 1) fun(cB:Sl)=>
 ∃aq:Sl->Int->Nat->World->Prop,(∃n:Nat,aq ⟨none,0,0⟩ 0 n w) /\ ∀out:Sl,∀t20:Int,∀m:Nat,∀w:World,aq out t20 m w->(if (decide (t20 < (cB.len:Int)))=true then (Ix cB.a cB.len t20 1 fun(a2:Addr)=>
 Ld .sl w a2 fun(l:Sl)=>
 Ix l.a l.len row 1 fun(a3:Addr)=>
 Ld (.i .i64) w a3 fun(x:Int)=>
 Nw (.cells #[.int .i64 x] 2) w fun(b:Addr) w=>
 cA .sl Tryz.prog (Builtin.append_ #[34,34] 34 #[.slice out.a out.len out.cap,.slice (some b) 1 1]) w fun(bR:Sl) w=>
 ∃m2:Nat,m2 < m /\ aq bR (i64.wrap (t20+1)) m2 w) else (NN t fun(Qz:Addr)=>
 Ld .sl w Qz fun(aw:Sl)=>
 Ix aw.a aw.len row 2 fun(a4:Addr)=>
 Ld (.i .i64) w a4 fun(jM:Int)=>Ld (.i .i64) w (a4.add 1) fun(rN:Int)=>
 St a (.int .i64 jM) w fun w=>
 St (a.add 1) (.int .i64 rN) w fun w=>
 Ld (.i .i64) w a fun(ej:Int)=>Ld (.i .i64) w (a.add 1) fun(gV:Int)=>
 R ej gV out 0 w)))
theorem N4 {t row w R} (h:f117 t row w R):IZ t row w R:=
  ah (H:=⟨[(5,⟨[(7,.sl),(20,.i .i64)],[0,1,4,18,19]⟩)],[]⟩) cr Tryz.func117 (cast (by kernel_rfl) h)
def f118 (t:Option Addr) (ag an:Int) (w:World) (R:Int->World->Prop):Prop:=
 Nw (.cells #[.int .i64 ag,.int .i64 an] 33) w fun(e:Addr) w=>
 Dr w fun w=>
 NN t fun(t_:Addr)=>
 Ld .m w (t_.add 2) fun(rows:Option Nat)=>
 Ld (.i .i64) w e fun(ay:Int)=>Ld (.i .i64) w (e.add 1) fun(aP:Int)=>
 gB [.one (.i .i64),.one .b] Tryz.prog (Instr.lookup 88 (.map rows) (.agg #[.int .i64 ay,.int .i64 aP]) true) w fun(e2:Int) (ok:Bool) _=>
 if ok=true then (R e2 w) else (R (-1) w)
theorem N5 {t ag an w R} (h:f118 t ag an w R):DO t ag an w R:=
  ah (H:=⟨[],[]⟩) cr Tryz.func118 (cast (by kernel_rfl) h)
def f119 (t:Option Addr) (row:Int) (w:World) (R:Int->Int->Bool->Int->World->Prop):Prop:=
 Nw (.cells #[.int .i64 0,.int .i64 0] 33) w fun(a:Addr) w=>
 I3 t row w fun(r:Bool) w=>
 if (!r)=true then (St a (.int .i64 0) w fun w=>
 St (a.add 1) (.int .i64 0) w fun w=>
 Ld (.i .i64) w a fun(cT:Int)=>Ld (.i .i64) w (a.add 1) fun(fG:Int)=>
 R cT fG false 50 w) else (NN t fun(t_:Addr)=>
 Ld .sl w t_ fun(aw:Sl)=>
 Dr w fun w=>
 NN t fun(Qz:Addr)=>
 Ld .m w (Qz.add 2) fun(rows:Option Nat)=>
 NN t fun(XA:Addr)=>
 Ld .sl w XA fun(pH:Sl)=>
 Ix pH.a pH.len row 2 fun(a2:Addr)=>
 Ld (.i .i64) w a2 fun(jM:Int)=>Ld (.i .i64) w (a2.add 1) fun(rN:Int)=>
 cA .v Tryz.prog (Builtin.delete_ #[88,33] 0 #[.map rows,.agg #[.int .i64 jM,.int .i64 rN]]) w fun(n_:Value) w=>
 NN t fun(t_4:Addr)=>
 Ld .sl w t_4 fun(FE:Sl)=>
 Ix FE.a FE.len (i64.wrap ((aw.len:Int) - 1)) 2 fun(a3:Addr)=>
 Ld (.i .i64) w a3 fun(BH:Int)=>Ld (.i .i64) w (a3.add 1) fun(GX:Int)=>
 Nw (.cells #[.int .i64 0,.int .i64 0] 33) w fun(uM:Addr) w=>
 St uM (.int .i64 BH) w fun w=>
 St (uM.add 1) (.int .i64 GX) w fun w=>
 NN t fun(t_5:Addr)=>
 Ld .sl w (t_5.add 1) fun(cB:Sl)=>
 ∃aq:Int->Nat->World->Prop,(∃n:Nat,aq 0 n w) /\ ∀t45:Int,∀m:Nat,∀w:World,aq t45 m w->(if (decide (t45 < (cB.len:Int)))=true then (Ix cB.a cB.len t45 1 fun(a4:Addr)=>
 Ld .sl w a4 fun(l:Sl)=>
 Ix l.a l.len (i64.wrap ((aw.len:Int) - 1)) 1 fun(a5:Addr)=>
 Ld (.i .i64) w a5 fun(x:Int)=>
 Ix l.a l.len row 1 fun(a6:Addr)=>
 St a6 (.int .i64 x) w fun w=>
 Dr w fun w=>
 NN t fun(t_6:Addr)=>
 Ld .sl w (t_6.add 1) fun(ey:Sl)=>
 Cut ⟨l.a,l.len,l.cap⟩ 0 (i64.wrap ((aw.len:Int) - 1)) (l.cap:Int) 1 fun(s:Sl)=>
 Ix ey.a ey.len t45 1 fun(a7:Addr)=>
 St a7 (.slice s.a s.len s.cap) w fun w=>
 ∃m2:Nat,m2 < m /\ aq (i64.wrap (t45+1)) m2 w) else (Dr w fun w=>
 NN t fun(t_7:Addr)=>
 Ld .sl w t_7 fun(FF:Sl)=>
 Ld (.i .i64) w uM fun(Am:Int)=>Ld (.i .i64) w (uM.add 1) fun(Ed:Int)=>
 Ix FF.a FF.len row 2 fun(a8:Addr)=>
 St a8 (.int .i64 Am) w fun w=>
 St (a8.add 1) (.int .i64 Ed) w fun w=>
 NN t fun(t_8:Addr)=>
 Ld .sl w t_8 fun(vW:Sl)=>
 Cut ⟨vW.a,vW.len,vW.cap⟩ 0 (i64.wrap ((aw.len:Int) - 1)) (vW.cap:Int) 2 fun(s2:Sl)=>
 NN t fun(t_9:Addr)=>
 St t_9 (.slice s2.a s2.len s2.cap) w fun w=>
 if (row ==(i64.wrap ((aw.len:Int) - 1)))=true then (St a (.int .i64 0) w fun w=>
 St (a.add 1) (.int .i64 0) w fun w=>
 Ld (.i .i64) w a fun(ej:Int)=>Ld (.i .i64) w (a.add 1) fun(gV:Int)=>
 R ej gV false 0 w) else (Dr w fun w=>
 NN t fun(acT:Addr)=>
 Ld .m w (acT.add 2) fun(JQ:Option Nat)=>
 Ld (.i .i64) w uM fun(An:Int)=>Ld (.i .i64) w (uM.add 1) fun(Ee:Int)=>
 rm Tryz.prog (Instr.mapUpdate 88 (.map JQ) (.agg #[.int .i64 An,.int .i64 Ee]) (.int .i64 row)) w fun w=>
 Ld (.i .i64) w uM fun(Ao:Int)=>Ld (.i .i64) w (uM.add 1) fun(Ef:Int)=>
 St a (.int .i64 Ao) w fun w=>
 St (a.add 1) (.int .i64 Ef) w fun w=>
 Ld (.i .i64) w a fun(iq:Int)=>Ld (.i .i64) w (a.add 1) fun(na:Int)=>
 R iq na true 0 w))))
theorem N6 {t row w R} (h:f119 t row w R):Sd t row w R:=
  ah (H:=⟨[(7,⟨[(45,.i .i64)],[0,1,4,7,8,43,44]⟩)],[]⟩) cr Tryz.func119 (cast (by kernel_rfl) h)
def f120 (b:Sl) (aO:Int) (w:World) (R:Sl->Int->World->Prop):Prop:=
 Nw (.cells #[.slice b.a b.len b.cap,.bool false] 198) w fun(r:Addr) w=>
 DP (some r) w fun(n_:Int) w=>
 ∃J_:World->Prop,(Ld .b w (r.add 1) fun(bad:Bool)=>
 if bad=true then (R ⟨none,0,0⟩ 0 w) else (if (decide (aO < 0))=true then (R ⟨none,0,0⟩ 0 w) else (if (decide (n_ >(u64.wrap (if 100000 < aO then 100000 else aO))))=true then (R ⟨none,0,0⟩ 0 w) else (J_ w)))) /\ ∀w:World,J_ w->(if (n_ ==0)=true then (R ⟨none,0,0⟩ 1 w) else (Ld .sl w r fun(b2:Sl)=>
 if ((b2.len:Int) ==0)=true then (R ⟨none,0,0⟩ 0 w) else (Ld .sl w r fun(b3:Sl)=>
 Ix b3.a b3.len 0 1 fun(a:Addr)=>
 Ld (.i .u8) w a fun(form:Int)=>
 Ld .sl w r fun(b4:Sl)=>
 Cut ⟨b4.a,b4.len,b4.cap⟩ 1 (b4.len:Int) (b4.cap:Int) 1 fun(s:Sl)=>
 St r (.slice s.a s.len s.cap) w fun w=>
 Sw (some r) form n_ w fun(l:Sl) w=>
 Ld .sl w r fun(b5:Sl)=>
 Dr w fun w=>
 Ld .b w (r.add 1) fun(Uu:Bool)=>
 if Uu=true then (R ⟨none,0,0⟩ 0 w) else (if ((u64.wrap (l.len:Int)) !=n_)=true then (R ⟨none,0,0⟩ 0 w) else (Cut ⟨b.a,b.len,b.cap⟩ 0 (i64.wrap ((b.len:Int) - (b5.len:Int))) (b.cap:Int) 1 fun(s2:Sl)=>
 Ft w ⟨s2.a,s2.len,s2.cap⟩ fun(x:ByteArray)=>
 c99 l w fun(r2:Sl) w=>
 pe w ⟨s2.a,s2.len,s2.cap⟩ x /\ (Ft w ⟨r2.a,r2.len,r2.cap⟩ fun(x2:ByteArray)=>
 if (!(x2.toList ==x.toList))=true then (R ⟨none,0,0⟩ 0 w) else (R l (i64.wrap ((b.len:Int) - (b5.len:Int))) w)))))))
theorem N7 {b aO w R} (h:f120 b aO w R):Se b aO w R:=
  ah (H:=⟨[],[(5,⟨[],[0,6,7]⟩)]⟩) cr Tryz.func120 (cast (by kernel_rfl) h)
def f121 (p:Option Addr) (index:Int) (w:World) (R:Int->Int->Int->World->Prop):Prop:=
 Nw (.cells #[.int .i64 0,.int .i64 0] 33) w fun(a:Addr) w=>
 ∃J_:Bool->World->Prop,(if (decide (index < 0))=true then (J_ true w) else (NN p fun(p_:Addr)=>
 Ld .sl w (p_.add 1) fun(au:Sl)=>
 if (decide (index>=(au.len:Int)))=true then (J_ true w) else (NN p fun(nT:Addr)=>
 Ld .sl w (nT.add 2) fun(alive:Sl)=>
 Ix alive.a alive.len index 1 fun(a2:Addr)=>
 Ld .b w a2 fun(x:Bool)=>
 J_ (!x) w))) /\ ∀t26:Bool,∀w:World,J_ t26 w->(if t26=true then (St a (.int .i64 0) w fun w=>
 St (a.add 1) (.int .i64 0) w fun w=>
 Ld (.i .i64) w a fun(cT:Int)=>Ld (.i .i64) w (a.add 1) fun(fG:Int)=>
 R cT fG 41 w) else (NN p fun(nZ:Addr)=>
 Ld .sl w (nZ.add 1) fun(hH:Sl)=>
 Ix hH.a hH.len index 1 fun(a3:Addr)=>
 Ld (.i .i64) w a3 fun(x2:Int)=>
 St a (.int .i64 index) w fun w=>
 St (a.add 1) (.int .i64 x2) w fun w=>
 Ld (.i .i64) w a fun(ej:Int)=>Ld (.i .i64) w (a.add 1) fun(gV:Int)=>
 R ej gV 0 w))
theorem N8 {p index w R} (h:f121 p index w R):Nc p index w R:=
  ah (H:=⟨[],[(2,⟨[(26,.b)],[0,1,4]⟩)]⟩) cr Tryz.func121 (cast (by kernel_rfl) h)
def f122 (n_:Int) (w:World) (R:Int->World->Prop):Prop:=
 (0:Int)<=1 /\ (R (i64.wrap ((BitVec.ofInt 64 (i64.wrap (Int.fdiv n_ (2 ^ (min (Int.toNat 1) 64)))) ^^^ BitVec.ofInt 64 (i64.wrap (0 - (i64.wrap (u64.wrap ((BitVec.ofInt 64 n_ &&& BitVec.ofInt 64 1).toNat:Nat)))))).toNat:Nat)) w)
theorem N9 {n_ w R} (h:f122 n_ w R):I0 n_ w R:=
  ah (H:=⟨[],[]⟩) cr Tryz.func122 (cast (by kernel_rfl) h)
def f123 (l:Sl) (w:World) (R:Bool->World->Prop):Prop:=
 ∃aq:Int->Nat->World->Prop,(∃n:Nat,aq 0 n w) /\ ∀i:Int,∀m:Nat,∀w:World,aq i m w->(if (decide (i < (l.len:Int)))=true then (Ix l.a l.len i 1 fun(a:Addr)=>
 Ld .s w a fun(x:ByteArray)=>
 Sx x w fun(w_:Bool) w=>
 if (!w_)=true then (R false w) else (∃bc:Int->Nat->World->Prop,(∃n:Nat,bc 0 n w) /\ ∀k:Int,∀m3:Nat,∀w:World,bc k m3 w->(if (decide (k < i))=true then (Dr w fun w=>
 Ix l.a l.len k 1 fun(a2:Addr)=>
 Ld .s w a2 fun(x2:ByteArray)=>
 Ix l.a l.len i 1 fun(a3:Addr)=>
 Ld .s w a3 fun(x3:ByteArray)=>
 if (x2.toList ==x3.toList)=true then (R false w) else (∃m4:Nat,m4 < m3 /\ bc (i64.wrap (k+1)) m4 w)) else (∃m2:Nat,m2 < m /\ aq (i64.wrap (i+1)) m2 w)))) else (R true w))
theorem Oa {l w R} (h:f123 l w R):Nd l w R:=
  ah (H:=⟨[(2,⟨[(3,.i .i64)],[0]⟩),(8,⟨[(5,.i .i64)],[0,3]⟩)],[]⟩) cr Tryz.func123 (cast (by kernel_rfl) h)
def f129 (p:Option Addr) (ag an:Int) (w:World) (R:Bool->World->Prop):Prop:=
 Nw (.cells #[.int .i64 ag,.int .i64 an] 33) w fun(e:Addr) w=>
 Dr w fun w=>
 Ld (.i .i64) w e fun(Index:Int)=>
 if (decide (Index>=0))=true then (Ld (.i .i64) w e fun(qJ:Int)=>
 NN p fun(p_:Addr)=>
 Ld .sl w (p_.add 1) fun(BI:Sl)=>
 if (decide (qJ < (BI.len:Int)))=true then (NN p fun(nT:Addr)=>
 Ld .sl w (nT.add 2) fun(On:Sl)=>
 Ld (.i .i64) w e fun(Uv:Int)=>
 Ix On.a On.len Uv 1 fun(a:Addr)=>
 Ld .b w a fun(x:Bool)=>
 if x=true then (NN p fun(nZ:Addr)=>
 Ld .sl w (nZ.add 1) fun(uN:Sl)=>
 Ld (.i .i64) w e fun(Uw:Int)=>
 Ix uN.a uN.len Uw 1 fun(a2:Addr)=>
 Ld (.i .i64) w a2 fun(x2:Int)=>
 Ld (.i .i64) w (e.add 1) fun(Xx:Int)=>
 R (x2 ==Xx) w) else (R false w)) else (R false w)) else (R false w)
theorem Oc {p ag an w R} (h:f129 p ag an w R):Sf p ag an w R:=
  ah (H:=⟨[],[]⟩) cr Tryz.func129 (cast (by kernel_rfl) h)
def f130 (w_:Option Addr) (kind:Int) (w:World) (R:Int->World->Prop):Prop:=
 ∃J_:World->Prop,(if (decide (kind < 1))=true then (R (-1) w) else (NN w_ fun(gC:Addr)=>
 Ld .sl w gC fun(K:Sl)=>
 if (decide (kind >(K.len:Int)))=true then (R (-1) w) else (J_ w))) /\ ∀w:World,J_ w->(NN w_ fun(mZ:Addr)=>
 Ld .sl w mZ fun(K2:Sl)=>
 Ix K2.a K2.len (i64.wrap (kind - 1)) 2 fun(a:Addr)=>
 Ld .sl w (a.add 1) fun(cV:Sl)=>
 R (cV.len:Int) w)
theorem Od {w_ kind w R} (h:f130 w_ kind w R):Bz w_ kind w R:=
  ah (H:=⟨[],[(3,⟨[],[0,1]⟩)]⟩) cr Tryz.func130 (cast (by kernel_rfl) h)
def f131 (l:Sl) (kind:Int) (w:World) (R:Int->World->Prop):Prop:=
 ∃aq:Int->Nat->World->Prop,(∃n:Nat,aq 0 n w) /\ ∀i:Int,∀m:Nat,∀w:World,aq i m w->(if (decide (i < (l.len:Int)))=true then (Ix l.a l.len i 2 fun(a:Addr)=>
 Ld (.i .i64) w a fun(Kind:Int)=>
 if (Kind ==kind)=true then (R i w) else (∃m2:Nat,m2 < m /\ aq (i64.wrap (i+1)) m2 w)) else (R (-1) w))
theorem Oe {l kind w R} (h:f131 l kind w R):I1 l kind w R:=
  ah (H:=⟨[(2,⟨[(5,.i .i64)],[0,1]⟩)],[]⟩) cr Tryz.func131 (cast (by kernel_rfl) h)
def f132 (l:Sl) (cg:Int) (aC:Sl) (w:World) (R:Sl->World->Prop):Prop:=
 Nw (.cells #[.int .i64 cg,.slice aC.a aC.len aC.cap] 36) w fun(p:Addr) w=>
 ∃J_:Sl->Int->World->Prop,(∃aq:Sl->Int->Nat->World->Prop,(∃n:Nat,aq ⟨none,0,0⟩ 0 n w) /\ ∀out:Sl,∀i:Int,∀m:Nat,∀w:World,aq out i m w->(∃sL:World->Prop,(Dr w fun w=>
 if (decide (i < (l.len:Int)))=true then (Ix l.a l.len i 2 fun(a:Addr)=>
 Ld (.i .i64) w a fun(Kind:Int)=>
 Ld (.i .i64) w p fun(g9:Int)=>
 if (decide (Kind < g9))=true then (sL w) else (J_ out i w)) else (J_ out i w)) /\ ∀w:World,sL w->(Ix l.a l.len i 2 fun(a2:Addr)=>
 Ld (.i .i64) w a2 fun(mY:Int)=>Ld .sl w (a2.add 1) fun(fW:Sl)=>
 Nw (.cells #[.int .i64 mY,.slice fW.a fW.len fW.cap] 36) w fun(b:Addr) w=>
 cA .sl Tryz.prog (Builtin.append_ #[37,37] 37 #[.slice out.a out.len out.cap,.slice (some b) 1 1]) w fun(bR:Sl) w=>
 ∃m2:Nat,m2 < m /\ aq bR (i64.wrap (i+1)) m2 w))) /\ ∀fV:Sl,∀i2:Int,∀w:World,J_ fV i2 w->(Dr w fun w=>
 Ld (.i .i64) w p fun(nG:Int)=>
 Ld .sl w (p.add 1) fun(bU:Sl)=>
 W7 bU w fun(r:Sl) w=>
 w.cell? p=some (.int .i64 nG) /\ (Nw (.cells #[.int .i64 nG,.slice r.a r.len r.cap] 36) w fun(b2:Addr) w=>
 cA .sl Tryz.prog (Builtin.append_ #[37,37] 37 #[.slice fV.a fV.len fV.cap,.slice (some b2) 1 1]) w fun(qI:Sl) w=>
 Cut ⟨l.a,l.len,l.cap⟩ i2 (l.len:Int) (l.cap:Int) 2 fun(s:Sl)=>
 cA .sl Tryz.prog (Builtin.append_ #[37,37] 37 #[.slice qI.a qI.len qI.cap,.slice s.a s.len s.cap]) w fun(s2:Sl) w=>
 R s2 w))
theorem Of {l cg aC w R} (h:f132 l cg aC w R):Nf l cg aC w R:=
  ah (H:=⟨[(3,⟨[(5,.sl),(6,.i .i64)],[0,3]⟩)],[(4,⟨[],[0,3,5,6]⟩),(6,⟨[(5,.sl),(6,.i .i64)],[0,3]⟩)]⟩) cr Tryz.func132 (cast (by kernel_rfl) h)
def f133 (p:Option Addr) (w:World) (R:Int->Int->Int->World->Prop):Prop:=
 Nw (.cells #[.int .i64 0,.int .i64 0] 33) w fun(a:Addr) w=>
 NN p fun(p_:Addr)=>
 Ld .sl w (p_.add 3) fun(xi:Sl)=>
 if (decide ((xi.len:Int) > 0))=true then (NN p fun(nT:Addr)=>
 Ld .sl w (nT.add 3) fun(BJ:Sl)=>
 Ix BJ.a BJ.len 0 1 fun(a2:Addr)=>
 Ld (.i .i64) w a2 fun(i:Int)=>
 NN p fun(nZ:Addr)=>
 Ld .sl w (nZ.add 3) fun(BL:Sl)=>
 Cut ⟨BL.a,BL.len,BL.cap⟩ 1 (BL.len:Int) (BL.cap:Int) 1 fun(s:Sl)=>
 NN p fun(vN:Addr)=>
 St (vN.add 3) (.slice s.a s.len s.cap) w fun w=>
 NN p fun(GO:Addr)=>
 Ld .sl w (GO.add 1) fun(BI:Sl)=>
 Ix BI.a BI.len i 1 fun(a3:Addr)=>
 Ld (.i .i64) w a3 fun(x:Int)=>
 Ix BI.a BI.len i 1 fun(a4:Addr)=>
 St a4 (.int .i64 (i64.wrap (x+1))) w fun w=>
 NN p fun(Jl:Addr)=>
 Ld .sl w (Jl.add 2) fun(On:Sl)=>
 Ix On.a On.len i 1 fun(a5:Addr)=>
 St a5 (.bool true) w fun w=>
 NN p fun(Jm:Addr)=>
 Ld .sl w (Jm.add 1) fun(uN:Sl)=>
 Ix uN.a uN.len i 1 fun(a6:Addr)=>
 Ld (.i .i64) w a6 fun(x2:Int)=>
 St a (.int .i64 i) w fun w=>
 St (a.add 1) (.int .i64 x2) w fun w=>
 Ld (.i .i64) w a fun(cT:Int)=>Ld (.i .i64) w (a.add 1) fun(fG:Int)=>
 R cT fG 0 w) else (Dr w fun w=>
 NN p fun(Nx:Addr)=>
 Ld .sl w (Nx.add 1) fun(XC:Sl)=>
 NN p fun(SO:Addr)=>
 Ld (.i .i64) w SO fun(acU:Int)=>
 if (decide ((XC.len:Int)>=acU))=true then (St a (.int .i64 0) w fun w=>
 St (a.add 1) (.int .i64 0) w fun w=>
 Ld (.i .i64) w a fun(ej:Int)=>Ld (.i .i64) w (a.add 1) fun(gV:Int)=>
 R ej gV 40 w) else (NN p fun(DW:Addr)=>
 Ld .sl w (DW.add 1) fun(JR:Sl)=>
 Nw (.cells #[.int .i64 1] 3) w fun(b:Addr) w=>
 cA .sl Tryz.prog (Builtin.append_ #[49,49] 49 #[.slice JR.a JR.len JR.cap,.slice (some b) 1 1]) w fun(s2:Sl) w=>
 NN p fun(DX:Addr)=>
 St (DX.add 1) (.slice s2.a s2.len s2.cap) w fun w=>
 NN p fun(DY:Addr)=>
 Ld .sl w (DY.add 2) fun(On2:Sl)=>
 Nw (.cells #[.bool true] 4) w fun(b2:Addr) w=>
 cA .sl Tryz.prog (Builtin.append_ #[147,147] 147 #[.slice On2.a On2.len On2.cap,.slice (some b2) 1 1]) w fun(s3:Sl) w=>
 NN p fun(DZ:Addr)=>
 St (DZ.add 2) (.slice s3.a s3.len s3.cap) w fun w=>
 NN p fun(D0:Addr)=>
 Ld .sl w (D0.add 1) fun(XD:Sl)=>
 St a (.int .i64 (i64.wrap ((XD.len:Int) - 1))) w fun w=>
 St (a.add 1) (.int .i64 1) w fun w=>
 Ld (.i .i64) w a fun(iq:Int)=>Ld (.i .i64) w (a.add 1) fun(na:Int)=>
 R iq na 0 w))
theorem Og {p w R} (h:f133 p w R):Sg p w R:=
  ah (H:=⟨[],[]⟩) cr Tryz.func133 (cast (by kernel_rfl) h)
def f134 (w_:Option Addr) (cK ez:Int) (cm:Sl) (w:World) (R:World->Prop):Prop:=
 Nw (.cells #[.int .i64 cK,.int .i64 ez,.slice cm.a cm.len cm.cap] 75) w fun(r:Addr) w=>
 ∃J_:Sl->Int->World->Prop,(∃aq:Sl->Int->Nat->World->Prop,(∃n:Nat,aq ⟨none,0,0⟩ 0 n w) /\ ∀l:Sl,∀i:Int,∀m:Nat,∀w:World,aq l i m w->(∃sL:World->Prop,(Dr w fun w=>
 NN w_ fun(gC:Addr)=>
 Ld .sl w (gC.add 2) fun(L:Sl)=>
 if (decide (i < (L.len:Int)))=true then (NN w_ fun(mZ:Addr)=>
 Ld .sl w (mZ.add 2) fun(L2:Sl)=>
 Ix L2.a L2.len i 3 fun(a:Addr)=>
 Ld (.i .i64) w a fun(Index:Int)=>
 Ld (.i .i64) w r fun(qJ:Int)=>
 if (decide (Index < qJ))=true then (sL w) else (J_ l i w)) else (J_ l i w)) /\ ∀w:World,sL w->(NN w_ fun(D3:Addr)=>
 Ld .sl w (D3.add 2) fun(L3:Sl)=>
 Ix L3.a L3.len i 3 fun(a2:Addr)=>
 Ld (.i .i64) w a2 fun(lY:Int)=>Ld (.i .i64) w (a2.add 1) fun(rL:Int)=>Ld .sl w (a2.add 2) fun(jL:Sl)=>
 Nw (.cells #[.int .i64 lY,.int .i64 rL,.slice jL.a jL.len jL.cap] 75) w fun(b:Addr) w=>
 cA .sl Tryz.prog (Builtin.append_ #[71,71] 71 #[.slice l.a l.len l.cap,.slice (some b) 1 1]) w fun(l2:Sl) w=>
 ∃m2:Nat,m2 < m /\ aq l2 (i64.wrap (i+1)) m2 w))) /\ ∀l3:Sl,∀i2:Int,∀w:World,J_ l3 i2 w->(Ld (.i .i64) w r fun(fe:Int)=>Ld (.i .i64) w (r.add 1) fun(ir:Int)=>Ld .sl w (r.add 2) fun(eu:Sl)=>
 Nw (.cells #[.int .i64 fe,.int .i64 ir,.slice eu.a eu.len eu.cap] 75) w fun(b2:Addr) w=>
 cA .sl Tryz.prog (Builtin.append_ #[71,71] 71 #[.slice l3.a l3.len l3.cap,.slice (some b2) 1 1]) w fun(l4:Sl) w=>
 NN w_ fun(S0:Addr)=>
 Ld .sl w (S0.add 2) fun(L4:Sl)=>
 Cut ⟨L4.a,L4.len,L4.cap⟩ i2 (L4.len:Int) (L4.cap:Int) 3 fun(s:Sl)=>
 cA .sl Tryz.prog (Builtin.append_ #[71,71] 71 #[.slice l4.a l4.len l4.cap,.slice s.a s.len s.cap]) w fun(s2:Sl) w=>
 NN w_ fun(w_6:Addr)=>
 St (w_6.add 2) (.slice s2.a s2.len s2.cap) w fun w=>
 R w)
theorem Oh {w_ cK ez cm w R} (h:f134 w_ cK ez cm w R):Si w_ cK ez cm w R:=
  ah (H:=⟨[(3,⟨[(4,.sl),(5,.i .i64)],[0,3]⟩)],[(4,⟨[],[0,3,4,5]⟩),(6,⟨[(4,.sl),(5,.i .i64)],[0,3]⟩)]⟩) cr Tryz.func134 (cast (by kernel_rfl) h)
def f135 (t:Option Addr) (row column x:Int) (w:World) (R:Int->World->Prop):Prop:=
 SA t row column w fun(e:Int) w=>
 if (e ==0)=true then (NN t fun(t_:Addr)=>
 Ld .sl w (t_.add 1) fun(cB:Sl)=>
 Ix cB.a cB.len column 1 fun(a:Addr)=>
 Ld .sl w a fun(x2:Sl)=>
 Ix x2.a x2.len row 1 fun(a2:Addr)=>
 St a2 (.int .i64 x) w fun w=>
 R e w) else (R e w)
theorem Oi {t row column x w R} (h:f135 t row column x w R):Ng t row column x w R:=
  ah (H:=⟨[],[]⟩) cr Tryz.func135 (cast (by kernel_rfl) h)
def f136 (w_:Option Addr) (ag an:Int) (set kind:Int) (w:World) (R:Int->Sl->World->Prop):Prop:=
 Nw (.cells #[.int .i64 ag,.int .i64 an] 33) w fun(e:Addr) w=>
 Nw (.cells #[.int .i64 0,.slice none 0 0] 36) w fun(a:Addr) w=>
 NN w_ fun(gC:Addr)=>
 Ld .m w (gC.add 3) fun(tables:Option Nat)=>
 gB [.one .p] Tryz.prog (Instr.lookup 89 (.map tables) (.int .i64 set) false) w fun(t:Option Addr) _=>
 Ld (.i .i64) w e fun(ay:Int)=>Ld (.i .i64) w (e.add 1) fun(aP:Int)=>
 DO t ay aP w fun(r:Int) w=>
 IZ t r w fun(xh Ea:Int) (values:Sl) (x_:Int) w=>
 Nw (.cells #[.int .i64 0,.int .i64 0] 33) w fun(V6:Addr) w=>
 St V6 (.int .i64 xh) w fun w=>
 St (V6.add 1) (.int .i64 Ea) w fun w=>
 M6 w_ set kind w fun(at_:Int) w=>
 W4 w_ kind w fun(n_:Int) (x_3:Bool) w=>
 Cut ⟨values.a,values.len,values.cap⟩ at_ (i64.wrap (at_+n_)) (values.cap:Int) 1 fun(s:Sl)=>
 I2 s w fun(r2:Sl) w=>
 St a (.int .i64 kind) w fun w=>
 St (a.add 1) (.slice r2.a r2.len r2.cap) w fun w=>
 Ld (.i .i64) w a fun(ko:Int)=>Ld .sl w (a.add 1) fun(eR:Sl)=>
 R ko eR w
theorem Oj {w_ ag an set kind w R} (h:f136 w_ ag an set kind w R):Nh w_ ag an set kind w R:=
  ah (H:=⟨[],[]⟩) cr Tryz.func136 (cast (by kernel_rfl) h)
def f137 (a b:Sl) (w:World) (R:Bool->World->Prop):Prop:=
 if ((a.len:Int) !=(b.len:Int))=true then (R false w) else (∃aq:Int->Nat->World->Prop,(∃n:Nat,aq 0 n w) /\ ∀i:Int,∀m:Nat,∀w:World,aq i m w->(if (decide (i < (a.len:Int)))=true then (Dr w fun w=>
 Ix a.a a.len i 1 fun(a2:Addr)=>
 Ld (.i .i64) w a2 fun(x:Int)=>
 Ix b.a b.len i 1 fun(a3:Addr)=>
 Ld (.i .i64) w a3 fun(x2:Int)=>
 if (x !=x2)=true then (R false w) else (∃m2:Nat,m2 < m /\ aq (i64.wrap (i+1)) m2 w)) else (R true w)))
theorem Om {a b w R} (h:f137 a b w R):Sj a b w R:=
  ah (H:=⟨[(4,⟨[(5,.i .i64)],[0,1]⟩)],[]⟩) cr Tryz.func137 (cast (by kernel_rfl) h)
def f138 (s:Sl) (w:World) (R:Sl->World->Prop):Prop:=
 if s.a.isNone=true then (R ⟨none,0,0⟩ w) else (Nw (.cells #[] 4) w fun(b:Addr) w=>
 cA .sl Tryz.prog (Builtin.append_ #[147,147] 147 #[.slice (some b) 0 0,.slice s.a s.len s.cap]) w fun(s2:Sl) w=>
 R s2 w)
theorem Oo {s w R} (h:f138 s w R):Sk s w R:=
  ah (H:=⟨[],[]⟩) cr Tryz.func138 (cast (by kernel_rfl) h)
def f139 (s:Sl) (w:World) (R:Sl->World->Prop):Prop:=
 if s.a.isNone=true then (R ⟨none,0,0⟩ w) else (Nw (.cells #[] 33) w fun(b:Addr) w=>
 cA .sl Tryz.prog (Builtin.append_ #[43,43] 43 #[.slice (some b) 0 0,.slice s.a s.len s.cap]) w fun(s2:Sl) w=>
 R s2 w)
theorem Oq {s w R} (h:f139 s w R):Sm s w R:=
  ah (H:=⟨[],[]⟩) cr Tryz.func139 (cast (by kernel_rfl) h)
def f140 (m:Option Nat) (w:World) (R:Option Nat->World->Prop):Prop:=
 if m.isNone=true then (R none w) else (Bl Tryz.prog 160 [.iface 88 (.map m)] [.one .v] w fun(r:Value) w=>
 gB [.one .m] Tryz.prog (Instr.typeAssert (r) 20 88 false) w fun(x:Option Nat) _=>
 R x w)
theorem Ot {m w R} (h:f140 m w R):Sn m w R:=
  ah (H:=⟨[],[]⟩) cr Tryz.func140 (cast (by kernel_rfl) h)
def f141 (s:Sl) (w:World) (R:Sl->World->Prop):Prop:=
 if s.a.isNone=true then (R ⟨none,0,0⟩ w) else (Nw (.cells #[] 2) w fun(b:Addr) w=>
 cA .sl Tryz.prog (Builtin.append_ #[34,34] 34 #[.slice (some b) 0 0,.slice s.a s.len s.cap]) w fun(s2:Sl) w=>
 R s2 w)
theorem FG {s w R} (h:f141 s w R):I2 s w R:=
  ah (H:=⟨[],[]⟩) cr Tryz.func141 (cast (by kernel_rfl) h)
def f142 (form:Int) (t1 t2:Option Addr) (w:World) (R:Sl->World->Prop):Prop:=
 Dr w fun w=>
 NN t1 fun(a:Addr)=>
 Ld .sl w a fun(x:Sl)=>
 NN t2 fun(a2:Addr)=>
 Ld .sl w a2 fun(x2:Sl)=>
 vI [(.cells #[.int .u8 form] 5,none)] w fun(y:Option Addr) w=>
 c98 x w fun(r:Sl) w=>
 w.cell? a2=some (.slice x2.a x2.len x2.cap) /\ (vI [(.cells #[.int .u8 form] 5,y)] w fun(y2:Option Addr) w=>
 td y2 fun(a3:Addr)=>
 cA .sl Tryz.prog (Builtin.append_ #[23,23] 23 #[.slice r.a r.len r.cap,.slice (some a3) 1 1]) w fun(s:Sl) w=>
 w.cell? a2=some (.slice x2.a x2.len x2.cap) /\ (Sp form s x2 w fun(r2:Sl) w=>
 R r2 w))
theorem Ov {form t1 t2 w R} (h:f142 form t1 t2 w R):So form t1 t2 w R:=
  ah (H:=⟨[],[]⟩) cr Tryz.func142 (cast (by kernel_rfl) h)
def f143 (form:Int) (b l:Sl) (w:World) (R:Sl->World->Prop):Prop:=
 if (form ==0)=true then (∃aq:Sl->Int->Nat->World->Prop,(∃n:Nat,aq b 0 n w) /\ ∀b2:Sl,∀t42:Int,∀m:Nat,∀w:World,aq b2 t42 m w->(if (decide (t42 < (l.len:Int)))=true then (Ix l.a l.len t42 1 fun(a:Addr)=>
 Ld (.i .i64) w a fun(n_:Int)=>
 GH n_ w fun(r:Int) w=>
 Ai b2 r w fun(b3:Sl) w=>
 ∃m2:Nat,m2 < m /\ aq b3 (i64.wrap (t42+1)) m2 w) else (R b2 w))) else (if (form ==1)=true then (∃bc:Sl->Int->Int->Nat->World->Prop,(∃n:Nat,bc b 0 0 n w) /\ ∀b4:Sl,∀last:Int,∀t55:Int,∀m3:Nat,∀w:World,bc b4 last t55 m3 w->(if (decide (t55 < (l.len:Int)))=true then (Ix l.a l.len t55 1 fun(a2:Addr)=>
 Ld (.i .i64) w a2 fun(vQ:Int)=>
 GH (i64.wrap (vQ - last)) w fun(r2:Int) w=>
 Ai b4 r2 w fun(b5:Sl) w=>
 ∃m4:Nat,m4 < m3 /\ bc b5 vQ (i64.wrap (t55+1)) m4 w) else (R b4 w))) else (SB l w fun(all:Sl) w=>
 Ai b (u64.wrap (all.len:Int)) w fun(b6:Sl) w=>
 ∃eg:Sl->Int->Nat->World->Prop,(∃n:Nat,eg b6 0 n w) /\ ∀b7:Sl,∀t25:Int,∀m5:Nat,∀w:World,eg b7 t25 m5 w->(if (decide (t25 < (all.len:Int)))=true then (Ix all.a all.len t25 2 fun(a3:Addr)=>
 Ld (.i .u64) w a3 fun(Ux:Int)=>Ld (.i .i64) w (a3.add 1) fun(r_n:Int)=>
 Nw (.cells #[.int .u64 0,.int .i64 0] 207) w fun(r3:Addr) w=>
 St r3 (.int .u64 Ux) w fun w=>
 St (r3.add 1) (.int .i64 r_n) w fun w=>
 Dr w fun w=>
 Ld (.i .u64) w r3 fun(many:Int)=>
 Ld (.i .i64) w (r3.add 1) fun(n_3:Int)=>
 Ai b7 many w fun(r4:Sl) w=>
 w.cell? (r3.add 1)=some (.int .i64 n_3) /\ (GH n_3 w fun(r5:Int) w=>
 Ai r4 r5 w fun(b8:Sl) w=>
 ∃m6:Nat,m6 < m5 /\ eg b8 (i64.wrap (t25+1)) m6 w)) else (R b7 w))))
theorem Ow {form b l w R} (h:f143 form b l w R):Sp form b l w R:=
  ah (H:=⟨[(5,⟨[(1,.sl),(25,.i .i64)],[23,24]⟩),(11,⟨[(1,.sl),(42,.i .i64)],[40,41]⟩),(18,⟨[(1,.sl),(9,.i .i64),(55,.i .i64)],[53,54]⟩)],[]⟩) cr Tryz.func143 (cast (by kernel_rfl) h)
def f144 (p:Option Addr) (w:World) (R:Sl->Sl->World->Prop):Prop:=
 ∃aq:Sl->Int->Nat->World->Prop,(∃n:Nat,aq ⟨none,0,0⟩ 0 n w) /\ ∀au:Sl,∀i:Int,∀m:Nat,∀w:World,aq au i m w->(NN p fun(p_:Addr)=>
 Ld .sl w (p_.add 1) fun(BI:Sl)=>
 if (decide (i < (BI.len:Int)))=true then (NN p fun(nT:Addr)=>
 Ld .sl w (nT.add 1) fun(uN:Sl)=>
 Ix uN.a uN.len i 1 fun(a:Addr)=>
 Ld (.i .i64) w a fun(g:Int)=>
 Sz p i w fun(in_:Bool) w=>
 NN p fun(nZ:Addr)=>
 Ld .sl w (nZ.add 2) fun(On:Sl)=>
 Ix On.a On.len i 1 fun(a2:Addr)=>
 Ld .b w a2 fun(x:Bool)=>
 if (cond (!x) (!in_) false)=true then (Nw (.cells #[.int .i64 1000001] 3) w fun(b:Addr) w=>
 cA .sl Tryz.prog (Builtin.append_ #[49,49] 49 #[.slice au.a au.len au.cap,.slice (some b) 1 1]) w fun(hH:Sl) w=>
 ∃m2:Nat,m2 < m /\ aq hH (i64.wrap (i+1)) m2 w) else (Nw (.cells #[.int .i64 g] 3) w fun(b2:Addr) w=>
 cA .sl Tryz.prog (Builtin.append_ #[49,49] 49 #[.slice au.a au.len au.cap,.slice (some b2) 1 1]) w fun(JK:Sl) w=>
 ∃m2:Nat,m2 < m /\ aq JK (i64.wrap (i+1)) m2 w)) else (NN p fun(vN:Addr)=>
 Ld .sl w (vN.add 3) fun(xi:Sl)=>
 cA .sl Tryz.prog (Builtin.append_ #[49,49] 49 #[.slice none 0 0,.slice xi.a xi.len xi.cap]) w fun(s:Sl) w=>
 R au s w))
theorem Ox {p w R} (h:f144 p w R):Sq p w R:=
  ah (H:=⟨[(4,⟨[(4,.sl),(6,.i .i64)],[0,5]⟩)],[]⟩) cr Tryz.func144 (cast (by kernel_rfl) h)
def f145 (b l:Sl) (w:World) (R:Sl->World->Prop):Prop:=
 DM b (u64.wrap (l.len:Int)) w fun(out:Sl) w=>
 if ((l.len:Int) ==0)=true then (R out w) else (Sy l w fun(r:Sl) w=>
 cA .sl Tryz.prog (Builtin.append_ #[23,23] 23 #[.slice out.a out.len out.cap,.slice r.a r.len r.cap]) w fun(s:Sl) w=>
 R s w)
theorem Oy {b l w R} (h:f145 b l w R):Ni b l w R:=
  ah (H:=⟨[],[]⟩) cr Tryz.func145 (cast (by kernel_rfl) h)
def f146 (l:Sl) (w:World) (R:Sl->World->Prop):Prop:=
 ∃aq:Sl->Int->Nat->World->Prop,(∃n:Nat,aq ⟨none,0,0⟩ 0 n w) /\ ∀out:Sl,∀i:Int,∀m:Nat,∀w:World,aq out i m w->(if (decide (i < (l.len:Int)))=true then (Ix l.a l.len i 1 fun(a:Addr)=>
 Ld (.i .i64) w a fun(x:Int)=>
 Nw (.cells #[.int .i64 x] 2) w fun(b:Addr) w=>
 cA .sl Tryz.prog (Builtin.append_ #[34,34] 34 #[.slice out.a out.len out.cap,.slice (some b) 1 1]) w fun(bR:Sl) w=>
 ∃m2:Nat,m2 < m /\ aq bR (i64.wrap (i+1)) m2 w) else (R out w))
theorem Oz {l w R} (h:f146 l w R):Nj l w R:=
  ah (H:=⟨[(3,⟨[(3,.sl),(4,.i .i64)],[0]⟩)],[]⟩) cr Tryz.func146 (cast (by kernel_rfl) h)
def f147 (n_:Int) (w:World) (R:Int->World->Prop):Prop:=
 if (decide (n_ < 0))=true then (R (u64.wrap ((u64.wrap ((u64.wrap (i64.wrap (0 - (i64.wrap (n_+1)))))*2))+1)) w) else (R (u64.wrap ((u64.wrap n_)*2)) w)
theorem OA {n_ w R} (h:f147 n_ w R):Sr n_ w R:=
  ah (H:=⟨[],[]⟩) cr Tryz.func147 (cast (by kernel_rfl) h)
def f148 (s:ByteArray) (w:World) (R:Bool->World->Prop):Prop:=
 cA .sl Tryz.prog (convert 9 23 (.string s)) w fun(x:Sl) w=>
 ∃aq:Int->Nat->World->Prop,(∃n:Nat,aq 0 n w) /\ ∀t9:Int,∀m:Nat,∀w:World,aq t9 m w->(if (decide (t9 < (x.len:Int)))=true then (Ix x.a x.len t9 1 fun(a:Addr)=>
 Ld (.i .u8) w a fun(c:Int)=>
 if (cond (!(cond (cond (decide (c>=97)) (decide (c<=122)) false) true (cond (decide (c>=65)) (decide (c<=90)) false))) (cond (t9 ==0) true (cond (c !=95) (cond (decide (c < 48)) true (decide (c > 57))) false)) false)=true then (R false w) else (∃m2:Nat,m2 < m /\ aq (i64.wrap (t9+1)) m2 w)) else (R (cond (!(s.toList ==(⟨#[]⟩:ByteArray).toList)) (decide ((s.size:Int)<=16)) false) w))
theorem OB {s w R} (h:f148 s w R):Ss s w R:=
  ah (H:=⟨[(2,⟨[(9,.i .i64)],[0,7,8]⟩)],[]⟩) cr Tryz.func148 (cast (by kernel_rfl) h)
def f149 (s:Sl) (v:ByteArray) (w:World) (R:Bool->World->Prop):Prop:=
 Xc s v w fun(r:Int) w=>
 R (decide (r>=0)) w
theorem OC {s v w R} (h:f149 s v w R):Su s v w R:=
  ah (H:=⟨[],[]⟩) cr Tryz.func149 (cast (by kernel_rfl) h)
def f151 (cB:Int) (w:World) (R:Option Addr->Int->World->Prop):Prop:=
 if (cond (decide (cB < 0)) true (decide (cB > 48)))=true then (R none 1 w) else (Mk [.slice none 0 0] 34 24 cB cB w fun(s:Sl) w=>
 Nw (.map #[] 0) w fun(m:Addr) w=>
 Nw (.cells #[.slice none 0 0,.slice s.a s.len s.cap,.map (some m.block)] 186) w fun(a:Addr) w=>
 R (some a) 0 w)
theorem OD {cB w R} (h:f151 cB w R):Sv cB w R:=
  ah (H:=⟨[],[]⟩) cr Tryz.func151 (cast (by kernel_rfl) h)
def f152 (t:Option Addr) (row:Int) (w:World) (R:Bool->World->Prop):Prop:=
 if (decide (row>=0))=true then (NN t fun(t_:Addr)=>
 Ld .sl w t_ fun(aw:Sl)=>
 R (decide (row < (aw.len:Int))) w) else (R false w)
theorem OE {t row w R} (h:f152 t row w R):I3 t row w R:=
  ah (H:=⟨[],[]⟩) cr Tryz.func152 (cast (by kernel_rfl) h)
def f153 (r:Option Addr) (w:World) (R:Int->World->Prop):Prop:=
 NN r fun(r_:Addr)=>
 Ld .sl w r_ fun(b:Sl)=>
 W6 b w fun(n_ size:Int) w=>
 NN r fun(XE:Addr)=>
 Ld .b w (XE.add 1) fun(bad:Bool)=>
 NN r fun(r_3:Addr)=>
 St (r_3.add 1) (.bool (cond bad true (size ==0))) w fun w=>
 NN r fun(r_4:Addr)=>
 Ld .sl w r_4 fun(b2:Sl)=>
 Cut ⟨b2.a,b2.len,b2.cap⟩ size (b2.len:Int) (b2.cap:Int) 1 fun(s:Sl)=>
 NN r fun(r_5:Addr)=>
 St r_5 (.slice s.a s.len s.cap) w fun w=>
 R n_ w
theorem OF {r w R} (h:f153 r w R):DP r w R:=
  ah (H:=⟨[],[]⟩) cr Tryz.func153 (cast (by kernel_rfl) h)
def f154 (r:Option Addr) (form n_:Int) (w:World) (R:Sl->World->Prop):Prop:=
 ∃J_:Sl->World->Prop,(∃aq:Sl->Int->Nat->World->Prop,(∃n:Nat,aq ⟨none,0,0⟩ 0 n w) /\ ∀out:Sl,∀last:Int,∀m:Nat,∀w:World,aq out last m w->(∃sL:World->Prop,(if (decide ((u64.wrap (out.len:Int)) < n_))=true then (NN r fun(r_:Addr)=>
 Ld .b w (r_.add 1) fun(bad:Bool)=>
 if (!bad)=true then (if (decide (form < 2))=true then (sL w) else (J_ out w)) else (J_ out w)) else (J_ out w)) /\ ∀w:World,sL w->(DP r w fun(r2:Int) w=>
 I0 r2 w fun(x:Int) w=>
 if (form ==1)=true then (Nw (.cells #[.int .i64 (i64.wrap (x+last))] 2) w fun(b:Addr) w=>
 cA .sl Tryz.prog (Builtin.append_ #[34,34] 34 #[.slice out.a out.len out.cap,.slice (some b) 1 1]) w fun(bR:Sl) w=>
 ∃m2:Nat,m2 < m /\ aq bR (i64.wrap (x+last)) m2 w) else (Nw (.cells #[.int .i64 x] 2) w fun(b2:Addr) w=>
 cA .sl Tryz.prog (Builtin.append_ #[34,34] 34 #[.slice out.a out.len out.cap,.slice (some b2) 1 1]) w fun(fV:Sl) w=>
 ∃m2:Nat,m2 < m /\ aq fV x m2 w)))) /\ ∀qI:Sl,∀w:World,J_ qI w->(if (form !=2)=true then (NN r fun(XE:Addr)=>
 Ld .b w (XE.add 1) fun(Uu:Bool)=>
 NN r fun(r_3:Addr)=>
 St (r_3.add 1) (.bool (cond Uu true (decide (form > 2)))) w fun w=>
 R qI w) else (DP r w fun(k:Int) w=>
 ∃bc:Sl->Int->Nat->World->Prop,(∃n:Nat,bc qI k n w) /\ ∀tC:Sl,∀k2:Int,∀m3:Nat,∀w:World,bc tC k2 m3 w->(∃Nk:World->Prop,(if (decide (k2 > 0))=true then (NN r fun(r_4:Addr)=>
 Ld .b w (r_4.add 1) fun(acZ:Bool)=>
 if (!acZ)=true then (Nk w) else (R tC w)) else (R tC w)) /\ ∀w:World,Nk w->(DP r w fun(many:Int) w=>
 DP r w fun(r3:Int) w=>
 I0 r3 w fun(x2:Int) w=>
 NN r fun(r_5:Addr)=>
 Ld .b w (r_5.add 1) fun(ac0:Bool)=>
 NN r fun(r_6:Addr)=>
 St (r_6.add 1) (.bool (cond ac0 true (decide (many >(u64.wrap (n_ - (u64.wrap (tC.len:Int)))))))) w fun w=>
 ∃eg:Sl->Int->Nat->World->Prop,(∃n:Nat,eg tC many n w) /\ ∀xj:Sl,∀iu:Int,∀m5:Nat,∀w:World,eg xj iu m5 w->(∃J_4:World->Prop,(if (decide (iu > 0))=true then (NN r fun(r_7:Addr)=>
 Ld .b w (r_7.add 1) fun(ac1:Bool)=>
 if (!ac1)=true then (J_4 w) else (∃m4:Nat,m4 < m3 /\ bc xj (u64.wrap (k2 - 1)) m4 w)) else (∃m4:Nat,m4 < m3 /\ bc xj (u64.wrap (k2 - 1)) m4 w)) /\ ∀w:World,J_4 w->(Nw (.cells #[.int .i64 x2] 2) w fun(b3:Addr) w=>
 cA .sl Tryz.prog (Builtin.append_ #[34,34] 34 #[.slice xj.a xj.len xj.cap,.slice (some b3) 1 1]) w fun(ac2:Sl) w=>
 ∃m6:Nat,m6 < m5 /\ eg ac2 (u64.wrap (iu - 1)) m6 w))))))
theorem OG {r form n_ w R} (h:f154 r form n_ w R):Sw r form n_ w R:=
  ah (H:=⟨[(3,⟨[(7,.sl),(8,.i .i64)],[0,1,2]⟩),(13,⟨[(7,.sl),(10,.i .u64)],[0,2]⟩),(18,⟨[(7,.sl),(11,.i .u64)],[0,2,10,12]⟩)],[(4,⟨[],[0,1,2,7,8]⟩),(9,⟨[(7,.sl)],[0,1,2]⟩),(15,⟨[],[0,2,7,10]⟩),(20,⟨[],[0,2,7,10,11,12]⟩)]⟩) cr Tryz.func154 (cast (by kernel_rfl) h)
def f155 (s:ByteArray) (w:World) (R:Bool->World->Prop):Prop:=
 ∃aq:Int->Nat->World->Prop,(∃n:Nat,aq 0 n w) /\ ∀i:Int,∀m:Nat,∀w:World,aq i m w->(if (decide (i < (s.size:Int)))=true then (IxS s i fun(c:Int)=>
 if (cond (!(cond (cond (decide (c>=97)) (decide (c<=122)) false) true (cond (decide (c>=65)) (decide (c<=90)) false))) (cond (i ==0) true (!(cond (cond (decide (c>=48)) (decide (c<=57)) false) true (c ==95)))) false)=true then (R false w) else (∃m2:Nat,m2 < m /\ aq (i64.wrap (i+1)) m2 w)) else (R (cond (decide ((s.size:Int)>=1)) (decide ((s.size:Int)<=16)) false) w))
theorem OH {s w R} (h:f155 s w R):Sx s w R:=
  ah (H:=⟨[(2,⟨[(3,.i .i64)],[0]⟩)],[]⟩) cr Tryz.func155 (cast (by kernel_rfl) h)
def f157 (l:Sl) (w:World) (R:Sl->World->Prop):Prop:=
 SC l w fun(f_0 f_1 f_2:Sl) w=>
 Nw (.cells #[.slice none 0 0,.slice none 0 0,.slice none 0 0] 209) w fun(f:Addr) w=>
 St f (.slice f_0.a f_0.len f_0.cap) w fun w=>
 St (f.add 1) (.slice f_1.a f_1.len f_1.cap) w fun w=>
 St (f.add 2) (.slice f_2.a f_2.len f_2.cap) w fun w=>
 Wu f 3 0 1 fun(a:Addr)=>
 Ld .sl w a fun(kp:Sl)=>
 ∃aq:Sl->Int->Nat->World->Prop,(∃n:Nat,aq kp 1 n w) /\ ∀FH:Sl,∀i:Int,∀m:Nat,∀w:World,aq FH i m w->(if (decide (i < 3))=true then (Wu f 3 i 1 fun(a2:Addr)=>
 Ld .sl w a2 fun(x:Sl)=>
 if (decide ((x.len:Int) < (FH.len:Int)))=true then (Wu f 3 i 1 fun(a3:Addr)=>
 Ld .sl w a3 fun(XF:Sl)=>
 ∃m2:Nat,m2 < m /\ aq XF (i64.wrap (i+1)) m2 w) else (∃m2:Nat,m2 < m /\ aq FH (i64.wrap (i+1)) m2 w)) else (R FH w))
theorem OI {l w R} (h:f157 l w R):Sy l w R:=
  ah (H:=⟨[(4,⟨[(4,.sl),(5,.i .i64)],[3]⟩)],[]⟩) cr Tryz.func157 (cast (by kernel_rfl) h)
def f158 (p:Option Addr) (i:Int) (w:World) (R:Bool->World->Prop):Prop:=
 ∃aq:Int->Nat->World->Prop,(∃n:Nat,aq 0 n w) /\ ∀k:Int,∀m:Nat,∀w:World,aq k m w->(NN p fun(p_:Addr)=>
 Ld .sl w (p_.add 3) fun(xi:Sl)=>
 if (decide (k < (xi.len:Int)))=true then (NN p fun(nT:Addr)=>
 Ld .sl w (nT.add 3) fun(BJ:Sl)=>
 Ix BJ.a BJ.len k 1 fun(a:Addr)=>
 Ld (.i .i64) w a fun(x:Int)=>
 if (x ==i)=true then (R true w) else (∃m2:Nat,m2 < m /\ aq (i64.wrap (k+1)) m2 w)) else (R false w))
theorem OJ {p i w R} (h:f158 p i w R):Sz p i w R:=
  ah (H:=⟨[(2,⟨[(5,.i .i64)],[0,1]⟩)],[]⟩) cr Tryz.func158 (cast (by kernel_rfl) h)
def f159 (t:Option Addr) (row column:Int) (w:World) (R:Int->World->Prop):Prop:=
 I3 t row w fun(r:Bool) w=>
 if (!r)=true then (R 50 w) else (if (decide (column < 0))=true then (R 63 w) else (NN t fun(t_:Addr)=>
 Ld .sl w (t_.add 1) fun(cB:Sl)=>
 if (decide (column>=(cB.len:Int)))=true then (R 63 w) else (R 0 w)))
theorem OK {t row column w R} (h:f159 t row column w R):SA t row column w R:=
  ah (H:=⟨[],[]⟩) cr Tryz.func159 (cast (by kernel_rfl) h)
def f161 (l:Sl) (w:World) (R:Sl->World->Prop):Prop:=
 ∃aq:Sl->Int->Nat->World->Prop,(∃n:Nat,aq ⟨none,0,0⟩ 0 n w) /\ ∀out:Sl,∀t9:Int,∀m:Nat,∀w:World,aq out t9 m w->(if (decide (t9 < (l.len:Int)))=true then (Ix l.a l.len t9 1 fun(a:Addr)=>
 Ld (.i .i64) w a fun(n_:Int)=>
 ∃J_:Bool->World->Prop,(if (decide ((i64.wrap ((out.len:Int) - 1))>=0))=true then (Ix out.a out.len (i64.wrap ((out.len:Int) - 1)) 2 fun(a2:Addr)=>
 Ld (.i .i64) w (a2.add 1) fun(vQ:Int)=>
 J_ (vQ ==n_) w) else (J_ false w)) /\ ∀t26:Bool,∀w:World,J_ t26 w->(if t26=true then (Ix out.a out.len (i64.wrap ((out.len:Int) - 1)) 2 fun(a3:Addr)=>
 Ld (.i .u64) w a3 fun(many:Int)=>
 Ix out.a out.len (i64.wrap ((out.len:Int) - 1)) 2 fun(a4:Addr)=>
 St a4 (.int .u64 (u64.wrap (many+1))) w fun w=>
 ∃m2:Nat,m2 < m /\ aq out (i64.wrap (t9+1)) m2 w) else (Nw (.cells #[.int .u64 1,.int .i64 n_] 207) w fun(b:Addr) w=>
 cA .sl Tryz.prog (Builtin.append_ #[204,204] 204 #[.slice out.a out.len out.cap,.slice (some b) 1 1]) w fun(bR:Sl) w=>
 ∃m2:Nat,m2 < m /\ aq bR (i64.wrap (t9+1)) m2 w))) else (R out w))
theorem OM {l w R} (h:f161 l w R):SB l w R:=
  ah (H:=⟨[(3,⟨[(3,.sl),(9,.i .i64)],[7,8]⟩)],[(7,⟨[(26,.b)],[3,5,6,7,8,9]⟩)]⟩) cr Tryz.func161 (cast (by kernel_rfl) h)
def f162 (s:Sl) (v:ByteArray) (w:World) (R:Int->World->Prop):Prop:=
 ∃aq:Int->Nat->World->Prop,(∃n:Nat,aq 0 n w) /\ ∀t8:Int,∀m:Nat,∀w:World,aq t8 m w->(if (decide (t8 < (s.len:Int)))=true then (Ix s.a s.len t8 1 fun(a:Addr)=>
 Ld .s w a fun(x:ByteArray)=>
 if (v.toList ==x.toList)=true then (R t8 w) else (∃m2:Nat,m2 < m /\ aq (i64.wrap (t8+1)) m2 w)) else (R (-1) w))
theorem ON {s v w R} (h:f162 s v w R):Xc s v w R:=
  ah (H:=⟨[(2,⟨[(8,.i .i64)],[0,1,7]⟩)],[]⟩) cr Tryz.func162 (cast (by kernel_rfl) h)
def f164 (l:Sl) (w:World) (R:Sl->Sl->Sl->World->Prop):Prop:=
 Nw (.cells #[.slice none 0 0,.slice none 0 0,.slice none 0 0] 209) w fun(a:Addr) w=>
 Nw (.cells #[.int .u8 0] 5) w fun(b:Addr) w=>
 Nw (.cells #[.int .u8 1] 5) w fun(b2:Addr) w=>
 Nw (.cells #[.int .u8 2] 5) w fun(b3:Addr) w=>
 ∃aq:Sl->Sl->Sl->Int->Int->Int->Nat->World->Prop,(∃n:Nat,aq ⟨some b,1,1⟩ ⟨some b2,1,1⟩ ⟨none,0,0⟩ 0 0 0 n w) /\ ∀plain:Sl,∀steps:Sl,∀each:Sl,∀many:Int,∀last:Int,∀i:Int,∀m:Nat,∀w:World,aq plain steps each many last i m w->(if (decide (i < (l.len:Int)))=true then (Ix l.a l.len i 1 fun(a2:Addr)=>
 Ld (.i .i64) w a2 fun(x:Int)=>
 GJ plain x w fun(tD:Sl) w=>
 Ix l.a l.len i 1 fun(a3:Addr)=>
 Ld (.i .i64) w a3 fun(x2:Int)=>
 GJ steps (i64.wrap (x2 - last)) w fun(tG:Sl) w=>
 Ix l.a l.len i 1 fun(a4:Addr)=>
 Ld (.i .i64) w a4 fun(zi:Int)=>
 ∃J_:Bool->World->Prop,(Dr w fun w=>
 if (i ==0)=true then (J_ true w) else (Ix l.a l.len (i64.wrap (i - 1)) 1 fun(a5:Addr)=>
 Ld (.i .i64) w a5 fun(x3:Int)=>
 Ix l.a l.len i 1 fun(a6:Addr)=>
 Ld (.i .i64) w a6 fun(x4:Int)=>
 J_ (x3 !=x4) w)) /\ ∀t51:Bool,∀w:World,J_ t51 w->(if t51=true then (∃sL:Int->World->Prop,(∃bc:Int->Nat->World->Prop,(∃n:Nat,bc 1 n w) /\ ∀n_:Int,∀m3:Nat,∀w:World,bc n_ m3 w->(Dr w fun w=>
 if (decide ((i64.wrap (i+n_)) < (l.len:Int)))=true then (Ix l.a l.len (i64.wrap (i+n_)) 1 fun(a7:Addr)=>
 Ld (.i .i64) w a7 fun(x5:Int)=>
 Ix l.a l.len i 1 fun(a8:Addr)=>
 Ld (.i .i64) w a8 fun(x6:Int)=>
 if (x5 ==x6)=true then (∃m4:Nat,m4 < m3 /\ bc (i64.wrap (n_+1)) m4 w) else (sL n_ w)) else (sL n_ w))) /\ ∀vQ:Int,∀w:World,sL vQ w->(DM each (u64.wrap vQ) w fun(QA:Sl) w=>
 Ix l.a l.len i 1 fun(a9:Addr)=>
 Ld (.i .i64) w a9 fun(x7:Int)=>
 GJ QA x7 w fun(QB:Sl) w=>
 ∃m2:Nat,m2 < m /\ aq tD tG QB (i64.wrap (many+1)) zi (i64.wrap (i+1)) m2 w)) else (∃m2:Nat,m2 < m /\ aq tD tG each many zi (i64.wrap (i+1)) m2 w))) else (DM ⟨some b3,1,1⟩ (u64.wrap many) w fun(r:Sl) w=>
 cA .sl Tryz.prog (Builtin.append_ #[23,23] 23 #[.slice r.a r.len r.cap,.slice each.a each.len each.cap]) w fun(runs:Sl) w=>
 St a (.slice plain.a plain.len plain.cap) w fun w=>
 St (a.add 1) (.slice steps.a steps.len steps.cap) w fun w=>
 St (a.add 2) (.slice runs.a runs.len runs.cap) w fun w=>
 Ld .sl w a fun(r_0:Sl)=>Ld .sl w (a.add 1) fun(r_1:Sl)=>Ld .sl w (a.add 2) fun(XE:Sl)=>
 R r_0 r_1 XE w))
theorem OO {l w R} (h:f164 l w R):SC l w R:=
  ah (H:=⟨[(8,⟨[(3,.sl),(4,.sl),(6,.sl),(7,.i .i64),(8,.i .i64),(9,.i .i64)],[0,2,5]⟩),(15,⟨[(10,.i .i64)],[0,2,3,4,5,6,7,8,9]⟩)],[(14,⟨[(51,.b)],[0,2,3,4,5,6,7,8,9]⟩),(17,⟨[(10,.i .i64)],[0,2,3,4,5,6,7,8,9]⟩)]⟩) cr Tryz.func164 (cast (by kernel_rfl) h)
end Go.Proofs.YtcccjgmekakabaaGreat.F
end
