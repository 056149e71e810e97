/-
  Part 3 of the proof:WorldLoads of layer 6 is true of the given program for every input that its guards let in (of bulk at most 1048576).
-/
import Derived.Test.YtcccjgmekakabaaGreatPkB
import Derived.Test.YtcccjgmekakabaaGreatProg
set_option linter.unusedSimpArgs false
set_option linter.unusedVariables false
set_option maxRecDepth 100000
section
namespace Go.Proofs.YtcccjgmekakabaaGreat.F
open Go Go.Den Go.Proofs
theorem ct:yT Tryz.prog:=⟨by kernel_rfl,by kernel_rfl⟩
def c2 (w:World) (R:World->Prop):Prop:=
 av Tryz.prog 2 [] [] w R
def c3 (kinds b:Sl) (at_ A4:Int) (w:World) (R:Bool->World->Prop):Prop:=
 av Tryz.prog 3 [.slice kinds.a kinds.len kinds.cap,.slice b.a b.len b.cap,.int .i64 at_,.int .i64 A4] [.one .b] w R
def c4 (one two lK:Sl) (w:World) (R:Bool->World->Prop):Prop:=
 av Tryz.prog 4 [.slice one.a one.len one.cap,.slice two.a two.len two.cap,.slice lK.a lK.len lK.cap] [.one .b] w R
def c5 (w:World) (R:Bool->World->Prop):Prop:=
 av Tryz.prog 5 [] [.one .b] w R
def c6 (kinds l:Sl) (b:ByteArray) (w:World) (R:Bool->World->Prop):Prop:=
 av Tryz.prog 6 [.slice kinds.a kinds.len kinds.cap,.slice l.a l.len l.cap,.string b] [.one .b] w R
def c7 (c n_:Int) (w:World) (R:Int->World->Prop):Prop:=
 av Tryz.prog 7 [.int .i64 c,.int .i64 n_] [.one (.i .i64)] w R
def c8 (kinds:Sl) (w:World) (R:Option Addr->Bool->World->Prop):Prop:=
 av Tryz.prog 8 [.slice kinds.a kinds.len kinds.cap] [.one .p,.one .b] w R
def c9 (p:Option Addr) (Nq o_H:Int) (WB o_N:Int) (DV Jt FZ:Int) (oO yh:Sl) (w:World) (R:Bool->World->Prop):Prop:=
 av Tryz.prog 9 [.pointer p,.agg #[.int .i64 Nq,.int .i64 o_H,.int .i64 WB,.int .i64 o_N,.int .i64 DV,.int .i64 Jt,.int .i64 FZ,.slice oO.a oO.len oO.cap,.slice yh.a yh.len yh.cap]] [.one .b] w R
def c10 (b:Option Addr) (w:World) (R:Bool->World->Prop):Prop:=
 av Tryz.prog 10 [.pointer b] [.one .b] w R
def LZ (w_:Option Addr) (w:World) (R:Sl->World->Prop):Prop:=
 av Tryz.prog 11 [.pointer w_] [.one .sl] w R
def Sj (p:Option Addr) (w:World) (R:Bool->World->Prop):Prop:=
 av Tryz.prog 12 [.pointer p] [.one .b] w R
def Nr (kinds:Sl) (w:World) (R:Option Addr->Int->World->Prop):Prop:=
 av Tryz.prog 13 [.slice kinds.a kinds.len kinds.cap] [.one .p,.one (.i .i64)] w R
def WC (w:World) (R:Sl->World->Prop):Prop:=
 av Tryz.prog 14 [] [.one .sl] w R
def Ri (w_:Option Addr) (parts:Sl) (w:World) (R:Int->Int->Int->World->Prop):Prop:=
 av Tryz.prog 15 [.pointer w_,.slice parts.a parts.len parts.cap] [.agg [.i .i64,.i .i64],.one (.i .i64)] w R
def U2 (w_:Option Addr) (al aC eG:Int) (bf:Sl) (w:World) (R:Int->World->Prop):Prop:=
 av Tryz.prog 16 [.pointer w_,.agg #[.int .i64 al,.int .i64 aC],.agg #[.int .i64 eG,.slice bf.a bf.len bf.cap]] [.one (.i .i64)] w R
def U3 (w_:Option Addr) (al aC:Int) (w:World) (R:Int->World->Prop):Prop:=
 av Tryz.prog 17 [.pointer w_,.agg #[.int .i64 al,.int .i64 aC]] [.one (.i .i64)] w R
def WD (l:Sl) (w:World) (R:Sl->World->Prop):Prop:=
 av Tryz.prog 18 [.slice l.a l.len l.cap] [.one .sl] w R
def WE (kinds b:Sl) (w:World) (R:Option Addr->Int->World->Prop):Prop:=
 av Tryz.prog 19 [.slice kinds.a kinds.len kinds.cap,.slice b.a b.len b.cap] [.one .p,.one (.i .i64)] w R
def WG (l dG:Sl) (w:World) (R:Bool->World->Prop):Prop:=
 av Tryz.prog 20 [.slice l.a l.len l.cap,.slice dG.a dG.len dG.cap] [.one .b] w R
def WI (kinds b:Sl) (w:World) (R:Option Addr->Int->World->Prop):Prop:=
 av Tryz.prog 21 [.slice kinds.a kinds.len kinds.cap,.slice b.a b.len b.cap] [.one .p,.one (.i .i64)] w R
def WJ (w_:Option Addr) (al aC:Int) (w:World) (R:Int->World->Prop):Prop:=
 av Tryz.prog 22 [.pointer w_,.agg #[.int .i64 al,.int .i64 aC]] [.one (.i .i64)] w R
def WK (p:Option Addr) (l dG:Sl) (w:World) (R:Bool->World->Prop):Prop:=
 av Tryz.prog 23 [.pointer p,.slice l.a l.len l.cap,.slice dG.a dG.len dG.cap] [.one .b] w R
def WL (l:Sl) (w:World) (R:Sl->World->Prop):Prop:=
 av Tryz.prog 24 [.slice l.a l.len l.cap] [.one .sl] w R
def WN (l:Sl) (w:World) (R:Sl->World->Prop):Prop:=
 av Tryz.prog 27 [.slice l.a l.len l.cap] [.one .sl] w R
def U4 (p:Option Addr) (w:World) (R:Sl->Sl->World->Prop):Prop:=
 av Tryz.prog 36 [.pointer p] [.one .sl,.one .sl] w R
def U5 (b l:Sl) (w:World) (R:Sl->World->Prop):Prop:=
 av Tryz.prog 37 [.slice b.a b.len b.cap,.slice l.a l.len l.cap] [.one .sl] w R
def U6 (l:Sl) (w:World) (R:Sl->World->Prop):Prop:=
 av Tryz.prog 38 [.slice l.a l.len l.cap] [.one .sl] w R
def Rj (w_:Option Addr) (w:World) (R:Sl->World->Prop):Prop:=
 av Tryz.prog 39 [.pointer w_] [.one .sl] w R
def U7 (b:Sl) (n_:Int) (w:World) (R:Sl->World->Prop):Prop:=
 av Tryz.prog 40 [.slice b.a b.len b.cap,.int .u64 n_] [.one .sl] w R
def WO (b:Sl) (n_:Int) (w:World) (R:Sl->World->Prop):Prop:=
 av Tryz.prog 41 [.slice b.a b.len b.cap,.int .i64 n_] [.one .sl] w R
def WQ (w_:Option Addr) (w:World) (R:Sl->World->Prop):Prop:=
 av Tryz.prog 42 [.pointer w_] [.one .sl] w R
def U8 (w_:Option Addr) (w:World) (R:Option Nat->World->Prop):Prop:=
 av Tryz.prog 43 [.pointer w_] [.one .m] w R
def WR (w_:Option Addr) (w:World) (R:Sl->World->Prop):Prop:=
 av Tryz.prog 44 [.pointer w_] [.one .sl] w R
def U9 (w_:Option Addr) (w:World) (R:Sl->World->Prop):Prop:=
 av Tryz.prog 45 [.pointer w_] [.one .sl] w R
def WS (w_:Option Addr) (w:World) (R:Sl->World->Prop):Prop:=
 av Tryz.prog 46 [.pointer w_] [.one .sl] w R
def Sk (a b:Sl) (w:World) (R:Bool->World->Prop):Prop:=
 av Tryz.prog 47 [.slice a.a a.len a.cap,.slice b.a b.len b.cap] [.one .b] w R
def Va (a:Option Nat) (b:Sl) (w:World) (R:Bool->World->Prop):Prop:=
 av Tryz.prog 48 [.map a,.slice b.a b.len b.cap] [.one .b] w R
def Rk (a b:Sl) (w:World) (R:Bool->World->Prop):Prop:=
 av Tryz.prog 49 [.slice a.a a.len a.cap,.slice b.a b.len b.cap] [.one .b] w R
def Vb (b:Option Addr) (l:Sl) (w:World) (R:World->Prop):Prop:=
 av Tryz.prog 50 [.pointer b,.slice l.a l.len l.cap] [] w R
def Vc (b:Option Addr) (w:World) (R:World->Prop):Prop:=
 av Tryz.prog 51 [.pointer b] [] w R
def Vd (kinds:Sl) (w:World) (R:Bool->World->Prop):Prop:=
 av Tryz.prog 52 [.slice kinds.a kinds.len kinds.cap] [.one .b] w R
def Rl (aA:Int) (w:World) (R:Option Addr->Int->World->Prop):Prop:=
 av Tryz.prog 53 [.int .i64 aA] [.one .p,.one (.i .i64)] w R
def Sm (kinds:Sl) (w:World) (R:Sl->World->Prop):Prop:=
 av Tryz.prog 54 [.slice kinds.a kinds.len kinds.cap] [.one .sl] w R
def Sn (w_:Option Addr) (kind:Int) (w:World) (R:Int->Bool->World->Prop):Prop:=
 av Tryz.prog 55 [.pointer w_,.int .i64 kind] [.one (.i .i64),.one .b] w R
def Rm (s:Sl) (i:Int) (v:Sl) (w:World) (R:Sl->World->Prop):Prop:=
 av Tryz.prog 56 [.slice s.a s.len s.cap,.int .i64 i,.slice v.a v.len v.cap] [.one .sl] w R
def Ns (w_:Option Addr) (set kind:Int) (w:World) (R:Int->World->Prop):Prop:=
 av Tryz.prog 57 [.pointer w_,.int .i64 set,.int .i64 kind] [.one (.i .i64)] w R
def Rn (p:Option Addr) (w:World) (R:Int->Int->Int->World->Prop):Prop:=
 av Tryz.prog 58 [.pointer p] [.agg [.i .i64,.i .i64],.one (.i .i64)] w R
def Ro (w_:Option Addr) (al aC set:Int) (values:Sl) (w:World) (R:World->Prop):Prop:=
 av Tryz.prog 59 [.pointer w_,.agg #[.int .i64 al,.int .i64 aC],.int .i64 set,.slice values.a values.len values.cap] [] w R
def Ve (w_:Option Addr) (al aC kind:Int) (w:World) (R:Int->Bool->Int->Int->World->Prop):Prop:=
 av Tryz.prog 60 [.pointer w_,.agg #[.int .i64 al,.int .i64 aC],.int .i64 kind] [.one (.i .i64),.one .b,.one (.i .i64),.one (.i .i64)] w R
def So (w_:Option Addr) (al aC:Int) (w:World) (R:Sl->World->Prop):Prop:=
 av Tryz.prog 61 [.pointer w_,.agg #[.int .i64 al,.int .i64 aC]] [.one .sl] w R
def Vf (p:Option Addr) (al aC:Int) (w:World) (R:Int->World->Prop):Prop:=
 av Tryz.prog 62 [.pointer p,.agg #[.int .i64 al,.int .i64 aC]] [.one (.i .i64)] w R
def Vg (b:Sl) (w:World) (R:Sl->Sl->Bool->World->Prop):Prop:=
 av Tryz.prog 63 [.slice b.a b.len b.cap] [.one .sl,.one .sl,.one .b] w R
def Vh (aA:Int) (ah free:Sl) (w:World) (R:Option Addr->Int->World->Prop):Prop:=
 av Tryz.prog 64 [.int .i64 aA,.slice ah.a ah.len ah.cap,.slice free.a free.len free.cap] [.one .p,.one (.i .i64)] w R
def Sp (p:Option Addr) (w:World) (R:Sl->World->Prop):Prop:=
 av Tryz.prog 65 [.pointer p] [.one .sl] w R
def Sq (b:Sl) (w:World) (R:Int->Int->World->Prop):Prop:=
 av Tryz.prog 66 [.slice b.a b.len b.cap] [.one (.i .u64),.one (.i .i64)] w R
def WT (b:Sl) (w:World) (R:Int->Int->World->Prop):Prop:=
 av Tryz.prog 67 [.slice b.a b.len b.cap] [.one (.i .i64),.one (.i .i64)] w R
def WU (kinds:Sl) (w:World) (R:Bool->World->Prop):Prop:=
 av Tryz.prog 68 [.slice kinds.a kinds.len kinds.cap] [.one .b] w R
def WV (kinds b:Sl) (w:World) (R:Option Addr->Int->World->Prop):Prop:=
 av Tryz.prog 69 [.slice kinds.a kinds.len kinds.cap,.slice b.a b.len b.cap] [.one .p,.one (.i .i64)] w R
def Nt (b:Sl) (w:World) (R:Int->Int->World->Prop):Prop:=
 av Tryz.prog 70 [.slice b.a b.len b.cap] [.one (.i .u64),.one (.i .i64)] w R
def Vi (b:Sl) (w:World) (R:Int->Int->World->Prop):Prop:=
 av Tryz.prog 71 [.slice b.a b.len b.cap] [.one (.i .i64),.one (.i .i64)] w R
def WW (w_:Option Addr) (al aC:Int) (w:World) (R:Int->World->Prop):Prop:=
 av Tryz.prog 72 [.pointer w_,.agg #[.int .i64 al,.int .i64 aC]] [.one (.i .i64)] w R
def WX (p:Option Addr) (al aC:Int) (w:World) (R:Int->World->Prop):Prop:=
 av Tryz.prog 73 [.pointer p,.agg #[.int .i64 al,.int .i64 aC]] [.one (.i .i64)] w R
def WY (w_:Option Addr) (parts:Sl) (w:World) (R:Int->Int->Int->World->Prop):Prop:=
 av Tryz.prog 74 [.pointer w_,.slice parts.a parts.len parts.cap] [.agg [.i .i64,.i .i64],.one (.i .i64)] w R
def WZ (l dG:Sl) (w:World) (R:Bool->World->Prop):Prop:=
 av Tryz.prog 75 [.slice l.a l.len l.cap,.slice dG.a dG.len dG.cap] [.one .b] w R
def W0 (l:Sl) (w:World) (R:Sl->World->Prop):Prop:=
 av Tryz.prog 76 [.slice l.a l.len l.cap] [.one .sl] w R
def Vj (aA:Int) (w:World) (R:Option Addr->Int->World->Prop):Prop:=
 av Tryz.prog 77 [.int .i64 aA] [.one .p,.one (.i .i64)] w R
def W1 (kinds:Sl) (w:World) (R:Sl->World->Prop):Prop:=
 av Tryz.prog 78 [.slice kinds.a kinds.len kinds.cap] [.one .sl] w R
def Vk (l:Sl) (w:World) (R:Sl->World->Prop):Prop:=
 av Tryz.prog 79 [.slice l.a l.len l.cap] [.one .sl] w R
def W2 (l dG:Sl) (w:World) (R:Bool->World->Prop):Prop:=
 av Tryz.prog 83 [.slice l.a l.len l.cap,.slice dG.a dG.len dG.cap] [.one .b] w R
def W3 (a b:Sl) (w:World) (R:Bool->World->Prop):Prop:=
 av Tryz.prog 91 [.slice a.a a.len a.cap,.slice b.a b.len b.cap] [.one .b] w R
def W4 (b:Option Addr) (l:Sl) (w:World) (R:World->Prop):Prop:=
 av Tryz.prog 93 [.pointer b,.slice l.a l.len l.cap] [] w R
def W5 (b:Option Addr) (l:Sl) (w:World) (R:World->Prop):Prop:=
 av Tryz.prog 94 [.pointer b,.slice l.a l.len l.cap] [] w R
def Vl (s:Sl) (w:World) (R:Sl->World->Prop):Prop:=
 av Tryz.prog 97 [.slice s.a s.len s.cap] [.one .sl] w R
def Vm (b:Sl) (w:World) (R:Sl->World->Prop):Prop:=
 av Tryz.prog 98 [.slice b.a b.len b.cap] [.one .sl] w R
def Vn (l:Sl) (w:World) (R:Sl->World->Prop):Prop:=
 av Tryz.prog 99 [.slice l.a l.len l.cap] [.one .sl] w R
def Nu (w_:Option Addr) (al aC:Int) (w:World) (R:Int->Int->Sl->World->Prop):Prop:=
 av Tryz.prog 100 [.pointer w_,.agg #[.int .i64 al,.int .i64 aC]] [.agg [.i .i64,.i .i64,.sl]] w R
def yi (b:Sl) (n_:Int) (w:World) (R:Sl->World->Prop):Prop:=
 av Tryz.prog 101 [.slice b.a b.len b.cap,.int .u64 n_] [.one .sl] w R
def DW (n_:Int) (w:World) (R:Int->World->Prop):Prop:=
 av Tryz.prog 102 [.int .i64 n_] [.one (.i .u64)] w R
def DX (t:Option Addr) (w:World) (R:Int->World->Prop):Prop:=
 av Tryz.prog 103 [.pointer t] [.one (.i .i64)] w R
def Ju (l:Sl) (w:World) (R:Int->World->Prop):Prop:=
 av Tryz.prog 104 [.slice l.a l.len l.cap] [.one (.i .i64)] w R
def Nv (w_:Option Addr) (w:World) (R:Sl->World->Prop):Prop:=
 av Tryz.prog 105 [.pointer w_] [.one .sl] w R
def BB (b:Sl) (n_:Int) (w:World) (R:Sl->World->Prop):Prop:=
 av Tryz.prog 106 [.slice b.a b.len b.cap,.int .u64 n_] [.one .sl] w R
def DY (b:Sl) (n_:Int) (w:World) (R:Sl->World->Prop):Prop:=
 av Tryz.prog 107 [.slice b.a b.len b.cap,.int .i64 n_] [.one .sl] w R
def Jv (n_:Int) (w:World) (R:Int->World->Prop):Prop:=
 av Tryz.prog 108 [.int .i64 n_] [.one (.i .i64)] w R
def Jw (l:Sl) (w:World) (R:Bool->World->Prop):Prop:=
 av Tryz.prog 109 [.slice l.a l.len l.cap] [.one .b] w R
def Jx (s:Sl) (w:World) (R:Sl->World->Prop):Prop:=
 av Tryz.prog 110 [.slice s.a s.len s.cap] [.one .sl] w R
def Nx (s:Sl) (w:World) (R:Sl->World->Prop):Prop:=
 av Tryz.prog 111 [.slice s.a s.len s.cap] [.one .sl] w R
def W6 (s:Sl) (r:Int) (w:World) (R:World->Prop):Prop:=
 av Tryz.prog 113 [.slice s.a s.len s.cap,.int .i64 r] [] w R
def Ny (w_:Option Addr) (set:Int) (w:World) (R:Option Addr->World->Prop):Prop:=
 av Tryz.prog 114 [.pointer w_,.int .i64 set] [.one .p] w R
def Nz (t:Option Addr) (al aC:Int) (values:Sl) (w:World) (R:Int->Int->World->Prop):Prop:=
 av Tryz.prog 115 [.pointer t,.agg #[.int .i64 al,.int .i64 aC],.slice values.a values.len values.cap] [.one (.i .i64),.one (.i .i64)] w R
def F1 (p:Option Addr) (al aC:Int) (w:World) (R:Bool->World->Prop):Prop:=
 av Tryz.prog 116 [.pointer p,.agg #[.int .i64 al,.int .i64 aC]] [.one .b] w R
def F2 (t:Option Addr) (row:Int) (w:World) (R:Int->Int->Sl->Int->World->Prop):Prop:=
 av Tryz.prog 117 [.pointer t,.int .i64 row] [.agg [.i .i64,.i .i64],.one .sl,.one (.i .i64)] w R
def DZ (t:Option Addr) (al aC:Int) (w:World) (R:Int->World->Prop):Prop:=
 av Tryz.prog 118 [.pointer t,.agg #[.int .i64 al,.int .i64 aC]] [.one (.i .i64)] w R
def NA (t:Option Addr) (row:Int) (w:World) (R:Int->Int->Bool->Int->World->Prop):Prop:=
 av Tryz.prog 119 [.pointer t,.int .i64 row] [.agg [.i .i64,.i .i64],.one .b,.one (.i .i64)] w R
def NB (b:Sl) (aA:Int) (w:World) (R:Sl->Int->World->Prop):Prop:=
 av Tryz.prog 120 [.slice b.a b.len b.cap,.int .i64 aA] [.one .sl,.one (.i .i64)] w R
def Jy (p:Option Addr) (index:Int) (w:World) (R:Int->Int->Int->World->Prop):Prop:=
 av Tryz.prog 121 [.pointer p,.int .i64 index] [.agg [.i .i64,.i .i64],.one (.i .i64)] w R
def F3 (n_:Int) (w:World) (R:Int->World->Prop):Prop:=
 av Tryz.prog 122 [.int .u64 n_] [.one (.i .i64)] w R
def Jz (l:Sl) (w:World) (R:Bool->World->Prop):Prop:=
 av Tryz.prog 123 [.slice l.a l.len l.cap] [.one .b] w R
def JA (b:Sl) (aA:Int) (w:World) (R:Sl->Int->World->Prop):Prop:=
 av Tryz.prog 124 [.slice b.a b.len b.cap,.int .i64 aA] [.one .sl,.one (.i .i64)] w R
def JB (l:Sl) (w:World) (R:Sl->Bool->World->Prop):Prop:=
 av Tryz.prog 125 [.slice l.a l.len l.cap] [.one .sl,.one .b] w R
def NC (aA:Int) (ah free:Sl) (w:World) (R:Option Addr->Int->World->Prop):Prop:=
 av Tryz.prog 126 [.int .i64 aA,.slice ah.a ah.len ah.cap,.slice free.a free.len free.cap] [.one .p,.one (.i .i64)] w R
def ND (p:Option Addr) (w:World) (R:Sl->World->Prop):Prop:=
 av Tryz.prog 127 [.pointer p] [.one .sl] w R
def NF (n_:Int) (w:World) (R:Int->World->Prop):Prop:=
 av Tryz.prog 128 [.int .u64 n_] [.one (.i .i64)] w R
def NG (p:Option Addr) (al aC:Int) (w:World) (R:Bool->World->Prop):Prop:=
 av Tryz.prog 129 [.pointer p,.agg #[.int .i64 al,.int .i64 aC]] [.one .b] w R
def NH (w_:Option Addr) (kind:Int) (w:World) (R:Int->World->Prop):Prop:=
 av Tryz.prog 130 [.pointer w_,.int .i64 kind] [.one (.i .i64)] w R
def NI (l:Sl) (kind:Int) (w:World) (R:Int->World->Prop):Prop:=
 av Tryz.prog 131 [.slice l.a l.len l.cap,.int .i64 kind] [.one (.i .i64)] w R
def NJ (l:Sl) (eG:Int) (bf:Sl) (w:World) (R:Sl->World->Prop):Prop:=
 av Tryz.prog 132 [.slice l.a l.len l.cap,.agg #[.int .i64 eG,.slice bf.a bf.len bf.cap]] [.one .sl] w R
def NK (p:Option Addr) (w:World) (R:Int->Int->Int->World->Prop):Prop:=
 av Tryz.prog 133 [.pointer p] [.agg [.i .i64,.i .i64],.one (.i .i64)] w R
def NL (w_:Option Addr) (dL fM:Int) (cH:Sl) (w:World) (R:World->Prop):Prop:=
 av Tryz.prog 134 [.pointer w_,.agg #[.int .i64 dL,.int .i64 fM,.slice cH.a cH.len cH.cap]] [] w R
def NM (w_:Option Addr) (al aC:Int) (set kind:Int) (w:World) (R:Int->Sl->World->Prop):Prop:=
 av Tryz.prog 136 [.pointer w_,.agg #[.int .i64 al,.int .i64 aC],.int .i64 set,.int .i64 kind] [.agg [.i .i64,.sl]] w R
def NO (a b:Sl) (w:World) (R:Bool->World->Prop):Prop:=
 av Tryz.prog 137 [.slice a.a a.len a.cap,.slice b.a b.len b.cap] [.one .b] w R
def NP (s:Sl) (w:World) (R:Sl->World->Prop):Prop:=
 av Tryz.prog 141 [.slice s.a s.len s.cap] [.one .sl] w R
def NQ (form:Int) (t1 t2:Option Addr) (w:World) (R:Sl->World->Prop):Prop:=
 av Tryz.prog 142 [.int .u8 form,.pointer t1,.pointer t2] [.one .sl] w R
def NR (form:Int) (b l:Sl) (w:World) (R:Sl->World->Prop):Prop:=
 av Tryz.prog 143 [.int .u8 form,.slice b.a b.len b.cap,.slice l.a l.len l.cap] [.one .sl] w R
def NS (p:Option Addr) (w:World) (R:Sl->Sl->World->Prop):Prop:=
 av Tryz.prog 144 [.pointer p] [.one .sl,.one .sl] w R
def JC (b l:Sl) (w:World) (R:Sl->World->Prop):Prop:=
 av Tryz.prog 145 [.slice b.a b.len b.cap,.slice l.a l.len l.cap] [.one .sl] w R
def JD (l:Sl) (w:World) (R:Sl->World->Prop):Prop:=
 av Tryz.prog 146 [.slice l.a l.len l.cap] [.one .sl] w R
def NT (n_:Int) (w:World) (R:Int->World->Prop):Prop:=
 av Tryz.prog 147 [.int .i64 n_] [.one (.i .u64)] w R
def NU (s:ByteArray) (w:World) (R:Bool->World->Prop):Prop:=
 av Tryz.prog 148 [.string s] [.one .b] w R
def NV (s:Sl) (v:ByteArray) (w:World) (R:Bool->World->Prop):Prop:=
 av Tryz.prog 149 [.slice s.a s.len s.cap,.string v] [.one .b] w R
def NW (dk:Int) (w:World) (R:Option Addr->Int->World->Prop):Prop:=
 av Tryz.prog 151 [.int .i64 dk] [.one .p,.one (.i .i64)] w R
def JE (t:Option Addr) (row:Int) (w:World) (R:Bool->World->Prop):Prop:=
 av Tryz.prog 152 [.pointer t,.int .i64 row] [.one .b] w R
def BC (r:Option Addr) (w:World) (R:Int->World->Prop):Prop:=
 av Tryz.prog 153 [.pointer r] [.one (.i .u64)] w R
def NX (r:Option Addr) (form n_:Int) (w:World) (R:Sl->World->Prop):Prop:=
 av Tryz.prog 154 [.pointer r,.int .u8 form,.int .u64 n_] [.one .sl] w R
def NY (s:ByteArray) (w:World) (R:Bool->World->Prop):Prop:=
 av Tryz.prog 155 [.string s] [.one .b] w R
def NZ (b:Sl) (n_ form:Int) (w:World) (R:Sl->Int->World->Prop):Prop:=
 av Tryz.prog 156 [.slice b.a b.len b.cap,.int .i64 n_,.int .u8 form] [.one .sl,.one (.i .i64)] w R
def JF (l:Sl) (w:World) (R:Sl->World->Prop):Prop:=
 av Tryz.prog 157 [.slice l.a l.len l.cap] [.one .sl] w R
def JG (p:Option Addr) (i:Int) (w:World) (R:Bool->World->Prop):Prop:=
 av Tryz.prog 158 [.pointer p,.int .i64 i] [.one .b] w R
def N0 (l:Sl) (w:World) (R:Sl->World->Prop):Prop:=
 av Tryz.prog 161 [.slice l.a l.len l.cap] [.one .sl] w R
def Sr (s:Sl) (v:ByteArray) (w:World) (R:Int->World->Prop):Prop:=
 av Tryz.prog 162 [.slice s.a s.len s.cap,.string v] [.one (.i .i64)] w R
def N1 (l:Sl) (w:World) (R:Sl->Sl->Sl->World->Prop):Prop:=
 av Tryz.prog 164 [.slice l.a l.len l.cap] [.agg [.sl,.sl,.sl]] w R
def f2 (w:World) (R:World->Prop):Prop:=
 CP Tryz.prog 1 [] [] w fun w=>
 R w
def f3 (kinds b:Sl) (at_ A4:Int) (w:World) (R:Bool->World->Prop):Prop:=
 c5 w fun(head:Bool) w=>
 Mk [.int .u8 0] 5 1 (IntKind.i64.wrap ((b.len:Int)+8)) (IntKind.i64.wrap ((b.len:Int)+8)) w fun(l:Sl) w=>
 bZ (.i .i64) Tryz.prog (Builtin.copy_ #[23,23] 3 #[.slice l.a l.len l.cap,.slice b.a b.len b.cap]) w fun(n_:Int) w=>
 Bh w ⟨b.a,b.len,b.cap⟩ fun(x:ByteArray)=>
 c6 kinds l x w fun(ok:Bool) w=>
 if (cond (!head) true (!ok))=true then (R false w) else (if ((b.len:Int) ==0)=true then (R true w) else (c7 at_ (b.len:Int) w fun(r:Int) w=>
 Ix l.a l.len r 1 fun(a:Addr)=>
 St a (.int .u8 (IntKind.u8.wrap A4)) w fun w=>
 Cut ⟨l.a,l.len,l.cap⟩ 0 (b.len:Int) (l.cap:Int) 1 fun(s:Sl)=>
 Bh w ⟨s.a,s.len,s.cap⟩ fun(x2:ByteArray)=>
 c6 kinds l x2 w fun(r2:Bool) w=>
 R r2 w))
theorem Ss {kinds b at_ A4 w R} (h:f3 kinds b at_ A4 w R):c3 kinds b at_ A4 w R:=
  ag (H:=⟨[],[]⟩) ct Tryz.func3 (cast (by kernel_rfl) h)
def f4 (one two lK:Sl) (w:World) (R:Bool->World->Prop):Prop:=
 c5 w fun(head:Bool) w=>
 c8 one w fun(p:Option Addr) (a:Bool) w=>
 c8 two w fun(q:Option Addr) (b:Bool) w=>
 if (cond (cond (!head) true (!a)) true (!b))=true then (R false w) else (∃ak:Int->Nat->World->Prop,(∃n:Nat,ak 0 n w) /\ ∀i:Int,∀m:Nat,∀w:World,ak i m w->(if (cond (decide (i < (lK.len:Int))) (decide (i < 300)) false)=true then (∃J_:Option Addr->World->Prop,(Ix lK.a lK.len i 9 fun(a2:Addr)=>
 Ld (.i .i64) w (a2.add 1) fun(H:Int)=>
 if ((IntKind.i64.wrap ((BitVec.ofInt 64 H &&& BitVec.ofInt 64 1).toNat:Nat)) ==1)=true then (J_ q w) else (J_ p w)) /\ ∀of:Option Addr,∀w:World,J_ of w->(if of.isNone=true then (∃m2:Nat,m2 < m /\ ak (IntKind.i64.wrap (i+1)) m2 w) else (Ix lK.a lK.len i 9 fun(a3:Addr)=>
 Ld (.i .i64) w a3 fun(uo:Int)=>Ld (.i .i64) w (a3.add 1) fun(x_H:Int)=>Ld (.i .i64) w (a3.add 2) fun(W7:Int)=>Ld (.i .i64) w (a3.add 3) fun(x_N:Int)=>Ld (.i .i64) w (a3.add 4) fun(qR:Int)=>Ld (.i .i64) w (a3.add 5) fun(yj:Int)=>Ld (.i .i64) w (a3.add 6) fun(F4:Int)=>Ld .sl w (a3.add 7) fun(BD:Sl)=>Ld .sl w (a3.add 8) fun(pN:Sl)=>
 c9 of uo x_H W7 x_N qR yj F4 BD pN w fun(ok:Bool) w=>
 NN of fun(jS:Addr)=>
 c10 (some (jS.add 6)) w fun(all:Bool) w=>
 if (cond (!ok) true (!all))=true then (R false w) else (∃m2:Nat,m2 < m /\ ak (IntKind.i64.wrap (i+1)) m2 w)))) else (Nw (.cells #[.pointer p,.pointer q] 29) w fun(b2:Addr) w=>
 ∃aS:Int->Nat->World->Prop,(∃n:Nat,aS 0 n w) /\ ∀i2:Int,∀m3:Nat,∀w:World,aS i2 m3 w->(if (decide (i2 < 2))=true then (∃lv:World->Prop,(∃dD:Int->Nat->World->Prop,(∃n:Nat,dD 0 n w) /\ ∀k:Int,∀m5:Nat,∀w:World,dD k m5 w->(∃A5:World->Prop,(Ix (some b2) 2 i2 1 fun(a4:Addr)=>
 Ld .p w a4 fun(x:Option Addr)=>
 if (!x.isNone)=true then (Ix (some b2) 2 i2 1 fun(a5:Addr)=>
 Ld .p w a5 fun(x2:Option Addr)=>
 NN x2 fun(a6:Addr)=>
 Ld .sl w (a6.add 4) fun(ec:Sl)=>
 if (decide (k < (ec.len:Int)))=true then (A5 w) else (lv w)) else (lv w)) /\ ∀w:World,A5 w->(Dr w fun w=>
 Ix (some b2) 2 i2 1 fun(a7:Addr)=>
 Ld .p w a7 fun(x3:Option Addr)=>
 NN x3 fun(a8:Addr)=>
 Ld .sl w (a8.add 4) fun(Su:Sl)=>
 Ix Su.a Su.len k 1 fun(a9:Addr)=>
 Ld .p w a9 fun(x4:Option Addr)=>
 Ix (some b2) 2 i2 1 fun(L0:Addr)=>
 Ld .p w L0 fun(x5:Option Addr)=>
 NN x5 fun(L1:Addr)=>
 Ld .sl w (L1.add 5) fun(dG:Sl)=>
 Ix dG.a dG.len k 1 fun(Vo:Addr)=>
 Ld .s w Vo fun(x6:ByteArray)=>
 LZ x4 w fun(r:Sl) w=>
 w.cell? Vo=some (.string x6) /\ w.cell? (L1.add 5)=some (.slice dG.a dG.len dG.cap) /\ w.cell? L0=some (.pointer x5) /\ (Bh w ⟨r.a,r.len,r.cap⟩ fun(x7:ByteArray)=>
 if (!(x7.toList ==x6.toList))=true then (R false w) else (∃m6:Nat,m6 < m5 /\ dD (IntKind.i64.wrap (k+1)) m6 w))))) /\ ∀w:World,lv w->(Ix (some b2) 2 i2 1 fun(a13:Addr)=>
 Ld .p w a13 fun(x8:Option Addr)=>
 if (!x8.isNone)=true then (Ix (some b2) 2 i2 1 fun(a14:Addr)=>
 Ld .p w a14 fun(x9:Option Addr)=>
 Sj x9 w fun(IX:Bool) w=>
 if (!IX)=true then (R false w) else (∃m4:Nat,m4 < m3 /\ aS (IntKind.i64.wrap (i2+1)) m4 w)) else (∃m4:Nat,m4 < m3 /\ aS (IntKind.i64.wrap (i2+1)) m4 w))) else (R true w)))))
def f5 (w:World) (R:Bool->World->Prop):Prop:=
 WC w fun(r:Sl) w=>
 Nr r w fun(w_:Option Addr) (e:Int) w=>
 if (cond w_.isNone true (e !=0))=true then (R false w) else (Nw (.cells #[.int .i64 7] 2) w fun(b:Addr) w=>
 Nw (.cells #[.int .i64 1,.int .i64 2] 2) w fun(b2:Addr) w=>
 Nw (.cells #[.int .i64 2,.slice (some b) 1 1,.int .i64 1,.slice (some b2) 2 2] 36) w fun(b3:Addr) w=>
 Ri w_ ⟨some b3,2,2⟩ w fun(JH Sv f:Int) w=>
 Nw (.cells #[.int .i64 0,.int .i64 0] 33) w fun(a:Addr) w=>
 St a (.int .i64 JH) w fun w=>
 St (a.add 1) (.int .i64 Sv) w fun w=>
 Ri w_ ⟨none,0,0⟩ w fun(JI Sw g:Int) w=>
 Nw (.cells #[.int .i64 0,.int .i64 0] 33) w fun(b4:Addr) w=>
 St b4 (.int .i64 JI) w fun w=>
 St (b4.add 1) (.int .i64 Sw) w fun w=>
 Ld (.i .i64) w b4 fun(F5:Int)=>Ld (.i .i64) w (b4.add 1) fun(N2:Int)=>
 U2 w_ F5 N2 3 ⟨none,0,0⟩ w fun(h:Int) w=>
 Ld (.i .i64) w b4 fun(F6:Int)=>Ld (.i .i64) w (b4.add 1) fun(N3:Int)=>
 U2 w_ F6 N3 3 ⟨none,0,0⟩ w fun(i:Int) w=>
 Ld (.i .i64) w a fun(F7:Int)=>Ld (.i .i64) w (a.add 1) fun(N4:Int)=>
 U3 w_ F7 N4 w fun(j:Int) w=>
 if (f ==0)=true then (if (g ==0)=true then (Ld (.i .i64) w a fun(F8:Int)=>Ld (.i .i64) w (a.add 1) fun(N5:Int)=>
 hZ .b Tryz.prog (cl .eql 33 (.tmp 54) (.tmp 55) (.agg #[.int .i64 F8,.int .i64 N5]) (.agg #[.int .i64 0,.int .i64 1])) w fun(eq:Bool)=>
 if eq=true then (Ld (.i .i64) w b4 fun(F9:Int)=>Ld (.i .i64) w (b4.add 1) fun(N6:Int)=>
 hZ .b Tryz.prog (cl .eql 33 (.tmp 59) (.tmp 60) (.agg #[.int .i64 F9,.int .i64 N6]) (.agg #[.int .i64 1,.int .i64 1])) w fun(eq2:Bool)=>
 if eq2=true then (if (h ==0)=true then (if (i ==61)=true then (if (j ==0)=true then (LZ w_ w fun(r2:Sl) w=>
 Bh w ⟨r2.a,r2.len,r2.cap⟩ fun(x:ByteArray)=>
 R (x.toList ==(⟨#[2,0,2,2,1,0,0,8]⟩:ByteArray).toList) w) else (R false w)) else (R false w)) else (R false w)) else (R false w)) else (R false w)) else (R false w)) else (R false w))
theorem Sx {w R} (h:f5 w R):c5 w R:=
  ag (H:=⟨[],[]⟩) ct Tryz.func5 (cast (by kernel_rfl) h)
def f6 (kinds l:Sl) (b:ByteArray) (w:World) (R:Bool->World->Prop):Prop:=
 WD kinds w fun(k:Sl) w=>
 Cut ⟨l.a,l.len,l.cap⟩ 0 (b.size:Int) (l.cap:Int) 1 fun(s:Sl)=>
 WE k s w fun(w_:Option Addr) (e:Int) w=>
 WG k kinds w fun(whole:Bool) w=>
 bZ .sl Tryz.prog (convert 9 23 (.string b)) w fun(x:Sl) w=>
 WI kinds x w fun(x2:Option Addr) (f:Int) w=>
 Bh w ⟨l.a,l.len,l.cap⟩ fun(x3:ByteArray)=>
 b.size+(⟨#[0,0,0,0,0,0,0,0]⟩:ByteArray).size<=9223372036854775807 /\ (if (cond (cond (cond (!(x3.toList ==(b++(⟨#[0,0,0,0,0,0,0,0]⟩:ByteArray)).toList)) true (!whole)) true (e !=f)) true (!(w_.isNone ==x2.isNone)))=true then (R false w) else (if w_.isNone=true then (R true w) else (Nw (.cells #[.pointer w_,.pointer x2,.slice kinds.a kinds.len kinds.cap,.slice none 0 0,.slice none 0 0,.slice none 0 0,.slice none 0 0,.slice none 0 0,.slice none 0 0,.slice none 0 0,.slice none 0 0,.slice none 0 0,.int .i64 0,.int .i64 0,.int .i64 0] 53) w fun(p:Addr) w=>
 Sj (some p) w fun(ok:Bool) w=>
 ∃J_:World->Prop,(if (!ok)=true then (R false w) else (LZ w_ w fun(r:Sl) w=>
 Bh w ⟨r.a,r.len,r.cap⟩ fun(x4:ByteArray)=>
 if (!(x4.toList ==b.toList))=true then (R false w) else (J_ w))) /\ ∀w:World,J_ w->(Nw (.cells #[.int .i64 0,.int .i64 0] 33) w fun(first:Addr) w=>
 St first (.int .i64 0) w fun w=>
 St (first.add 1) (.int .i64 0) w fun w=>
 ∃lv:World->Prop,(NN x2 fun(x_:Addr)=>
 Ld .sl w (x_.add 2) fun(L:Sl)=>
 if (decide ((L.len:Int) > 0))=true then (NN x2 fun(N7:Addr)=>
 Ld .sl w (N7.add 2) fun(L2:Sl)=>
 Ix L2.a L2.len 0 3 fun(a:Addr)=>
 Ld (.i .i64) w a fun(hJ:Int)=>Ld (.i .i64) w (a.add 1) fun(ow:Int)=>
 St first (.int .i64 hJ) w fun w=>
 St (first.add 1) (.int .i64 ow) w fun w=>
 lv w) else (lv w)) /\ ∀w:World,lv w->(Ld (.i .i64) w first fun(zr:Int)=>Ld (.i .i64) w (first.add 1) fun(D0:Int)=>
 U3 w_ zr D0 w fun(e2:Int) w=>
 Ld (.i .i64) w first fun(yk:Int)=>Ld (.i .i64) w (first.add 1) fun(BE:Int)=>
 WJ x2 yk BE w fun(r2:Int) w=>
 ∃ak:Bool->Int->Nat->World->Prop,(∃n:Nat,ak (e2 ==r2) 0 n w) /\ ∀IX:Bool,∀i:Int,∀m:Nat,∀w:World,ak IX i m w->(if (decide (i < 3))=true then (WL ⟨none,0,0⟩ w fun(r3:Sl) w=>
 WK (some p) r3 ⟨none,0,0⟩ w fun(W8:Bool) w=>
 ∃m2:Nat,m2 < m /\ ak (cond IX W8 false) (IntKind.i64.wrap (i+1)) m2 w) else (Sj (some p) w fun(after:Bool) w=>
 R (cond IX after false) w)))))))
theorem Sy {kinds l b w R} (h:f6 kinds l b w R):c6 kinds l b w R:=
  ag (H:=⟨[(19,⟨[(14,.b),(16,.i .i64)],[13]⟩)],[(13,⟨[],[8,11,13]⟩),(16,⟨[],[8,11,13,15]⟩)]⟩) ct Tryz.func6 (cast (by kernel_rfl) h)
def f7 (c n_:Int) (w:World) (R:Int->World->Prop):Prop:=
 if (decide (c < 0))=true then ((n_:Int)≠0 /\ (R (Int.tmod (IntKind.i64.wrap (0 - (IntKind.i64.wrap (c+1)))) n_) w)) else ((n_:Int)≠0 /\ (R (Int.tmod c n_) w))
theorem Sz {c n_ w R} (h:f7 c n_ w R):c7 c n_ w R:=
  ag (H:=⟨[],[]⟩) ct Tryz.func7 (cast (by kernel_rfl) h)
def f11 (w_:Option Addr) (w:World) (R:Sl->World->Prop):Prop:=
 NN w_ fun(iY:Addr)=>
 Ld .p w (iY.add 1) fun(au:Option Addr)=>
 U4 au w fun(ah free:Sl) w=>
 U6 ah w fun(r:Sl) w=>
 U5 ⟨none,0,0⟩ r w fun(r2:Sl) w=>
 U6 free w fun(r3:Sl) w=>
 U5 r2 r3 w fun(b:Sl) w=>
 Rj w_ w fun(r4:Sl) w=>
 ∃ak:Sl->Int->Nat->World->Prop,(∃n:Nat,ak b 0 n w) /\ ∀b2:Sl,∀t29:Int,∀m:Nat,∀w:World,ak b2 t29 m w->(if (decide (t29 < (r4.len:Int)))=true then (Ix r4.a r4.len t29 3 fun(a:Addr)=>
 Ld (.i .i64) w a fun(dL:Int)=>Ld (.i .i64) w (a.add 1) fun(fM:Int)=>Ld .sl w (a.add 2) fun(cH:Sl)=>
 Nw (.cells #[.int .i64 0,.int .i64 0,.slice none 0 0] 75) w fun(r5:Addr) w=>
 St r5 (.int .i64 dL) w fun w=>
 St (r5.add 1) (.int .i64 fM) w fun w=>
 St (r5.add 2) (.slice cH.a cH.len cH.cap) w fun w=>
 Dr w fun w=>
 NN w_ fun(oP:Addr)=>
 Ld .m w (oP.add 2) fun(aJ:Option Nat)=>
 Ld (.i .i64) w r5 fun(hJ:Int)=>Ld (.i .i64) w (r5.add 1) fun(ow:Int)=>
 gp [.one (.i .i64)] Tryz.prog (Instr.lookup 88 (.map aJ) (.agg #[.int .i64 hJ,.int .i64 ow]) false) w fun(e:Int) _=>
 U7 b2 (IntKind.u64.wrap e) w fun(b3:Sl) w=>
 Ld .sl w (r5.add 2) fun(dP:Sl)=>
 ∃aS:Sl->Int->Nat->World->Prop,(∃n:Nat,aS b3 0 n w) /\ ∀b4:Sl,∀t46:Int,∀m3:Nat,∀w:World,aS b4 t46 m3 w->(if (decide (t46 < (dP.len:Int)))=true then (Ix dP.a dP.len t46 2 fun(a2:Addr)=>
 Ld (.i .i64) w a2 fun(eG:Int)=>Ld .sl w (a2.add 1) fun(bf:Sl)=>
 Nw (.cells #[.int .i64 0,.slice none 0 0] 36) w fun(p:Addr) w=>
 St p (.int .i64 eG) w fun w=>
 St (p.add 1) (.slice bf.a bf.len bf.cap) w fun w=>
 Ld .sl w (p.add 1) fun(cQ:Sl)=>
 ∃dD:Sl->Int->Nat->World->Prop,(∃n:Nat,dD b4 0 n w) /\ ∀b5:Sl,∀t53:Int,∀m5:Nat,∀w:World,dD b5 t53 m5 w->(if (decide (t53 < (cQ.len:Int)))=true then (Ix cQ.a cQ.len t53 1 fun(a3:Addr)=>
 Ld (.i .i64) w a3 fun(x:Int)=>
 WO b5 x w fun(b6:Sl) w=>
 ∃m6:Nat,m6 < m5 /\ dD b6 (IntKind.i64.wrap (t53+1)) m6 w) else (∃m4:Nat,m4 < m3 /\ aS b5 (IntKind.i64.wrap (t46+1)) m4 w))) else (∃m2:Nat,m2 < m /\ ak b4 (IntKind.i64.wrap (t29+1)) m2 w))) else (R b2 w))
theorem N8 {w_ w R} (h:f11 w_ w R):LZ w_ w R:=
  ag (H:=⟨[(4,⟨[(5,.sl),(29,.i .i64)],[0,27,28]⟩),(8,⟨[(5,.sl),(46,.i .i64)],[0,27,28,29,44,45]⟩),(11,⟨[(5,.sl),(53,.i .i64)],[0,27,28,29,44,45,46,51,52]⟩)],[]⟩) ct Tryz.func11 (cast (by kernel_rfl) h)
def f12 (p:Option Addr) (w:World) (R:Bool->World->Prop):Prop:=
 NN p fun(p_:Addr)=>
 Ld .p w p_ fun(a:Option Addr)=>
 Rj a w fun(r:Sl) w=>
 NN p fun(qS:Addr)=>
 Ld .p w qS fun(a2:Option Addr)=>
 Rj a2 w fun(s:Sl) w=>
 NN p fun(sS:Addr)=>
 Ld .p w (sS.add 1) fun(b:Option Addr)=>
 WQ b w fun(t:Sl) w=>
 NN p fun(D1:Addr)=>
 Ld .p w D1 fun(a3:Option Addr)=>
 U8 a3 w fun(x:Option Nat) w=>
 NN p fun(JJ:Addr)=>
 Ld .p w JJ fun(a4:Option Addr)=>
 U8 a4 w fun(y:Option Nat) w=>
 NN p fun(JK:Addr)=>
 Ld .p w (JK.add 1) fun(b2:Option Addr)=>
 WR b2 w fun(z:Sl) w=>
 NN p fun(JL:Addr)=>
 Ld .p w JL fun(a5:Option Addr)=>
 U9 a5 w fun(k:Sl) w=>
 NN p fun(N9:Addr)=>
 Ld .p w N9 fun(a6:Option Addr)=>
 U9 a6 w fun(l:Sl) w=>
 NN p fun(SA:Addr)=>
 Ld .p w SA fun(a7:Option Addr)=>
 LZ a7 w fun(m:Sl) w=>
 NN p fun(Ga:Addr)=>
 Ld .p w Ga fun(a8:Option Addr)=>
 LZ a8 w fun(n_:Sl) w=>
 NN p fun(Gb:Addr)=>
 Ld .p w (Gb.add 1) fun(b3:Option Addr)=>
 WS b3 w fun(r2:Sl) w=>
 Bh w ⟨r2.a,r2.len,r2.cap⟩ fun(o:ByteArray)=>
 Sk r t w fun(one:Bool) w=>
 Va x z w fun(two:Bool) w=>
 NN p fun(Gc:Addr)=>
 Ld .sl w (Gc.add 2) fun(kinds:Sl)=>
 Rk k kinds w fun(three:Bool) w=>
 ∃J_:World->Prop,(if (!one)=true then (R false w) else (if (!two)=true then (R false w) else (if (!three)=true then (R false w) else (Bh w ⟨m.a,m.len,m.cap⟩ fun(x2:ByteArray)=>
 if (!(x2.toList ==o.toList))=true then (R false w) else (J_ w))))) /\ ∀w:World,J_ w->(NN p fun(Ge:Addr)=>
 Vb (some (Ge.add 6)) r w fun w=>
 NN p fun(Gf:Addr)=>
 Vc (some (Gf.add 6)) w fun w=>
 ∃lv:World->Prop,(if (!x.isNone)=true then (sN Tryz.prog (Instr.mapUpdate 99 (.map x) (.int .i64 (-1)) (.int .i64 7)) w fun w=>
 sN Tryz.prog (Instr.mapUpdate 99 (.map x) (.int .i64 2) (.int .i64 1000)) w fun w=>
 lv w) else (lv w)) /\ ∀w:World,lv w->(∃ak:Int->Nat->World->Prop,(∃n:Nat,ak 0 n w) /\ ∀i:Int,∀m2:Nat,∀w:World,ak i m2 w->(if (decide (i < (k.len:Int)))=true then (Ix k.a k.len i 2 fun(a9:Addr)=>
 Ld .sl w (a9.add 1) fun(cn:Sl)=>
 ∃aS:Int->Nat->World->Prop,(∃n:Nat,aS 0 n w) /\ ∀j:Int,∀m4:Nat,∀w:World,aS j m4 w->(if (decide (j < (cn.len:Int)))=true then (Ix cn.a cn.len j 1 fun(L0:Addr)=>
 St L0 (.string (⟨#[111,118,101,114]⟩:ByteArray)) w fun w=>
 ∃m5:Nat,m5 < m4 /\ aS (IntKind.i64.wrap (j+1)) m5 w) else (Nw (.cells #[.string (⟨#[111,118,101,114]⟩:ByteArray),.string (⟨#[111,118,101,114]⟩:ByteArray),.string (⟨#[111,118,101,114]⟩:ByteArray),.string (⟨#[111,118,101,114]⟩:ByteArray),.string (⟨#[111,118,101,114]⟩:ByteArray)] 9) w fun(b4:Addr) w=>
 bZ .sl Tryz.prog (Builtin.append_ #[45,45] 45 #[.slice cn.a cn.len cn.cap,.slice (some b4) 5 5]) w fun(f:Sl) w=>
 Ix k.a k.len i 2 fun(L1:Addr)=>
 St L1 (.string (⟨#[111,118,101,114]⟩:ByteArray)) w fun w=>
 St (L1.add 1) (.slice f.a f.len f.cap) w fun w=>
 ∃m3:Nat,m3 < m2 /\ ak (IntKind.i64.wrap (i+1)) m3 w))) else (Nw (.cells #[.string (⟨#[111,118,101,114]⟩:ByteArray),.slice none 0 0,.string (⟨#[111,118,101,114]⟩:ByteArray),.slice none 0 0] 107) w fun(b5:Addr) w=>
 bZ .sl Tryz.prog (Builtin.append_ #[22,22] 22 #[.slice k.a k.len k.cap,.slice (some b5) 2 2]) w fun(k2:Sl) w=>
 ∃dD:Int->Nat->World->Prop,(∃n:Nat,dD 0 n w) /\ ∀i2:Int,∀m6:Nat,∀w:World,dD i2 m6 w->(if (decide (i2 < (m.len:Int)))=true then (Ix m.a m.len i2 1 fun(Vo:Addr)=>
 St Vo (.int .u8 201) w fun w=>
 ∃m7:Nat,m7 < m6 /\ dD (IntKind.i64.wrap (i2+1)) m7 w) else (∃uq:Sl->Int->Nat->World->Prop,(∃n:Nat,uq m 0 n w) /\ ∀m9:Sl,∀i3:Int,∀m8:Nat,∀w:World,uq m9 i3 m8 w->(if (decide (i3 < 70))=true then (Nw (.cells #[.int .u8 201] 5) w fun(b6:Addr) w=>
 bZ .sl Tryz.prog (Builtin.append_ #[23,23] 23 #[.slice m9.a m9.len m9.cap,.slice (some b6) 1 1]) w fun(SB:Sl) w=>
 ∃SC:Nat,SC < m8 /\ uq SB (IntKind.i64.wrap (i3+1)) SC w) else (Sk s t w fun(W9:Bool) w=>
 Va y z w fun(Xa:Bool) w=>
 NN p fun(Xb:Addr)=>
 Ld .sl w (Xb.add 2) fun(yl:Sl)=>
 Rk l yl w fun(Oa:Bool) w=>
 NN p fun(Xc:Addr)=>
 Vb (some (Xc.add 6)) s w fun w=>
 NN p fun(Xd:Addr)=>
 Vc (some (Xd.add 6)) w fun w=>
 ∃A5:World->Prop,(if (!y.isNone)=true then (sN Tryz.prog (Instr.mapUpdate 99 (.map y) (.int .i64 (-2)) (.int .i64 8)) w fun w=>
 A5 w) else (A5 w)) /\ ∀w:World,A5 w->(if W9=true then (if Xa=true then (if Oa=true then (Bh w ⟨n_.a,n_.len,n_.cap⟩ fun(x3:ByteArray)=>
 if (x3.toList ==o.toList)=true then (NN p fun(Xe:Addr)=>
 Ld .sl w (Xe.add 2) fun(Oc:Sl)=>
 R ((k2.len:Int) ==(IntKind.i64.wrap ((Oc.len:Int)+2))) w) else (R false w)) else (R false w)) else (R false w)) else (R false w))))))))))
theorem Od {p w R} (h:f12 p w R):Sj p w R:=
  ag (H:=⟨[(23,⟨[(17,.i .i64)],[0,4,5,7,8,9,10,11,12,13]⟩),(27,⟨[(19,.i .i64)],[0,4,5,7,8,9,10,11,12,13,17,18]⟩),(34,⟨[(20,.i .i64)],[0,4,5,7,8,9,10,11,12,13]⟩),(38,⟨[(11,.sl),(21,.i .i64)],[0,4,5,7,8,9,10,12,13]⟩)],[(17,⟨[],[0,3,4,5,6,7,8,9,10,11,12,13]⟩),(22,⟨[],[0,4,5,7,8,9,10,11,12,13]⟩),(48,⟨[],[0,9,12,13,14,15,16]⟩)]⟩) ct Tryz.func12 (cast (by kernel_rfl) h)
def f13 (kinds:Sl) (w:World) (R:Option Addr->Int->World->Prop):Prop:=
 Vd kinds w fun(r:Bool) w=>
 if (!r)=true then (R none 65 w) else (Rl 200 w fun(p:Option Addr) (e:Int) w=>
 if (e !=0)=true then (R none e w) else (Sm kinds w fun(r2:Sl) w=>
 Nw (.map #[] 0) w fun(m:Addr) w=>
 Nw (.map #[] 0) w fun(m2:Addr) w=>
 Nw (.cells #[.slice r2.a r2.len r2.cap,.pointer p,.map (some m.block),.map (some m2.block)] 91) w fun(a:Addr) w=>
 R (some a) 0 w))
theorem Gg {kinds w R} (h:f13 kinds w R):Nr kinds w R:=
  ag (H:=⟨[],[]⟩) ct Tryz.func13 (cast (by kernel_rfl) h)
def f14 (w:World) (R:Sl->World->Prop):Prop:=
 Nw (.cells #[.string (⟨#[120]⟩:ByteArray),.string (⟨#[121]⟩:ByteArray)] 9) w fun(b:Addr) w=>
 Nw (.cells #[.string (⟨#[120]⟩:ByteArray)] 9) w fun(b2:Addr) w=>
 Nw (.cells #[.string (⟨#[97]⟩:ByteArray),.string (⟨#[98]⟩:ByteArray),.string (⟨#[99]⟩:ByteArray),.string (⟨#[100]⟩:ByteArray)] 9) w fun(b3:Addr) w=>
 Nw (.cells #[.string (⟨#[80,111,115]⟩:ByteArray),.slice (some b) 2 2,.string (⟨#[86,101,108]⟩:ByteArray),.slice (some b2) 1 1,.string (⟨#[68,101,97,100]⟩:ByteArray),.slice none 0 0,.string (⟨#[66,111,120]⟩:ByteArray),.slice (some b3) 4 4] 107) w fun(b4:Addr) w=>
 R ⟨some b4,4,4⟩ w
theorem Oe {w R} (h:f14 w R):WC w R:=
  ag (H:=⟨[],[]⟩) ct Tryz.func14 (cast (by kernel_rfl) h)
def f15 (w_:Option Addr) (parts:Sl) (w:World) (R:Int->Int->Int->World->Prop):Prop:=
 Nw (.cells #[.int .i64 0,.int .i64 0] 33) w fun(a:Addr) w=>
 ∃ak:Int->Sl->Int->Nat->World->Prop,(∃n:Nat,ak 0 ⟨none,0,0⟩ 0 n w) /\ ∀set:Int,∀values:Sl,∀t16:Int,∀m:Nat,∀w:World,ak set values t16 m w->(if (decide (t16 < (parts.len:Int)))=true then (Ix parts.a parts.len t16 2 fun(a2:Addr)=>
 Ld (.i .i64) w a2 fun(eG:Int)=>Ld .sl w (a2.add 1) fun(bf:Sl)=>
 Nw (.cells #[.int .i64 0,.slice none 0 0] 36) w fun(p:Addr) w=>
 St p (.int .i64 eG) w fun w=>
 St (p.add 1) (.slice bf.a bf.len bf.cap) w fun w=>
 Ld (.i .i64) w p fun(Kind:Int)=>
 Sn w_ Kind w fun(n_:Int) (ok:Bool) w=>
 if (!ok)=true then (St a (.int .i64 0) w fun w=>
 St (a.add 1) (.int .i64 0) w fun w=>
 Ld (.i .i64) w a fun(dc:Int)=>Ld (.i .i64) w (a.add 1) fun(fV:Int)=>
 R dc fV 60 w) else (Ld (.i .i64) w p fun(kT:Int)=>
 (0:Int)<=kT /\ (if ((IntKind.i64.wrap ((BitVec.ofInt 64 (Int.fdiv set (2 ^ (min (Int.toNat kT) 64))) &&& BitVec.ofInt 64 1).toNat:Nat)) ==1)=true then (St a (.int .i64 0) w fun w=>
 St (a.add 1) (.int .i64 0) w fun w=>
 Ld (.i .i64) w a fun(eu:Int)=>Ld (.i .i64) w (a.add 1) fun(gZ:Int)=>
 R eu gZ 61 w) else (Ld .sl w (p.add 1) fun(cQ:Sl)=>
 if ((cQ.len:Int) !=n_)=true then (St a (.int .i64 0) w fun w=>
 St (a.add 1) (.int .i64 0) w fun w=>
 Ld (.i .i64) w a fun(gy:Int)=>Ld (.i .i64) w (a.add 1) fun(lL:Int)=>
 R gy lL 63 w) else (Dr w fun w=>
 Ld (.i .i64) w p fun(pO:Int)=>
 Ld .sl w (p.add 1) fun(dq:Sl)=>
 Ns w_ set pO w fun(r:Int) w=>
 w.cell? (p.add 1)=some (.slice dq.a dq.len dq.cap) /\ (Rm values r dq w fun(tl:Sl) w=>
 Ld (.i .i64) w p fun(L5:Int)=>
 (0:Int)<=L5 /\ (∃m2:Nat,m2 < m /\ ak (IntKind.i64.wrap ((BitVec.ofInt 64 set ||| BitVec.ofInt 64 (IntKind.i64.wrap (1*2 ^ (min (Int.toNat L5) 64)))).toNat:Nat)) tl (IntKind.i64.wrap (t16+1)) m2 w))))))) else (NN w_ fun(iY:Addr)=>
 Ld .p w (iY.add 1) fun(au:Option Addr)=>
 Rn au w fun(al aC bad:Int) w=>
 Nw (.cells #[.int .i64 0,.int .i64 0] 33) w fun(e:Addr) w=>
 St e (.int .i64 al) w fun w=>
 St (e.add 1) (.int .i64 aC) w fun w=>
 if (bad !=0)=true then (St a (.int .i64 0) w fun w=>
 St (a.add 1) (.int .i64 0) w fun w=>
 Ld (.i .i64) w a fun(ur:Int)=>Ld (.i .i64) w (a.add 1) fun(BF:Int)=>
 R ur BF bad w) else (Ld (.i .i64) w e fun(aN:Int)=>Ld (.i .i64) w (e.add 1) fun(bQ:Int)=>
 Ro w_ aN bQ set values w fun w=>
 Ld (.i .i64) w e fun(cg:Int)=>Ld (.i .i64) w (e.add 1) fun(dK:Int)=>
 St a (.int .i64 cg) w fun w=>
 St (a.add 1) (.int .i64 dK) w fun w=>
 Ld (.i .i64) w a fun(uu:Int)=>Ld (.i .i64) w (a.add 1) fun(BG:Int)=>
 R uu BG 0 w)))
theorem Gh {w_ parts w R} (h:f15 w_ parts w R):Ri w_ parts w R:=
  ag (H:=⟨[(4,⟨[(6,.i .i64),(7,.sl),(16,.i .i64)],[0,4,14,15]⟩)],[]⟩) ct Tryz.func15 (cast (by kernel_rfl) h)
def f16 (w_:Option Addr) (al aC eG:Int) (bf:Sl) (w:World) (R:Int->World->Prop):Prop:=
 Nw (.cells #[.int .i64 al,.int .i64 aC] 33) w fun(e:Addr) w=>
 Nw (.cells #[.int .i64 eG,.slice bf.a bf.len bf.cap] 36) w fun(p:Addr) w=>
 Ld (.i .i64) w e fun(aN:Int)=>Ld (.i .i64) w (e.add 1) fun(bQ:Int)=>
 Ld (.i .i64) w p fun(Kind:Int)=>
 Ve w_ aN bQ Kind w fun(set:Int) (has:Bool) (n_ bad:Int) w=>
 if (bad !=0)=true then (R bad w) else (if has=true then (R 61 w) else (Ld .sl w (p.add 1) fun(cQ:Sl)=>
 if ((cQ.len:Int) !=n_)=true then (R 63 w) else (Dr w fun w=>
 Ld (.i .i64) w e fun(cg:Int)=>Ld (.i .i64) w (e.add 1) fun(dK:Int)=>
 Ld (.i .i64) w p fun(kT:Int)=>
 Ld .sl w (p.add 1) fun(dq:Sl)=>
 So w_ cg dK w fun(r:Sl) w=>
 w.cell? (p.add 1)=some (.slice dq.a dq.len dq.cap) /\ w.cell? p=some (.int .i64 kT) /\ (Ns w_ set kT w fun(r2:Int) w=>
 w.cell? (p.add 1)=some (.slice dq.a dq.len dq.cap) /\ (Rm r r2 dq w fun(values:Sl) w=>
 Dr w fun w=>
 Ld (.i .i64) w e fun(jx:Int)=>Ld (.i .i64) w (e.add 1) fun(oQ:Int)=>
 Ld (.i .i64) w p fun(pO:Int)=>
 (0:Int)<=pO /\ (Ro w_ jx oQ (IntKind.i64.wrap ((BitVec.ofInt 64 set ||| BitVec.ofInt 64 (IntKind.i64.wrap (1*2 ^ (min (Int.toNat pO) 64)))).toNat:Nat)) values w fun w=>
 R 0 w))))))
theorem Of {w_ al aC eG bf w R} (h:f16 w_ al aC eG bf w R):U2 w_ al aC eG bf w R:=
  ag (H:=⟨[],[]⟩) ct Tryz.func16 (cast (by kernel_rfl) h)
def f17 (w_:Option Addr) (al aC:Int) (w:World) (R:Int->World->Prop):Prop:=
 Nw (.cells #[.int .i64 al,.int .i64 aC] 33) w fun(e:Addr) w=>
 Dr w fun w=>
 NN w_ fun(iY:Addr)=>
 Ld .p w (iY.add 1) fun(au:Option Addr)=>
 Ld (.i .i64) w e fun(aN:Int)=>Ld (.i .i64) w (e.add 1) fun(bQ:Int)=>
 Vf au aN bQ w fun(bad:Int) w=>
 if (bad !=0)=true then (R bad w) else (Ld (.i .i64) w e fun(cg:Int)=>Ld (.i .i64) w (e.add 1) fun(dK:Int)=>
 So w_ cg dK w fun(r:Sl) w=>
 R 0 w)
theorem Og {w_ al aC w R} (h:f17 w_ al aC w R):U3 w_ al aC w R:=
  ag (H:=⟨[],[]⟩) ct Tryz.func17 (cast (by kernel_rfl) h)
def f18 (l:Sl) (w:World) (R:Sl->World->Prop):Prop:=
 ∃ak:Sl->Int->Nat->World->Prop,(∃n:Nat,ak ⟨none,0,0⟩ 0 n w) /\ ∀out:Sl,∀i:Int,∀m:Nat,∀w:World,ak out i m w->(if (decide (i < (l.len:Int)))=true then (Ix l.a l.len i 2 fun(a:Addr)=>
 Ld .sl w (a.add 1) fun(cn:Sl)=>
 bZ .sl Tryz.prog (Builtin.append_ #[45,45] 45 #[.slice none 0 0,.slice cn.a cn.len cn.cap]) w fun(f:Sl) w=>
 Nw (.cells #[.string (⟨#[98,101,104,105,110,100]⟩:ByteArray),.string (⟨#[98,101,104,105,110,100]⟩:ByteArray)] 9) w fun(b:Addr) w=>
 bZ .sl Tryz.prog (Builtin.append_ #[45,45] 45 #[.slice f.a f.len f.cap,.slice (some b) 2 2]) w fun(f2:Sl) w=>
 Dr w fun w=>
 Ix l.a l.len i 2 fun(a2:Addr)=>
 Ld .s w a2 fun(Name:ByteArray)=>
 Ix l.a l.len i 2 fun(a3:Addr)=>
 Ld .sl w (a3.add 1) fun(fu:Sl)=>
 Cut ⟨f2.a,f2.len,f2.cap⟩ 0 (fu.len:Int) (f2.cap:Int) 1 fun(s:Sl)=>
 Nw (.cells #[.string Name,.slice s.a s.len s.cap] 107) w fun(b2:Addr) w=>
 bZ .sl Tryz.prog (Builtin.append_ #[22,22] 22 #[.slice out.a out.len out.cap,.slice (some b2) 1 1]) w fun(bH:Sl) w=>
 ∃m2:Nat,m2 < m /\ ak bH (IntKind.i64.wrap (i+1)) m2 w) else (Nw (.cells #[.string (⟨#[98,101,104,105,110,100]⟩:ByteArray),.slice none 0 0,.string (⟨#[98,101,104,105,110,100]⟩:ByteArray),.slice none 0 0] 107) w fun(b3:Addr) w=>
 bZ .sl Tryz.prog (Builtin.append_ #[22,22] 22 #[.slice out.a out.len out.cap,.slice (some b3) 2 2]) w fun(fa:Sl) w=>
 Cut ⟨fa.a,fa.len,fa.cap⟩ 0 (l.len:Int) (fa.cap:Int) 2 fun(s2:Sl)=>
 R s2 w))
theorem Oh {l w R} (h:f18 l w R):WD l w R:=
  ag (H:=⟨[(3,⟨[(3,.sl),(4,.i .i64)],[0]⟩)],[]⟩) ct Tryz.func18 (cast (by kernel_rfl) h)
def f19 (kinds b:Sl) (w:World) (R:Option Addr->Int->World->Prop):Prop:=
 Nr kinds w fun(w_:Option Addr) (e:Int) w=>
 if (e !=0)=true then (R none e w) else (Vg b w fun(ah b2:Sl) (one:Bool) w=>
 Vg b2 w fun(free b3:Sl) (two:Bool) w=>
 if (cond (!one) true (!two))=true then (R none 64 w) else (Vh 200 ah free w fun(r:Option Addr) (e2:Int) w=>
 NN w_ fun(iY:Addr)=>
 St (iY.add 1) (.pointer r) w fun w=>
 if (e2 !=0)=true then (R none 64 w) else (NN w_ fun(oP:Addr)=>
 Ld .p w (oP.add 1) fun(au:Option Addr)=>
 Sp au w fun(r2:Sl) w=>
 ∃ak:Sl->Int->Nat->World->Prop,(∃n:Nat,ak b3 0 n w) /\ ∀b4:Sl,∀t62:Int,∀m:Nat,∀w:World,ak b4 t62 m w->(if (decide (t62 < (r2.len:Int)))=true then (Ix r2.a r2.len t62 2 fun(a:Addr)=>
 Ld (.i .i64) w a fun(iZ:Int)=>Ld (.i .i64) w (a.add 1) fun(pP:Int)=>
 Nw (.cells #[.int .i64 0,.int .i64 0] 33) w fun(x:Addr) w=>
 St x (.int .i64 iZ) w fun w=>
 St (x.add 1) (.int .i64 pP) w fun w=>
 Sq b4 w fun(set n_:Int) w=>
 ∃J_:World->Prop,(if (n_ ==0)=true then (R none 64 w) else (if ((IntKind.u64.wrap ((BitVec.ofInt 64 set &&& BitVec.ofInt 64 1).toNat:Nat)) ==1)=true then (R none 64 w) else ((0:Int)<=(IntKind.i64.wrap ((kinds.len:Int)+1)) /\ (if ((Int.fdiv set (2 ^ (min (Int.toNat (IntKind.i64.wrap ((kinds.len:Int)+1))) 64))) !=0)=true then (R none 64 w) else (J_ w))))) /\ ∀w:World,J_ w->(Cut ⟨b4.a,b4.len,b4.cap⟩ n_ (b4.len:Int) (b4.cap:Int) 1 fun(b5:Sl)=>
 Ns w_ (IntKind.i64.wrap set) (IntKind.i64.wrap ((kinds.len:Int)+1)) w fun(r3:Int) w=>
 ∃aS:Sl->Sl->Int->Nat->World->Prop,(∃n:Nat,aS b5 ⟨none,0,0⟩ 0 n w) /\ ∀b6:Sl,∀values:Sl,∀t96:Int,∀m3:Nat,∀w:World,aS b6 values t96 m3 w->(if (decide (t96 < r3))=true then (WT b6 w fun(v qT:Int) w=>
 if (qT ==0)=true then (R none 64 w) else (Dr w fun w=>
 Cut ⟨b6.a,b6.len,b6.cap⟩ qT (b6.len:Int) (b6.cap:Int) 1 fun(b7:Sl)=>
 Nw (.cells #[.int .i64 v] 2) w fun(b8:Addr) w=>
 bZ .sl Tryz.prog (Builtin.append_ #[34,34] 34 #[.slice values.a values.len values.cap,.slice (some b8) 1 1]) w fun(tl:Sl) w=>
 ∃m4:Nat,m4 < m3 /\ aS b7 tl (IntKind.i64.wrap (t96+1)) m4 w)) else (Ld (.i .i64) w x fun(mN:Int)=>Ld (.i .i64) w (x.add 1) fun(uv:Int)=>
 Ro w_ mN uv (IntKind.i64.wrap set) values w fun w=>
 ∃m2:Nat,m2 < m /\ ak b6 (IntKind.i64.wrap (t62+1)) m2 w)))) else (if (decide ((b4.len:Int) > 0))=true then (R none 64 w) else (R w_ 0 w))))))
theorem Oi {kinds b w R} (h:f19 kinds b w R):WE kinds b w R:=
  ag (H:=⟨[(12,⟨[(1,.sl),(62,.i .i64)],[0,6,60,61]⟩),(20,⟨[(1,.sl),(16,.sl),(96,.i .i64)],[0,6,13,14,60,61,62,95]⟩)],[(17,⟨[],[0,1,6,13,14,15,60,61,62]⟩)]⟩) ct Tryz.func19 (cast (by kernel_rfl) h)
def f20 (l dG:Sl) (w:World) (R:Bool->World->Prop):Prop:=
 Rk l dG w fun(ok:Bool) w=>
 Cut ⟨l.a,l.len,l.cap⟩ 0 (IntKind.i64.wrap ((dG.len:Int)+2)) (l.cap:Int) 2 fun(all:Sl)=>
 ∃ak:Bool->Int->Nat->World->Prop,(∃n:Nat,ak ok 0 n w) /\ ∀IX:Bool,∀i:Int,∀m:Nat,∀w:World,ak IX i m w->(if (decide (i < (all.len:Int)))=true then (if (decide (i>=(dG.len:Int)))=true then (if IX=true then (Ix all.a all.len i 2 fun(a:Addr)=>
 Ld .s w a fun(Name:ByteArray)=>
 ∃m2:Nat,m2 < m /\ ak (Name.toList ==(⟨#[98,101,104,105,110,100]⟩:ByteArray).toList) (IntKind.i64.wrap (i+1)) m2 w) else (∃m2:Nat,m2 < m /\ ak false (IntKind.i64.wrap (i+1)) m2 w)) else (Dr w fun w=>
 Ix all.a all.len i 2 fun(a2:Addr)=>
 Ld .sl w (a2.add 1) fun(cn:Sl)=>
 Ix dG.a dG.len i 2 fun(a3:Addr)=>
 Ld .sl w (a3.add 1) fun(fu:Sl)=>
 if (decide ((cn.cap:Int) < (IntKind.i64.wrap ((fu.len:Int)+2))))=true then (R false w) else (Dr w fun w=>
 Ix all.a all.len i 2 fun(a4:Addr)=>
 Ld .sl w (a4.add 1) fun(nM:Sl)=>
 Ix dG.a dG.len i 2 fun(a5:Addr)=>
 Ld .sl w (a5.add 1) fun(tm:Sl)=>
 Cut ⟨nM.a,nM.len,nM.cap⟩ 0 (IntKind.i64.wrap ((tm.len:Int)+2)) (nM.cap:Int) 1 fun(f:Sl)=>
 ∃J_:Bool->World->Prop,(if IX=true then (Ix dG.a dG.len i 2 fun(a6:Addr)=>
 Ld .sl w (a6.add 1) fun(tp:Sl)=>
 Ix f.a f.len (tp.len:Int) 1 fun(a7:Addr)=>
 Ld .s w a7 fun(x:ByteArray)=>
 if (x.toList ==(⟨#[98,101,104,105,110,100]⟩:ByteArray).toList)=true then (Ix dG.a dG.len i 2 fun(a8:Addr)=>
 Ld .sl w (a8.add 1) fun(JM:Sl)=>
 Ix f.a f.len (IntKind.i64.wrap ((JM.len:Int)+1)) 1 fun(a9:Addr)=>
 Ld .s w a9 fun(x2:ByteArray)=>
 J_ (x2.toList ==(⟨#[98,101,104,105,110,100]⟩:ByteArray).toList) w) else (J_ false w)) else (J_ false w)) /\ ∀Xf:Bool,∀w:World,J_ Xf w->(∃aS:Int->Nat->World->Prop,(∃n:Nat,aS 0 n w) /\ ∀k:Int,∀m3:Nat,∀w:World,aS k m3 w->(if (decide (k < (f.len:Int)))=true then (Ix f.a f.len k 1 fun(L0:Addr)=>
 St L0 (.string (⟨#[79,118,101,114]⟩:ByteArray)) w fun w=>
 ∃m4:Nat,m4 < m3 /\ aS (IntKind.i64.wrap (k+1)) m4 w) else (Ix all.a all.len i 2 fun(L1:Addr)=>
 St L1 (.string (⟨#[79,118,101,114]⟩:ByteArray)) w fun w=>
 St (L1.add 1) (.slice none 0 0) w fun w=>
 ∃m2:Nat,m2 < m /\ ak Xf (IntKind.i64.wrap (i+1)) m2 w)))))) else (R IX w))
theorem Oj {l dG w R} (h:f20 l dG w R):WG l dG w R:=
  ag (H:=⟨[(4,⟨[(5,.b),(7,.i .i64)],[1,6]⟩),(13,⟨[(9,.i .i64)],[1,5,6,7,8]⟩)],[(12,⟨[(5,.b)],[1,6,7,8]⟩)]⟩) ct Tryz.func20 (cast (by kernel_rfl) h)
def f21 (kinds b:Sl) (w:World) (R:Option Addr->Int->World->Prop):Prop:=
 WU kinds w fun(Om:Bool) w=>
 if (!Om)=true then (R none 65 w) else (WV kinds b w fun(w_:Option Addr) (at_:Int) w=>
 if (at_ ==0)=true then (R none 64 w) else (∃ak:Int->Int->Nat->World->Prop,(∃n:Nat,ak at_ 0 n w) /\ ∀v8:Int,∀i:Int,∀m:Nat,∀w:World,ak v8 i m w->(NN w_ fun(iY:Addr)=>
 Ld .sl w (iY.add 2) fun(L:Sl)=>
 if (decide (i < (L.len:Int)))=true then (Cut ⟨b.a,b.len,b.cap⟩ v8 (b.len:Int) (b.cap:Int) 1 fun(s:Sl)=>
 Nt s w fun(set n_:Int) w=>
 ∃J_:World->Prop,(if (n_ ==0)=true then (R none 64 w) else ((2:Int)≠0 /\ (if ((Int.tmod set 2) ==1)=true then (R none 64 w) else ((0:Int)<=(IntKind.i64.wrap ((kinds.len:Int)+1)) /\ (if (decide (set>=(IntKind.u64.wrap (1*2 ^ (min (Int.toNat (IntKind.i64.wrap ((kinds.len:Int)+1))) 64)))))=true then (R none 64 w) else (J_ w)))))) /\ ∀w:World,J_ w->(∃aS:Int->Int->Nat->World->Prop,(∃n:Nat,aS (IntKind.i64.wrap (v8+n_)) 1 n w) /\ ∀uw:Int,∀k:Int,∀m3:Nat,∀w:World,aS uw k m3 w->(if (decide (k<=(kinds.len:Int)))=true then ((0:Int)<=k /\ (if ((IntKind.u64.wrap ((BitVec.ofInt 64 (Int.fdiv set (2 ^ (min (Int.toNat k) 64))) &&& BitVec.ofInt 64 1).toNat:Nat)) ==0)=true then (∃m4:Nat,m4 < m3 /\ aS uw (IntKind.i64.wrap (k+1)) m4 w) else (Nw (.cells #[.int .i64 0,.slice none 0 0] 36) w fun(p:Addr) w=>
 St p (.int .i64 k) w fun w=>
 St (p.add 1) (.slice none 0 0) w fun w=>
 ∃dD:Int->Int->Nat->World->Prop,(∃n:Nat,dD uw 0 n w) /\ ∀BH:Int,∀j:Int,∀m5:Nat,∀w:World,dD BH j m5 w->(Ix kinds.a kinds.len (IntKind.i64.wrap (k - 1)) 2 fun(a:Addr)=>
 Ld .sl w (a.add 1) fun(cn:Sl)=>
 if (decide (j < (cn.len:Int)))=true then (Cut ⟨b.a,b.len,b.cap⟩ BH (b.len:Int) (b.cap:Int) 1 fun(s2:Sl)=>
 Vi s2 w fun(x qT:Int) w=>
 if (qT ==0)=true then (R none 64 w) else (Ld .sl w (p.add 1) fun(cQ:Sl)=>
 Nw (.cells #[.int .i64 x] 2) w fun(b2:Addr) w=>
 bZ .sl Tryz.prog (Builtin.append_ #[34,34] 34 #[.slice cQ.a cQ.len cQ.cap,.slice (some b2) 1 1]) w fun(s3:Sl) w=>
 St (p.add 1) (.slice s3.a s3.len s3.cap) w fun w=>
 ∃m6:Nat,m6 < m5 /\ dD (IntKind.i64.wrap (BH+qT)) (IntKind.i64.wrap (j+1)) m6 w)) else (Dr w fun w=>
 NN w_ fun(oP:Addr)=>
 Ld .sl w (oP.add 2) fun(L2:Sl)=>
 NN w_ fun(Gi:Addr)=>
 Ld .sl w (Gi.add 2) fun(L3:Sl)=>
 Ix L3.a L3.len i 3 fun(a2:Addr)=>
 Ld .sl w (a2.add 2) fun(dP:Sl)=>
 Ld (.i .i64) w p fun(eG:Int)=>Ld .sl w (p.add 1) fun(bf:Sl)=>
 Nw (.cells #[.int .i64 eG,.slice bf.a bf.len bf.cap] 36) w fun(b3:Addr) w=>
 bZ .sl Tryz.prog (Builtin.append_ #[37,37] 37 #[.slice dP.a dP.len dP.cap,.slice (some b3) 1 1]) w fun(s4:Sl) w=>
 w.cell? (oP.add 2)=some (.slice L2.a L2.len L2.cap) /\ (Ix L2.a L2.len i 3 fun(a3:Addr)=>
 St (a3.add 2) (.slice s4.a s4.len s4.cap) w fun w=>
 ∃m4:Nat,m4 < m3 /\ aS BH (IntKind.i64.wrap (k+1)) m4 w)))))) else (∃m2:Nat,m2 < m /\ ak uw (IntKind.i64.wrap (i+1)) m2 w)))) else (if (v8 !=(b.len:Int))=true then (R none 64 w) else (R w_ 0 w)))))
theorem Oo {kinds b w R} (h:f21 kinds b w R):WI kinds b w R:=
  ag (H:=⟨[(8,⟨[(8,.i .i64),(9,.i .i64)],[0,1,7]⟩),(15,⟨[(8,.i .i64),(12,.i .i64)],[0,1,7,9,10]⟩),(20,⟨[(8,.i .i64),(14,.i .i64)],[0,1,7,9,10,12,13]⟩)],[(13,⟨[],[0,1,7,8,9,10,11]⟩)]⟩) ct Tryz.func21 (cast (by kernel_rfl) h)
def f22 (w_:Option Addr) (al aC:Int) (w:World) (R:Int->World->Prop):Prop:=
 Nw (.cells #[.int .i64 al,.int .i64 aC] 33) w fun(e:Addr) w=>
 Ld (.i .i64) w e fun(aN:Int)=>Ld (.i .i64) w (e.add 1) fun(bQ:Int)=>
 WW w_ aN bQ w fun(i:Int) w=>
 if (decide (i < 0))=true then (R 41 w) else (Dr w fun w=>
 NN w_ fun(iY:Addr)=>
 Ld .p w (iY.add 1) fun(Gj:Option Addr)=>
 Ld (.i .i64) w e fun(cg:Int)=>Ld (.i .i64) w (e.add 1) fun(dK:Int)=>
 WX Gj cg dK w fun(r:Int) w=>
 NN w_ fun(oP:Addr)=>
 Ld .sl w (oP.add 2) fun(L:Sl)=>
 Cut ⟨L.a,L.len,L.cap⟩ 0 i (L.cap:Int) 3 fun(s:Sl)=>
 bZ .sl Tryz.prog (Builtin.append_ #[71,71] 71 #[.slice none 0 0,.slice s.a s.len s.cap]) w fun(l:Sl) w=>
 NN w_ fun(Gi:Addr)=>
 Ld .sl w (Gi.add 2) fun(L2:Sl)=>
 Cut ⟨L2.a,L2.len,L2.cap⟩ (IntKind.i64.wrap (i+1)) (L2.len:Int) (L2.cap:Int) 3 fun(s2:Sl)=>
 bZ .sl Tryz.prog (Builtin.append_ #[71,71] 71 #[.slice l.a l.len l.cap,.slice s2.a s2.len s2.cap]) w fun(s3:Sl) w=>
 NN w_ fun(SD:Addr)=>
 St (SD.add 2) (.slice s3.a s3.len s3.cap) w fun w=>
 R 0 w)
theorem Oq {w_ al aC w R} (h:f22 w_ al aC w R):WJ w_ al aC w R:=
  ag (H:=⟨[],[]⟩) ct Tryz.func22 (cast (by kernel_rfl) h)
def f23 (p:Option Addr) (l dG:Sl) (w:World) (R:Bool->World->Prop):Prop:=
 NN p fun(p_:Addr)=>
 Ld .p w p_ fun(a:Option Addr)=>
 Ri a l w fun(al aC f:Int) w=>
 Nw (.cells #[.int .i64 0,.int .i64 0] 33) w fun(e:Addr) w=>
 St e (.int .i64 al) w fun w=>
 St (e.add 1) (.int .i64 aC) w fun w=>
 NN p fun(qS:Addr)=>
 Ld .p w (qS.add 1) fun(b:Option Addr)=>
 WY b dG w fun(JN SE h:Int) w=>
 Nw (.cells #[.int .i64 0,.int .i64 0] 33) w fun(g:Addr) w=>
 St g (.int .i64 JN) w fun w=>
 St (g.add 1) (.int .i64 SE) w fun w=>
 WZ l dG w fun(whole:Bool) w=>
 ∃J_:World->Prop,(if (f ==0)=true then (Dr w fun w=>
 NN p fun(sS:Addr)=>
 Ld .sl w (sS.add 3) fun(given:Sl)=>
 Ld (.i .i64) w e fun(aN:Int)=>Ld (.i .i64) w (e.add 1) fun(bQ:Int)=>
 Nw (.cells #[.int .i64 aN,.int .i64 bQ] 33) w fun(b2:Addr) w=>
 bZ .sl Tryz.prog (Builtin.append_ #[43,43] 43 #[.slice given.a given.len given.cap,.slice (some b2) 1 1]) w fun(s:Sl) w=>
 NN p fun(D1:Addr)=>
 St (D1.add 3) (.slice s.a s.len s.cap) w fun w=>
 J_ w) else (J_ w)) /\ ∀w:World,J_ w->(if whole=true then (Ld (.i .i64) w e fun(cg:Int)=>Ld (.i .i64) w (e.add 1) fun(dK:Int)=>
 Ld (.i .i64) w g fun(Gk:Int)=>Ld (.i .i64) w (g.add 1) fun(Ot:Int)=>
 hZ .b Tryz.prog (cl .eql 33 (.tmp 47) (.tmp 48) (.agg #[.int .i64 cg,.int .i64 dK]) (.agg #[.int .i64 Gk,.int .i64 Ot])) w fun(eq:Bool)=>
 if eq=true then (R (f ==h) w) else (R false w)) else (R false w))
theorem Ov {p l dG w R} (h:f23 p l dG w R):WK p l dG w R:=
  ag (H:=⟨[],[(6,⟨[],[7,8,9,10,11]⟩)]⟩) ct Tryz.func23 (cast (by kernel_rfl) h)
def f24 (l:Sl) (w:World) (R:Sl->World->Prop):Prop:=
 ∃ak:Sl->Int->Nat->World->Prop,(∃n:Nat,ak ⟨none,0,0⟩ 0 n w) /\ ∀out:Sl,∀i:Int,∀m:Nat,∀w:World,ak out i m w->(if (decide (i < (l.len:Int)))=true then (Dr w fun w=>
 Ix l.a l.len i 2 fun(a:Addr)=>
 Ld (.i .i64) w a fun(Kind:Int)=>
 Ix l.a l.len i 2 fun(a2:Addr)=>
 Ld .sl w (a2.add 1) fun(cQ:Sl)=>
 W0 cQ w fun(r:Sl) w=>
 w.cell? a=some (.int .i64 Kind) /\ (Nw (.cells #[.int .i64 Kind,.slice r.a r.len r.cap] 36) w fun(b:Addr) w=>
 bZ .sl Tryz.prog (Builtin.append_ #[37,37] 37 #[.slice out.a out.len out.cap,.slice (some b) 1 1]) w fun(bH:Sl) w=>
 ∃m2:Nat,m2 < m /\ ak bH (IntKind.i64.wrap (i+1)) m2 w)) else (∃aS:Sl->Int->Nat->World->Prop,(∃n:Nat,aS out 0 n w) /\ ∀fa:Sl,∀i2:Int,∀m3:Nat,∀w:World,aS fa i2 m3 w->(if (decide (i2 < 8))=true then (Nw (.cells #[.int .i64 77,.slice none 0 0] 36) w fun(b2:Addr) w=>
 bZ .sl Tryz.prog (Builtin.append_ #[37,37] 37 #[.slice fa.a fa.len fa.cap,.slice (some b2) 1 1]) w fun(oR:Sl) w=>
 ∃m4:Nat,m4 < m3 /\ aS oR (IntKind.i64.wrap (i2+1)) m4 w) else (Cut ⟨fa.a,fa.len,fa.cap⟩ 0 (l.len:Int) (fa.cap:Int) 2 fun(s:Sl)=>
 R s w))))
theorem Ow {l w R} (h:f24 l w R):WL l w R:=
  ag (H:=⟨[(3,⟨[(3,.sl),(4,.i .i64)],[0]⟩),(7,⟨[(3,.sl),(5,.i .i64)],[0]⟩)],[]⟩) ct Tryz.func24 (cast (by kernel_rfl) h)
def f27 (l:Sl) (w:World) (R:Sl->World->Prop):Prop:=
 ∃ak:Sl->Int->Nat->World->Prop,(∃n:Nat,ak ⟨none,0,0⟩ 0 n w) /\ ∀out:Sl,∀i:Int,∀m:Nat,∀w:World,ak out i m w->(if (decide (i < (l.len:Int)))=true then (Dr w fun w=>
 Ix l.a l.len i 2 fun(a:Addr)=>
 Ld (.i .i64) w a fun(Kind:Int)=>
 Ix l.a l.len i 2 fun(a2:Addr)=>
 Ld .sl w (a2.add 1) fun(cQ:Sl)=>
 Vk cQ w fun(r:Sl) w=>
 w.cell? a=some (.int .i64 Kind) /\ (Nw (.cells #[.int .i64 Kind,.slice r.a r.len r.cap] 36) w fun(b:Addr) w=>
 bZ .sl Tryz.prog (Builtin.append_ #[37,37] 37 #[.slice out.a out.len out.cap,.slice (some b) 1 1]) w fun(bH:Sl) w=>
 ∃m2:Nat,m2 < m /\ ak bH (IntKind.i64.wrap (i+1)) m2 w)) else (R out w))
theorem Ox {l w R} (h:f27 l w R):WN l w R:=
  ag (H:=⟨[(3,⟨[(3,.sl),(4,.i .i64)],[0]⟩)],[]⟩) ct Tryz.func27 (cast (by kernel_rfl) h)
def f36 (p:Option Addr) (w:World) (R:Sl->Sl->World->Prop):Prop:=
 NN p fun(p_:Addr)=>
 Ld .sl w (p_.add 1) fun(ah:Sl)=>
 Vl ah w fun(fW:Sl) w=>
 ∃ak:Int->Nat->World->Prop,(∃n:Nat,ak 0 n w) /\ ∀t13:Int,∀m:Nat,∀w:World,ak t13 m w->(if (decide (t13 < (fW.len:Int)))=true then (Ix fW.a fW.len t13 1 fun(a:Addr)=>
 Ld (.i .i64) w a fun(g:Int)=>
 ∃J_:Bool->World->Prop,(if (g ==1000000)=true then (NN p fun(qS:Addr)=>
 Ld .sl w (qS.add 2) fun(alive:Sl)=>
 Ix alive.a alive.len t13 1 fun(a2:Addr)=>
 Ld .b w a2 fun(x:Bool)=>
 J_ (!x) w) else (J_ false w)) /\ ∀t29:Bool,∀w:World,J_ t29 w->(if t29=true then (Ix fW.a fW.len t13 1 fun(a3:Addr)=>
 Ld (.i .i64) w a3 fun(x2:Int)=>
 Ix fW.a fW.len t13 1 fun(a4:Addr)=>
 St a4 (.int .i64 (IntKind.i64.wrap (x2+1))) w fun w=>
 ∃m2:Nat,m2 < m /\ ak (IntKind.i64.wrap (t13+1)) m2 w) else (∃m2:Nat,m2 < m /\ ak (IntKind.i64.wrap (t13+1)) m2 w))) else (NN p fun(sS:Addr)=>
 Ld .sl w (sS.add 3) fun(free:Sl)=>
 Vl free w fun(si:Sl) w=>
 R fW si w))
theorem Oy {p w R} (h:f36 p w R):U4 p w R:=
  ag (H:=⟨[(3,⟨[(13,.i .i64)],[0,2,11,12]⟩)],[(6,⟨[(29,.b)],[0,2,4,11,12,13]⟩)]⟩) ct Tryz.func36 (cast (by kernel_rfl) h)
def f37 (b l:Sl) (w:World) (R:Sl->World->Prop):Prop:=
 Vm b w fun(r:Sl) w=>
 Vn l w fun(r2:Sl) w=>
 bZ .sl Tryz.prog (Builtin.append_ #[23,23] 23 #[.slice r.a r.len r.cap,.slice r2.a r2.len r2.cap]) w fun(s:Sl) w=>
 R s w
theorem Oz {b l w R} (h:f37 b l w R):U5 b l w R:=
  ag (H:=⟨[],[]⟩) ct Tryz.func37 (cast (by kernel_rfl) h)
def f38 (l:Sl) (w:World) (R:Sl->World->Prop):Prop:=
 ∃ak:Sl->Int->Nat->World->Prop,(∃n:Nat,ak ⟨none,0,0⟩ 0 n w) /\ ∀out:Sl,∀t8:Int,∀m:Nat,∀w:World,ak out t8 m w->(if (decide (t8 < (l.len:Int)))=true then (Ix l.a l.len t8 1 fun(a:Addr)=>
 Ld (.i .i64) w a fun(n_:Int)=>
 Nw (.cells #[.int .i64 n_] 2) w fun(b:Addr) w=>
 bZ .sl Tryz.prog (Builtin.append_ #[34,34] 34 #[.slice out.a out.len out.cap,.slice (some b) 1 1]) w fun(bH:Sl) w=>
 ∃m2:Nat,m2 < m /\ ak bH (IntKind.i64.wrap (t8+1)) m2 w) else (R out w))
theorem OA {l w R} (h:f38 l w R):U6 l w R:=
  ag (H:=⟨[(3,⟨[(3,.sl),(8,.i .i64)],[6,7]⟩)],[]⟩) ct Tryz.func38 (cast (by kernel_rfl) h)
def f39 (w_:Option Addr) (w:World) (R:Sl->World->Prop):Prop:=
 NN w_ fun(iY:Addr)=>
 Ld .p w (iY.add 1) fun(au:Option Addr)=>
 Sp au w fun(r:Sl) w=>
 ∃ak:Sl->Int->Nat->World->Prop,(∃n:Nat,ak ⟨none,0,0⟩ 0 n w) /\ ∀out:Sl,∀t12:Int,∀m:Nat,∀w:World,ak out t12 m w->(if (decide (t12 < (r.len:Int)))=true then (Ix r.a r.len t12 2 fun(a:Addr)=>
 Ld (.i .i64) w a fun(al:Int)=>Ld (.i .i64) w (a.add 1) fun(aC:Int)=>
 Nw (.cells #[.int .i64 0,.int .i64 0] 33) w fun(e:Addr) w=>
 St e (.int .i64 al) w fun w=>
 St (e.add 1) (.int .i64 aC) w fun w=>
 Ld (.i .i64) w e fun(aN:Int)=>Ld (.i .i64) w (e.add 1) fun(bQ:Int)=>
 Nu w_ aN bQ w fun(dL fM:Int) (cH:Sl) w=>
 Nw (.cells #[.int .i64 dL,.int .i64 fM,.slice cH.a cH.len cH.cap] 75) w fun(b:Addr) w=>
 bZ .sl Tryz.prog (Builtin.append_ #[71,71] 71 #[.slice out.a out.len out.cap,.slice (some b) 1 1]) w fun(bH:Sl) w=>
 ∃m2:Nat,m2 < m /\ ak bH (IntKind.i64.wrap (t12+1)) m2 w) else (R out w))
theorem OB {w_ w R} (h:f39 w_ w R):Rj w_ w R:=
  ag (H:=⟨[(3,⟨[(3,.sl),(12,.i .i64)],[0,10,11]⟩)],[]⟩) ct Tryz.func39 (cast (by kernel_rfl) h)
def f40 (b:Sl) (n_:Int) (w:World) (R:Sl->World->Prop):Prop:=
 Vm b w fun(r:Sl) w=>
 yi r n_ w fun(r2:Sl) w=>
 R r2 w
theorem OC {b n_ w R} (h:f40 b n_ w R):U7 b n_ w R:=
  ag (H:=⟨[],[]⟩) ct Tryz.func40 (cast (by kernel_rfl) h)
def f41 (b:Sl) (n_:Int) (w:World) (R:Sl->World->Prop):Prop:=
 DW n_ w fun(r:Int) w=>
 U7 b r w fun(r2:Sl) w=>
 R r2 w
theorem OD {b n_ w R} (h:f41 b n_ w R):WO b n_ w R:=
  ag (H:=⟨[],[]⟩) ct Tryz.func41 (cast (by kernel_rfl) h)
def f42 (w_:Option Addr) (w:World) (R:Sl->World->Prop):Prop:=
 ∃ak:Sl->Int->Nat->World->Prop,(∃n:Nat,ak ⟨none,0,0⟩ 0 n w) /\ ∀out:Sl,∀i:Int,∀m:Nat,∀w:World,ak out i m w->(NN w_ fun(iY:Addr)=>
 Ld .sl w (iY.add 2) fun(L:Sl)=>
 if (decide (i < (L.len:Int)))=true then (Dr w fun w=>
 NN w_ fun(oP:Addr)=>
 Ld .sl w (oP.add 2) fun(L2:Sl)=>
 Ix L2.a L2.len i 3 fun(a:Addr)=>
 Ld (.i .i64) w a fun(hJ:Int)=>Ld (.i .i64) w (a.add 1) fun(ow:Int)=>
 NN w_ fun(Gi:Addr)=>
 Ld .sl w (Gi.add 2) fun(L3:Sl)=>
 Ix L3.a L3.len i 3 fun(a2:Addr)=>
 Ld .sl w (a2.add 2) fun(dP:Sl)=>
 WN dP w fun(r:Sl) w=>
 w.cell? a=some (.int .i64 hJ) /\ w.cell? (a.add 1)=some (.int .i64 ow) /\ w.cell? (oP.add 2)=some (.slice L2.a L2.len L2.cap) /\ (Nw (.cells #[.int .i64 hJ,.int .i64 ow,.slice r.a r.len r.cap] 75) w fun(b:Addr) w=>
 bZ .sl Tryz.prog (Builtin.append_ #[71,71] 71 #[.slice out.a out.len out.cap,.slice (some b) 1 1]) w fun(bH:Sl) w=>
 ∃m2:Nat,m2 < m /\ ak bH (IntKind.i64.wrap (i+1)) m2 w)) else (R out w))
theorem OE {w_ w R} (h:f42 w_ w R):WQ w_ w R:=
  ag (H:=⟨[(3,⟨[(3,.sl),(4,.i .i64)],[0]⟩)],[]⟩) ct Tryz.func42 (cast (by kernel_rfl) h)
def f43 (w_:Option Addr) (w:World) (R:Option Nat->World->Prop):Prop:=
 Nw (.map #[] 0) w fun(out:Addr) w=>
 NN w_ fun(iY:Addr)=>
 Ld .m w (iY.add 3) fun(tables:Option Nat)=>
 bZ .p Tryz.prog (Instr.range 89 (.map tables)) w fun(it:Option Addr) w=>
 ∃ak:Nat->World->Prop,(∃n:Nat,ak n w) /\ ∀m:Nat,∀w:World,ak m w->(V7 Tryz.prog (.pointer it) 0 w (fun w=>
 R (some out.block) w) fun(key elem:Value) w=>
 V8 Tryz.prog (.pointer it) w fun(Xg SF:Value) w=>
 eM [.one (.i .i64)] (Xg) (fun(set:Int) _=>
 eM [.one .p] (SF) (fun(t:Option Addr) _=>
 DX t w fun(r:Int) w=>
 sN Tryz.prog (Instr.mapUpdate 99 (.map (some out.block)) (.int .i64 set) (.int .i64 r)) w fun w=>
 ∃m2:Nat,m2 < m /\ ak m2 w) w) w)
theorem OF {w_ w R} (h:f43 w_ w R):U8 w_ w R:=
  ag (H:=⟨[(3,⟨[],[3,11]⟩)],[]⟩) ct Tryz.func43 (cast (by kernel_rfl) h)
def f44 (w_:Option Addr) (w:World) (R:Sl->World->Prop):Prop:=
 ∃ak:Sl->Int->Nat->World->Prop,(∃n:Nat,ak ⟨none,0,0⟩ 0 n w) /\ ∀out:Sl,∀i:Int,∀m:Nat,∀w:World,ak out i m w->(NN w_ fun(iY:Addr)=>
 Ld .sl w (iY.add 2) fun(L:Sl)=>
 if (decide (i < (L.len:Int)))=true then (NN w_ fun(oP:Addr)=>
 Ld .sl w (oP.add 2) fun(L2:Sl)=>
 Ix L2.a L2.len i 3 fun(a:Addr)=>
 Ld .sl w (a.add 2) fun(dP:Sl)=>
 Ju dP w fun(set:Int) w=>
 ∃J_:Int->World->Prop,(∃aS:Int->Nat->World->Prop,(∃n:Nat,aS 0 n w) /\ ∀k:Int,∀m3:Nat,∀w:World,aS k m3 w->(if (decide (k < (out.len:Int)))=true then (Ix out.a out.len k 2 fun(a2:Addr)=>
 Ld (.i .i64) w a2 fun(Set:Int)=>
 if (Set !=set)=true then (∃m4:Nat,m4 < m3 /\ aS (IntKind.i64.wrap (k+1)) m4 w) else (J_ k w)) else (J_ k w))) /\ ∀k2:Int,∀w:World,J_ k2 w->(∃lv:Sl->World->Prop,(if (k2 ==(out.len:Int))=true then (Nw (.cells #[.int .i64 set,.int .i64 0] 157) w fun(b:Addr) w=>
 bZ .sl Tryz.prog (Builtin.append_ #[101,101] 101 #[.slice out.a out.len out.cap,.slice (some b) 1 1]) w fun(bH:Sl) w=>
 lv bH w) else (lv out w)) /\ ∀fa:Sl,∀w:World,lv fa w->(Ix fa.a fa.len k2 2 fun(a3:Addr)=>
 Ld (.i .i64) w (a3.add 1) fun(N:Int)=>
 Ix fa.a fa.len k2 2 fun(a4:Addr)=>
 St (a4.add 1) (.int .i64 (IntKind.i64.wrap (N+1))) w fun w=>
 ∃m2:Nat,m2 < m /\ ak fa (IntKind.i64.wrap (i+1)) m2 w))) else (R out w))
theorem OG {w_ w R} (h:f44 w_ w R):WR w_ w R:=
  ag (H:=⟨[(3,⟨[(3,.sl),(4,.i .i64)],[0]⟩),(7,⟨[(6,.i .i64)],[0,3,4,5]⟩)],[(9,⟨[(6,.i .i64)],[0,3,4,5]⟩),(11,⟨[(3,.sl)],[0,4,6]⟩)]⟩) ct Tryz.func44 (cast (by kernel_rfl) h)
def f45 (w_:Option Addr) (w:World) (R:Sl->World->Prop):Prop:=
 NN w_ fun(iY:Addr)=>
 Ld .sl w iY fun(kinds:Sl)=>
 Sm kinds w fun(r:Sl) w=>
 R r w
theorem OH {w_ w R} (h:f45 w_ w R):U9 w_ w R:=
  ag (H:=⟨[],[]⟩) ct Tryz.func45 (cast (by kernel_rfl) h)
def f46 (w_:Option Addr) (w:World) (R:Sl->World->Prop):Prop:=
 Nv w_ w fun(b:Sl) w=>
 ∃ak:Sl->Int->Nat->World->Prop,(∃n:Nat,ak b 0 n w) /\ ∀b2:Sl,∀i:Int,∀m:Nat,∀w:World,ak b2 i m w->(NN w_ fun(iY:Addr)=>
 Ld .sl w (iY.add 2) fun(L:Sl)=>
 if (decide (i < (L.len:Int)))=true then (NN w_ fun(oP:Addr)=>
 Ld .sl w (oP.add 2) fun(L2:Sl)=>
 Ix L2.a L2.len i 3 fun(a:Addr)=>
 Ld .sl w (a.add 2) fun(dP:Sl)=>
 Ju dP w fun(r:Int) w=>
 BB b2 (IntKind.u64.wrap r) w fun(b3:Sl) w=>
 ∃aS:Sl->Int->Nat->World->Prop,(∃n:Nat,aS b3 0 n w) /\ ∀b4:Sl,∀k:Int,∀m3:Nat,∀w:World,aS b4 k m3 w->(if (decide (k < (dP.len:Int)))=true then (∃dD:Sl->Int->Nat->World->Prop,(∃n:Nat,dD b4 0 n w) /\ ∀b5:Sl,∀j:Int,∀m5:Nat,∀w:World,dD b5 j m5 w->(Ix dP.a dP.len k 2 fun(a2:Addr)=>
 Ld .sl w (a2.add 1) fun(cQ:Sl)=>
 if (decide (j < (cQ.len:Int)))=true then (Ix dP.a dP.len k 2 fun(a3:Addr)=>
 Ld .sl w (a3.add 1) fun(dq:Sl)=>
 Ix dq.a dq.len j 1 fun(a4:Addr)=>
 Ld (.i .i64) w a4 fun(x:Int)=>
 DY b5 x w fun(b6:Sl) w=>
 ∃m6:Nat,m6 < m5 /\ dD b6 (IntKind.i64.wrap (j+1)) m6 w) else (∃m4:Nat,m4 < m3 /\ aS b5 (IntKind.i64.wrap (k+1)) m4 w))) else (∃m2:Nat,m2 < m /\ ak b4 (IntKind.i64.wrap (i+1)) m2 w))) else (R b2 w))
theorem OI {w_ w R} (h:f46 w_ w R):WS w_ w R:=
  ag (H:=⟨[(3,⟨[(3,.sl),(4,.i .i64)],[0]⟩),(8,⟨[(3,.sl),(6,.i .i64)],[0,4,5]⟩),(11,⟨[(3,.sl),(7,.i .i64)],[0,4,5,6]⟩)],[]⟩) ct Tryz.func46 (cast (by kernel_rfl) h)
def f47 (a b:Sl) (w:World) (R:Bool->World->Prop):Prop:=
 if ((a.len:Int) !=(b.len:Int))=true then (R false w) else (∃ak:Int->Nat->World->Prop,(∃n:Nat,ak 0 n w) /\ ∀i:Int,∀m:Nat,∀w:World,ak i m w->(if (decide (i < (a.len:Int)))=true then (Dr w fun w=>
 Ix a.a a.len i 3 fun(a2:Addr)=>
 Ld .sl w (a2.add 2) fun(dP:Sl)=>
 Ix b.a b.len i 3 fun(a3:Addr)=>
 Ld .sl w (a3.add 2) fun(OJ:Sl)=>
 W3 dP OJ w fun(ok:Bool) w=>
 Dr w fun w=>
 if (!ok)=true then (R false w) else (Ix a.a a.len i 3 fun(a4:Addr)=>
 Ld (.i .i64) w a4 fun(hJ:Int)=>Ld (.i .i64) w (a4.add 1) fun(ow:Int)=>
 Ix b.a b.len i 3 fun(a5:Addr)=>
 Ld (.i .i64) w a5 fun(Gl:Int)=>Ld (.i .i64) w (a5.add 1) fun(OK:Int)=>
 hZ .b Tryz.prog (cl .neq 33 (.tmp 36) (.tmp 41) (.agg #[.int .i64 hJ,.int .i64 ow]) (.agg #[.int .i64 Gl,.int .i64 OK])) w fun(eq:Bool)=>
 if eq=true then (R false w) else (∃m2:Nat,m2 < m /\ ak (IntKind.i64.wrap (i+1)) m2 w))) else (R true w)))
theorem OM {a b w R} (h:f47 a b w R):Sk a b w R:=
  ag (H:=⟨[(4,⟨[(5,.i .i64)],[0,1]⟩)],[]⟩) ct Tryz.func47 (cast (by kernel_rfl) h)
def f48 (a:Option Nat) (b:Sl) (w:World) (R:Bool->World->Prop):Prop:=
 hZ (.i .i64) Tryz.prog (Builtin.len_ #[99] 3 #[.map a]) w fun(n_:Int)=>
 if (n_ !=(b.len:Int))=true then (R false w) else (∃ak:Int->Nat->World->Prop,(∃n:Nat,ak 0 n w) /\ ∀i:Int,∀m:Nat,∀w:World,ak i m w->(if (decide (i < (b.len:Int)))=true then (Ix b.a b.len i 2 fun(a2:Addr)=>
 Ld (.i .i64) w a2 fun(Set:Int)=>
 gp [.one (.i .i64),.one .b] Tryz.prog (Instr.lookup 99 (.map a) (.int .i64 Set) true) w fun(e:Int) (ok:Bool) _=>
 if (!ok)=true then (R false w) else (Ix b.a b.len i 2 fun(a3:Addr)=>
 Ld (.i .i64) w (a3.add 1) fun(N:Int)=>
 if (e !=N)=true then (R false w) else (∃m2:Nat,m2 < m /\ ak (IntKind.i64.wrap (i+1)) m2 w))) else (R true w)))
theorem ON {a b w R} (h:f48 a b w R):Va a b w R:=
  ag (H:=⟨[(4,⟨[(5,.i .i64)],[0,1]⟩)],[]⟩) ct Tryz.func48 (cast (by kernel_rfl) h)
def f49 (a b:Sl) (w:World) (R:Bool->World->Prop):Prop:=
 if ((a.len:Int) !=(b.len:Int))=true then (R false w) else (∃ak:Int->Nat->World->Prop,(∃n:Nat,ak 0 n w) /\ ∀i:Int,∀m:Nat,∀w:World,ak i m w->(if (decide (i < (a.len:Int)))=true then (∃J_:World->Prop,(Dr w fun w=>
 Ix a.a a.len i 2 fun(a2:Addr)=>
 Ld .s w a2 fun(Name:ByteArray)=>
 Ix b.a b.len i 2 fun(a3:Addr)=>
 Ld .s w a3 fun(SG:ByteArray)=>
 if (!(Name.toList ==SG.toList))=true then (R false w) else (Ix a.a a.len i 2 fun(a4:Addr)=>
 Ld .sl w (a4.add 1) fun(cn:Sl)=>
 Ix b.a b.len i 2 fun(a5:Addr)=>
 Ld .sl w (a5.add 1) fun(fu:Sl)=>
 if ((cn.len:Int) !=(fu.len:Int))=true then (R false w) else (J_ w))) /\ ∀w:World,J_ w->(∃aS:Int->Nat->World->Prop,(∃n:Nat,aS 0 n w) /\ ∀k:Int,∀m3:Nat,∀w:World,aS k m3 w->(Ix a.a a.len i 2 fun(a6:Addr)=>
 Ld .sl w (a6.add 1) fun(nM:Sl)=>
 if (decide (k < (nM.len:Int)))=true then (Dr w fun w=>
 Ix a.a a.len i 2 fun(a7:Addr)=>
 Ld .sl w (a7.add 1) fun(tm:Sl)=>
 Ix tm.a tm.len k 1 fun(a8:Addr)=>
 Ld .s w a8 fun(x:ByteArray)=>
 Ix b.a b.len i 2 fun(a9:Addr)=>
 Ld .sl w (a9.add 1) fun(tp:Sl)=>
 Ix tp.a tp.len k 1 fun(L0:Addr)=>
 Ld .s w L0 fun(x2:ByteArray)=>
 if (!(x.toList ==x2.toList))=true then (R false w) else (∃m4:Nat,m4 < m3 /\ aS (IntKind.i64.wrap (k+1)) m4 w)) else (∃m2:Nat,m2 < m /\ ak (IntKind.i64.wrap (i+1)) m2 w)))) else (R true w)))
theorem OO {a b w R} (h:f49 a b w R):Rk a b w R:=
  ag (H:=⟨[(4,⟨[(5,.i .i64)],[0,1]⟩),(9,⟨[(6,.i .i64)],[0,1,5]⟩)],[(8,⟨[],[0,1,5]⟩)]⟩) ct Tryz.func49 (cast (by kernel_rfl) h)
def f50 (b:Option Addr) (l:Sl) (w:World) (R:World->Prop):Prop:=
 NN b fun(b_:Addr)=>
 Ld .sl w (b_.add 2) fun(r:Sl)=>
 ∃ak:Int->Nat->World->Prop,(∃n:Nat,ak 0 n w) /\ ∀i:Int,∀m:Nat,∀w:World,ak i m w->(if (decide (i < (l.len:Int)))=true then (Ix l.a l.len i 3 fun(a:Addr)=>
 Ld .sl w (a.add 2) fun(dP:Sl)=>
 W5 b dP w fun w=>
 Ix l.a l.len i 3 fun(a2:Addr)=>
 St a2 (.int .i64 (IntKind.i64.wrap (1000000+(r.len:Int)))) w fun w=>
 St (a2.add 1) (.int .i64 0) w fun w=>
 St (a2.add 2) (.slice none 0 0) w fun w=>
 ∃m2:Nat,m2 < m /\ ak (IntKind.i64.wrap (i+1)) m2 w) else (NN b fun(OQ:Addr)=>
 Ld .sl w (OQ.add 2) fun(r2:Sl)=>
 Nw (.cells #[.slice l.a l.len l.cap] 71) w fun(b2:Addr) w=>
 bZ .sl Tryz.prog (Builtin.append_ #[48,48] 48 #[.slice r2.a r2.len r2.cap,.slice (some b2) 1 1]) w fun(s:Sl) w=>
 NN b fun(OS:Addr)=>
 St (OS.add 2) (.slice s.a s.len s.cap) w fun w=>
 NN b fun(OT:Addr)=>
 Ld .sl w (OT.add 5) fun(z:Sl)=>
 Nw (.cells #[.int .i64 (IntKind.i64.wrap (1000000+(r.len:Int)))] 3) w fun(b3:Addr) w=>
 bZ .sl Tryz.prog (Builtin.append_ #[49,49] 49 #[.slice z.a z.len z.cap,.slice (some b3) 1 1]) w fun(s2:Sl) w=>
 NN b fun(OU:Addr)=>
 St (OU.add 5) (.slice s2.a s2.len s2.cap) w fun w=>
 R w))
theorem OV {b l w R} (h:f50 b l w R):Vb b l w R:=
  ag (H:=⟨[(2,⟨[(5,.i .i64)],[0,1,4]⟩)],[]⟩) ct Tryz.func50 (cast (by kernel_rfl) h)
def f51 (b:Option Addr) (w:World) (R:World->Prop):Prop:=
 NN b fun(b_:Addr)=>
 Ld .sl w b_ fun(v:Sl)=>
 NN b fun(OQ:Addr)=>
 Ld (.i .i64) w (OQ.add 6) fun(i:Int)=>
 ∃ak:Int->Nat->World->Prop,(∃n:Nat,ak i n w) /\ ∀i2:Int,∀m:Nat,∀w:World,ak i2 m w->(if (decide (i2 < (v.len:Int)))=true then (NN b fun(OS:Addr)=>
 Ld .sl w OS fun(v2:Sl)=>
 Ix v2.a v2.len i2 1 fun(a:Addr)=>
 Ld .sl w a fun(l:Sl)=>
 ∃aS:Sl->Int->Nat->World->Prop,(∃n:Nat,aS l 0 n w) /\ ∀l2:Sl,∀k:Int,∀m3:Nat,∀w:World,aS l2 k m3 w->(NN b fun(OT:Addr)=>
 Ld (.i .i64) w (OT.add 6) fun(i3:Int)=>
 Jv (IntKind.i64.wrap (i2 - i3)) w fun(r:Int) w=>
 if (decide (k < r))=true then (NN b fun(OU:Addr)=>
 Ld .sl w (OU.add 3) fun(x:Sl)=>
 Ix x.a x.len i2 1 fun(a2:Addr)=>
 Ld (.i .i64) w a2 fun(x2:Int)=>
 Nw (.cells #[.int .i64 x2] 2) w fun(b2:Addr) w=>
 bZ .sl Tryz.prog (Builtin.append_ #[34,34] 34 #[.slice l2.a l2.len l2.cap,.slice (some b2) 1 1]) w fun(l3:Sl) w=>
 ∃m4:Nat,m4 < m3 /\ aS l3 (IntKind.i64.wrap (k+1)) m4 w) else (NN b fun(OW:Addr)=>
 Ld .sl w OW fun(v3:Sl)=>
 Nw (.cells #[.slice l2.a l2.len l2.cap] 34) w fun(b3:Addr) w=>
 bZ .sl Tryz.prog (Builtin.append_ #[46,46] 46 #[.slice v3.a v3.len v3.cap,.slice (some b3) 1 1]) w fun(s:Sl) w=>
 NN b fun(Xh:Addr)=>
 St Xh (.slice s.a s.len s.cap) w fun w=>
 Dr w fun w=>
 NN b fun(Xi:Addr)=>
 Ld .sl w (Xi.add 3) fun(x3:Sl)=>
 NN b fun(Xj:Addr)=>
 Ld .sl w (Xj.add 3) fun(x4:Sl)=>
 Ix x4.a x4.len i2 1 fun(a3:Addr)=>
 Ld (.i .i64) w a3 fun(x5:Int)=>
 Nw (.cells #[.int .i64 x5] 2) w fun(b4:Addr) w=>
 bZ .sl Tryz.prog (Builtin.append_ #[34,34] 34 #[.slice x3.a x3.len x3.cap,.slice (some b4) 1 1]) w fun(s2:Sl) w=>
 NN b fun(OX:Addr)=>
 St (OX.add 3) (.slice s2.a s2.len s2.cap) w fun w=>
 ∃m2:Nat,m2 < m /\ ak (IntKind.i64.wrap (i2+1)) m2 w))) else (NN b fun(Xk:Addr)=>
 Ld .sl w Xk fun(v4:Sl)=>
 NN b fun(Xl:Addr)=>
 St (Xl.add 6) (.int .i64 (v4.len:Int)) w fun w=>
 NN b fun(Xm:Addr)=>
 Ld .sl w (Xm.add 1) fun(p:Sl)=>
 NN b fun(Xn:Addr)=>
 Ld (.i .i64) w (Xn.add 7) fun(j:Int)=>
 ∃dD:Int->Nat->World->Prop,(∃n:Nat,dD j n w) /\ ∀i4:Int,∀m5:Nat,∀w:World,dD i4 m5 w->(if (decide (i4 < (p.len:Int)))=true then (NN b fun(Xo:Addr)=>
 Ld .sl w (Xo.add 1) fun(p2:Sl)=>
 Ix p2.a p2.len i4 1 fun(a4:Addr)=>
 Ld .sl w a4 fun(l4:Sl)=>
 ∃uq:Sl->Int->Nat->World->Prop,(∃n:Nat,uq l4 0 n w) /\ ∀l5:Sl,∀k2:Int,∀m7:Nat,∀w:World,uq l5 k2 m7 w->(NN b fun(Xp:Addr)=>
 Ld (.i .i64) w (Xp.add 7) fun(j2:Int)=>
 Jv (IntKind.i64.wrap (i4 - j2)) w fun(r2:Int) w=>
 if (decide (k2 < r2))=true then (NN b fun(Xq:Addr)=>
 Ld .sl w (Xq.add 4) fun(y:Sl)=>
 Ix y.a y.len i4 1 fun(a5:Addr)=>
 Ld (.i .i64) w a5 fun(x6:Int)=>
 Nw (.cells #[.int .i64 x6,.slice none 0 0] 36) w fun(b5:Addr) w=>
 bZ .sl Tryz.prog (Builtin.append_ #[37,37] 37 #[.slice l5.a l5.len l5.cap,.slice (some b5) 1 1]) w fun(l6:Sl) w=>
 ∃m8:Nat,m8 < m7 /\ uq l6 (IntKind.i64.wrap (k2+1)) m8 w) else (NN b fun(Xr:Addr)=>
 Ld .sl w (Xr.add 1) fun(p3:Sl)=>
 Nw (.cells #[.slice l5.a l5.len l5.cap] 37) w fun(b6:Addr) w=>
 bZ .sl Tryz.prog (Builtin.append_ #[47,47] 47 #[.slice p3.a p3.len p3.cap,.slice (some b6) 1 1]) w fun(s3:Sl) w=>
 NN b fun(OY:Addr)=>
 St (OY.add 1) (.slice s3.a s3.len s3.cap) w fun w=>
 Dr w fun w=>
 NN b fun(OZ:Addr)=>
 Ld .sl w (OZ.add 4) fun(y2:Sl)=>
 NN b fun(O9:Addr)=>
 Ld .sl w (O9.add 4) fun(y3:Sl)=>
 Ix y3.a y3.len i4 1 fun(a6:Addr)=>
 Ld (.i .i64) w a6 fun(x7:Int)=>
 Nw (.cells #[.int .i64 x7] 3) w fun(b7:Addr) w=>
 bZ .sl Tryz.prog (Builtin.append_ #[49,49] 49 #[.slice y2.a y2.len y2.cap,.slice (some b7) 1 1]) w fun(s4:Sl) w=>
 NN b fun(Pa:Addr)=>
 St (Pa.add 4) (.slice s4.a s4.len s4.cap) w fun w=>
 ∃m6:Nat,m6 < m5 /\ dD (IntKind.i64.wrap (i4+1)) m6 w))) else (NN b fun(Xs:Addr)=>
 Ld .sl w (Xs.add 1) fun(p4:Sl)=>
 NN b fun(Xt:Addr)=>
 St (Xt.add 7) (.int .i64 (p4.len:Int)) w fun w=>
 NN b fun(Xu:Addr)=>
 Ld .sl w (Xu.add 2) fun(r3:Sl)=>
 NN b fun(Xv:Addr)=>
 Ld (.i .i64) w (Xv.add 8) fun(k3:Int)=>
 ∃Gm:Int->Nat->World->Prop,(∃n:Nat,Gm k3 n w) /\ ∀i5:Int,∀m9:Nat,∀w:World,Gm i5 m9 w->(if (decide (i5 < (r3.len:Int)))=true then (NN b fun(Xw:Addr)=>
 Ld .sl w (Xw.add 2) fun(r4:Sl)=>
 Ix r4.a r4.len i5 1 fun(a7:Addr)=>
 Ld .sl w a7 fun(l7:Sl)=>
 ∃Gn:Sl->Int->Nat->World->Prop,(∃n:Nat,Gn l7 0 n w) /\ ∀l8:Sl,∀k4:Int,∀SB:Nat,∀w:World,Gn l8 k4 SB w->(if (decide (k4 < 70))=true then (NN b fun(Xx:Addr)=>
 Ld .sl w (Xx.add 5) fun(z:Sl)=>
 Ix z.a z.len i5 1 fun(a8:Addr)=>
 Ld (.i .i64) w a8 fun(x8:Int)=>
 Nw (.cells #[.int .i64 x8,.int .i64 0,.slice none 0 0] 75) w fun(b8:Addr) w=>
 bZ .sl Tryz.prog (Builtin.append_ #[71,71] 71 #[.slice l8.a l8.len l8.cap,.slice (some b8) 1 1]) w fun(l9:Sl) w=>
 ∃Z4:Nat,Z4 < SB /\ Gn l9 (IntKind.i64.wrap (k4+1)) Z4 w) else (NN b fun(Xy:Addr)=>
 Ld .sl w (Xy.add 2) fun(r5:Sl)=>
 Nw (.cells #[.slice l8.a l8.len l8.cap] 71) w fun(b9:Addr) w=>
 bZ .sl Tryz.prog (Builtin.append_ #[48,48] 48 #[.slice r5.a r5.len r5.cap,.slice (some b9) 1 1]) w fun(s5:Sl) w=>
 NN b fun(Pb:Addr)=>
 St (Pb.add 2) (.slice s5.a s5.len s5.cap) w fun w=>
 Dr w fun w=>
 NN b fun(Pc:Addr)=>
 Ld .sl w (Pc.add 5) fun(z2:Sl)=>
 NN b fun(Pd:Addr)=>
 Ld .sl w (Pd.add 5) fun(z3:Sl)=>
 Ix z3.a z3.len i5 1 fun(a9:Addr)=>
 Ld (.i .i64) w a9 fun(x9:Int)=>
 Nw (.cells #[.int .i64 x9] 3) w fun(Xz:Addr) w=>
 bZ .sl Tryz.prog (Builtin.append_ #[49,49] 49 #[.slice z2.a z2.len z2.cap,.slice (some Xz) 1 1]) w fun(s6:Sl) w=>
 NN b fun(Pe:Addr)=>
 St (Pe.add 5) (.slice s6.a s6.len s6.cap) w fun w=>
 ∃SC:Nat,SC < m9 /\ Gm (IntKind.i64.wrap (i5+1)) SC w))) else (NN b fun(XA:Addr)=>
 Ld .sl w (XA.add 2) fun(r6:Sl)=>
 NN b fun(XB:Addr)=>
 St (XB.add 8) (.int .i64 (r6.len:Int)) w fun w=>
 R w))))))
theorem Pf {b w R} (h:f51 b w R):Vc b w R:=
  ag (H:=⟨[(2,⟨[(3,.i .i64)],[0,2]⟩),(6,⟨[(4,.sl),(5,.i .i64)],[0,2,3]⟩),(14,⟨[(6,.i .i64)],[0,2]⟩),(18,⟨[(7,.sl),(8,.i .i64)],[0,2,6]⟩),(26,⟨[(9,.i .i64)],[0,2]⟩),(30,⟨[(10,.sl),(11,.i .i64)],[0,2,9]⟩)],[]⟩) ct Tryz.func51 (cast (by kernel_rfl) h)
def f52 (kinds:Sl) (w:World) (R:Bool->World->Prop):Prop:=
 ∃ak:Sl->Int->Nat->World->Prop,(∃n:Nat,ak ⟨none,0,0⟩ 0 n w) /\ ∀names:Sl,∀t8:Int,∀m:Nat,∀w:World,ak names t8 m w->(if (decide (t8 < (kinds.len:Int)))=true then (Ix kinds.a kinds.len t8 2 fun(a:Addr)=>
 Ld .s w a fun(BI:ByteArray)=>Ld .sl w (a.add 1) fun(jy:Sl)=>
 Nw (.cells #[.string (⟨#[]⟩:ByteArray),.slice none 0 0] 107) w fun(k:Addr) w=>
 St k (.string BI) w fun w=>
 St (k.add 1) (.slice jy.a jy.len jy.cap) w fun w=>
 ∃J_:World->Prop,(Ld .sl w (k.add 1) fun(cn:Sl)=>
 if (decide ((cn.len:Int) > 4))=true then (R false w) else (Ld .sl w (k.add 1) fun(fu:Sl)=>
 Jw fu w fun(r:Bool) w=>
 if (!r)=true then (R false w) else (J_ w))) /\ ∀w:World,J_ w->(Ld .s w k fun(Name:ByteArray)=>
 Nw (.cells #[.string Name] 9) w fun(b:Addr) w=>
 bZ .sl Tryz.prog (Builtin.append_ #[45,45] 45 #[.slice names.a names.len names.cap,.slice (some b) 1 1]) w fun(mO:Sl) w=>
 ∃m2:Nat,m2 < m /\ ak mO (IntKind.i64.wrap (t8+1)) m2 w)) else (if (decide ((kinds.len:Int)>=1))=true then (if (decide ((kinds.len:Int)<=12))=true then (Jw names w fun(r2:Bool) w=>
 R r2 w) else (R false w)) else (R false w)))
theorem Gp {kinds w R} (h:f52 kinds w R):Vd kinds w R:=
  ag (H:=⟨[(3,⟨[(3,.sl),(8,.i .i64)],[0,6,7]⟩)],[(7,⟨[],[0,3,5,6,7,8]⟩)]⟩) ct Tryz.func52 (cast (by kernel_rfl) h)
def f53 (aA:Int) (w:World) (R:Option Addr->Int->World->Prop):Prop:=
 if (cond (decide (aA < 1)) true (decide (aA > 200)))=true then (R none 1 w) else (Nw (.cells #[.int .i64 aA,.slice none 0 0,.slice none 0 0,.slice none 0 0] 149) w fun(a:Addr) w=>
 R (some a) 0 w)
theorem Gq {aA w R} (h:f53 aA w R):Rl aA w R:=
  ag (H:=⟨[],[]⟩) ct Tryz.func53 (cast (by kernel_rfl) h)
def f54 (kinds:Sl) (w:World) (R:Sl->World->Prop):Prop:=
 Jx kinds w fun(out:Sl) w=>
 ∃ak:Int->Nat->World->Prop,(∃n:Nat,ak 0 n w) /\ ∀t9:Int,∀m:Nat,∀w:World,ak t9 m w->(if (decide (t9 < (out.len:Int)))=true then (Ix out.a out.len t9 2 fun(a:Addr)=>
 Ld .sl w (a.add 1) fun(cn:Sl)=>
 Nx cn w fun(r:Sl) w=>
 Ix out.a out.len t9 2 fun(a2:Addr)=>
 St (a2.add 1) (.slice r.a r.len r.cap) w fun w=>
 ∃m2:Nat,m2 < m /\ ak (IntKind.i64.wrap (t9+1)) m2 w) else (R out w))
theorem Gr {kinds w R} (h:f54 kinds w R):Sm kinds w R:=
  ag (H:=⟨[(3,⟨[(9,.i .i64)],[3,8]⟩)],[]⟩) ct Tryz.func54 (cast (by kernel_rfl) h)
def f55 (w_:Option Addr) (kind:Int) (w:World) (R:Int->Bool->World->Prop):Prop:=
 ∃J_:World->Prop,(if (decide (kind < 1))=true then (R 0 false w) else (NN w_ fun(iY:Addr)=>
 Ld .sl w iY fun(kinds:Sl)=>
 if (decide (kind >(kinds.len:Int)))=true then (R 0 false w) else (J_ w))) /\ ∀w:World,J_ w->(NN w_ fun(oP:Addr)=>
 Ld .sl w oP fun(yl:Sl)=>
 Ix yl.a yl.len (IntKind.i64.wrap (kind - 1)) 2 fun(a:Addr)=>
 Ld .sl w (a.add 1) fun(cn:Sl)=>
 R (cn.len:Int) true w)
theorem Pg {w_ kind w R} (h:f55 w_ kind w R):Sn w_ kind w R:=
  ag (H:=⟨[],[(3,⟨[],[0,1]⟩)]⟩) ct Tryz.func55 (cast (by kernel_rfl) h)
def f56 (s:Sl) (i:Int) (v:Sl) (w:World) (R:Sl->World->Prop):Prop:=
 Cut ⟨s.a,s.len,s.cap⟩ i (s.len:Int) (s.cap:Int) 1 fun(s2:Sl)=>
 if ((v.len:Int) ==0)=true then (R s w) else (if (i ==(s.len:Int))=true then (bZ .sl Tryz.prog (Builtin.append_ #[34,34] 34 #[.slice s.a s.len s.cap,.slice v.a v.len v.cap]) w fun(s3:Sl) w=>
 R s3 w) else (if (decide ((IntKind.i64.wrap ((s.len:Int)+(v.len:Int))) >(s.cap:Int)))=true then (Cut ⟨s.a,s.len,s.cap⟩ 0 i (s.cap:Int) 1 fun(s4:Sl)=>
 bZ .sl Tryz.prog (Builtin.append_ #[34,3] 34 #[.slice s4.a s4.len s4.cap,.int .i64 (IntKind.i64.wrap ((IntKind.i64.wrap ((s.len:Int)+(v.len:Int))) - i))]) w fun(Gs:Sl) w=>
 Cut ⟨Gs.a,Gs.len,Gs.cap⟩ i (Gs.len:Int) (Gs.cap:Int) 1 fun(s5:Sl)=>
 bZ (.i .i64) Tryz.prog (Builtin.copy_ #[34,34] 3 #[.slice s5.a s5.len s5.cap,.slice v.a v.len v.cap]) w fun(n_:Int) w=>
 Dr w fun w=>
 Cut ⟨Gs.a,Gs.len,Gs.cap⟩ (IntKind.i64.wrap (i+(v.len:Int))) (Gs.len:Int) (Gs.cap:Int) 1 fun(s6:Sl)=>
 Cut ⟨s.a,s.len,s.cap⟩ i (s.len:Int) (s.cap:Int) 1 fun(s7:Sl)=>
 bZ (.i .i64) Tryz.prog (Builtin.copy_ #[34,34] 3 #[.slice s6.a s6.len s6.cap,.slice s7.a s7.len s7.cap]) w fun(qT:Int) w=>
 R Gs w) else (Cut ⟨s.a,s.len,s.cap⟩ 0 (IntKind.i64.wrap ((s.len:Int)+(v.len:Int))) (s.cap:Int) 1 fun(s8:Sl)=>
 Cut ⟨s8.a,s8.len,s8.cap⟩ (IntKind.i64.wrap (i+(v.len:Int))) (s8.len:Int) (s8.cap:Int) 1 fun(s9:Sl)=>
 CP Tryz.prog 112 [.slice v.a v.len v.cap,.slice s9.a s9.len s9.cap] [.one .b] w fun(r:Bool) w=>
 if (!r)=true then (Dr w fun w=>
 Cut ⟨s8.a,s8.len,s8.cap⟩ (IntKind.i64.wrap (i+(v.len:Int))) (s8.len:Int) (s8.cap:Int) 1 fun(SH:Sl)=>
 Cut ⟨s8.a,s8.len,s8.cap⟩ i (s8.len:Int) (s8.cap:Int) 1 fun(XC:Sl)=>
 bZ (.i .i64) Tryz.prog (Builtin.copy_ #[34,34] 3 #[.slice SH.a SH.len SH.cap,.slice XC.a XC.len XC.cap]) w fun(XD:Int) w=>
 Cut ⟨s8.a,s8.len,s8.cap⟩ i (s8.len:Int) (s8.cap:Int) 1 fun(XE:Sl)=>
 bZ (.i .i64) Tryz.prog (Builtin.copy_ #[34,34] 3 #[.slice XE.a XE.len XE.cap,.slice v.a v.len v.cap]) w fun(n_4:Int) w=>
 R s8 w) else (Cut ⟨s8.a,s8.len,s8.cap⟩ (s.len:Int) (s8.len:Int) (s8.cap:Int) 1 fun(XF:Sl)=>
 bZ (.i .i64) Tryz.prog (Builtin.copy_ #[34,34] 3 #[.slice XF.a XF.len XF.cap,.slice v.a v.len v.cap]) w fun(n_5:Int) w=>
 Cut ⟨s8.a,s8.len,s8.cap⟩ i (s8.len:Int) (s8.cap:Int) 1 fun(s14:Sl)=>
 W6 s14 (v.len:Int) w fun w=>
 R s8 w))))
theorem Gt {s i v w R} (h:f56 s i v w R):Rm s i v w R:=
  ag (H:=⟨[],[]⟩) ct Tryz.func56 (cast (by kernel_rfl) h)
def f57 (w_:Option Addr) (set kind:Int) (w:World) (R:Int->World->Prop):Prop:=
 ∃ak:Int->Int->Nat->World->Prop,(∃n:Nat,ak 0 1 n w) /\ ∀n_:Int,∀k:Int,∀m:Nat,∀w:World,ak n_ k m w->(if (decide (k < kind))=true then ((0:Int)<=k /\ (if ((IntKind.i64.wrap ((BitVec.ofInt 64 (Int.fdiv set (2 ^ (min (Int.toNat k) 64))) &&& BitVec.ofInt 64 1).toNat:Nat)) ==1)=true then (NN w_ fun(iY:Addr)=>
 Ld .sl w iY fun(kinds:Sl)=>
 Ix kinds.a kinds.len (IntKind.i64.wrap (k - 1)) 2 fun(a:Addr)=>
 Ld .sl w (a.add 1) fun(cn:Sl)=>
 ∃m2:Nat,m2 < m /\ ak (IntKind.i64.wrap (n_+(cn.len:Int))) (IntKind.i64.wrap (k+1)) m2 w) else (∃m2:Nat,m2 < m /\ ak n_ (IntKind.i64.wrap (k+1)) m2 w))) else (R n_ w))
theorem Ph {w_ set kind w R} (h:f57 w_ set kind w R):Ns w_ set kind w R:=
  ag (H:=⟨[(3,⟨[(7,.i .i64),(8,.i .i64)],[0,1,2]⟩)],[]⟩) ct Tryz.func57 (cast (by kernel_rfl) h)
def f58 (p:Option Addr) (w:World) (R:Int->Int->Int->World->Prop):Prop:=
 Nw (.cells #[.int .i64 0,.int .i64 0] 33) w fun(a:Addr) w=>
 NN p fun(p_:Addr)=>
 Ld .sl w (p_.add 3) fun(free:Sl)=>
 if (decide ((free.len:Int) > 0))=true then (NN p fun(qS:Addr)=>
 Ld .sl w (qS.add 3) fun(si:Sl)=>
 Ix si.a si.len 0 1 fun(a2:Addr)=>
 Ld (.i .i64) w a2 fun(i:Int)=>
 NN p fun(sS:Addr)=>
 Ld .sl w (sS.add 3) fun(zt:Sl)=>
 Cut ⟨zt.a,zt.len,zt.cap⟩ 1 (zt.len:Int) (zt.cap:Int) 1 fun(s:Sl)=>
 NN p fun(D1:Addr)=>
 St (D1.add 3) (.slice s.a s.len s.cap) w fun w=>
 NN p fun(JJ:Addr)=>
 Ld .sl w (JJ.add 1) fun(ah:Sl)=>
 Ix ah.a ah.len i 1 fun(a3:Addr)=>
 Ld (.i .i64) w a3 fun(x:Int)=>
 Ix ah.a ah.len i 1 fun(a4:Addr)=>
 St a4 (.int .i64 (IntKind.i64.wrap (x+1))) w fun w=>
 NN p fun(JK:Addr)=>
 Ld .sl w (JK.add 2) fun(alive:Sl)=>
 Ix alive.a alive.len i 1 fun(a5:Addr)=>
 St a5 (.bool true) w fun w=>
 NN p fun(JL:Addr)=>
 Ld .sl w (JL.add 1) fun(fW:Sl)=>
 Ix fW.a fW.len i 1 fun(a6:Addr)=>
 Ld (.i .i64) w a6 fun(x2:Int)=>
 St a (.int .i64 i) w fun w=>
 St (a.add 1) (.int .i64 x2) w fun w=>
 Ld (.i .i64) w a fun(dc:Int)=>Ld (.i .i64) w (a.add 1) fun(fV:Int)=>
 R dc fV 0 w) else (Dr w fun w=>
 NN p fun(N9:Addr)=>
 Ld .sl w (N9.add 1) fun(Gu:Sl)=>
 NN p fun(SA:Addr)=>
 Ld (.i .i64) w SA fun(aA:Int)=>
 if ((Gu.len:Int) ==aA)=true then (St a (.int .i64 0) w fun w=>
 St (a.add 1) (.int .i64 0) w fun w=>
 Ld (.i .i64) w a fun(eu:Int)=>Ld (.i .i64) w (a.add 1) fun(gZ:Int)=>
 R eu gZ 40 w) else (NN p fun(Ga:Addr)=>
 Ld .sl w (Ga.add 1) fun(Gv:Sl)=>
 Nw (.cells #[.int .i64 1] 3) w fun(b:Addr) w=>
 bZ .sl Tryz.prog (Builtin.append_ #[49,49] 49 #[.slice Gv.a Gv.len Gv.cap,.slice (some b) 1 1]) w fun(s2:Sl) w=>
 NN p fun(Gb:Addr)=>
 St (Gb.add 1) (.slice s2.a s2.len s2.cap) w fun w=>
 NN p fun(Gc:Addr)=>
 Ld .sl w (Gc.add 2) fun(qU:Sl)=>
 Nw (.cells #[.bool true] 4) w fun(b2:Addr) w=>
 bZ .sl Tryz.prog (Builtin.append_ #[147,147] 147 #[.slice qU.a qU.len qU.cap,.slice (some b2) 1 1]) w fun(s3:Sl) w=>
 NN p fun(Ge:Addr)=>
 St (Ge.add 2) (.slice s3.a s3.len s3.cap) w fun w=>
 NN p fun(Gf:Addr)=>
 Ld .sl w (Gf.add 1) fun(SI:Sl)=>
 St a (.int .i64 (IntKind.i64.wrap ((SI.len:Int) - 1))) w fun w=>
 St (a.add 1) (.int .i64 1) w fun w=>
 Ld (.i .i64) w a fun(gy:Int)=>Ld (.i .i64) w (a.add 1) fun(lL:Int)=>
 R gy lL 0 w))
theorem BJ {p w R} (h:f58 p w R):Rn p w R:=
  ag (H:=⟨[],[]⟩) ct Tryz.func58 (cast (by kernel_rfl) h)
def f59 (w_:Option Addr) (al aC set:Int) (values:Sl) (w:World) (R:World->Prop):Prop:=
 Nw (.cells #[.int .i64 al,.int .i64 aC] 33) w fun(e:Addr) w=>
 Dr w fun w=>
 NN w_ fun(iY:Addr)=>
 Ld .m w (iY.add 2) fun(aJ:Option Nat)=>
 Ld (.i .i64) w e fun(aN:Int)=>Ld (.i .i64) w (e.add 1) fun(bQ:Int)=>
 sN Tryz.prog (Instr.mapUpdate 88 (.map aJ) (.agg #[.int .i64 aN,.int .i64 bQ]) (.int .i64 set)) w fun w=>
 Dr w fun w=>
 Ld (.i .i64) w e fun(cg:Int)=>Ld (.i .i64) w (e.add 1) fun(dK:Int)=>
 Ny w_ set w fun(r:Option Addr) w=>
 w.cell? e=some (.int .i64 cg) /\ w.cell? (e.add 1)=some (.int .i64 dK) /\ (Nz r cg dK values w fun(r2 r3:Int) w=>
 R w)
theorem Pj {w_ al aC set values w R} (h:f59 w_ al aC set values w R):Ro w_ al aC set values w R:=
  ag (H:=⟨[],[]⟩) ct Tryz.func59 (cast (by kernel_rfl) h)
def f60 (w_:Option Addr) (al aC kind:Int) (w:World) (R:Int->Bool->Int->Int->World->Prop):Prop:=
 Nw (.cells #[.int .i64 al,.int .i64 aC] 33) w fun(e:Addr) w=>
 Dr w fun w=>
 NN w_ fun(iY:Addr)=>
 Ld .p w (iY.add 1) fun(au:Option Addr)=>
 Ld (.i .i64) w e fun(aN:Int)=>Ld (.i .i64) w (e.add 1) fun(bQ:Int)=>
 F1 au aN bQ w fun(r:Bool) w=>
 if (!r)=true then (R 0 false 0 41 w) else (Sn w_ kind w fun(fields:Int) (ok:Bool) w=>
 if (!ok)=true then (R 0 false 0 60 w) else (Dr w fun w=>
 NN w_ fun(oP:Addr)=>
 Ld .m w (oP.add 2) fun(aJ:Option Nat)=>
 Ld (.i .i64) w e fun(cg:Int)=>Ld (.i .i64) w (e.add 1) fun(dK:Int)=>
 gp [.one (.i .i64)] Tryz.prog (Instr.lookup 88 (.map aJ) (.agg #[.int .i64 cg,.int .i64 dK]) false) w fun(set:Int) _=>
 Dr w fun w=>
 (0:Int)<=kind /\ (R set ((IntKind.i64.wrap ((BitVec.ofInt 64 (Int.fdiv set (2 ^ (min (Int.toNat kind) 64))) &&& BitVec.ofInt 64 1).toNat:Nat)) ==1) fields 0 w)))
theorem Pk {w_ al aC kind w R} (h:f60 w_ al aC kind w R):Ve w_ al aC kind w R:=
  ag (H:=⟨[],[]⟩) ct Tryz.func60 (cast (by kernel_rfl) h)
def f61 (w_:Option Addr) (al aC:Int) (w:World) (R:Sl->World->Prop):Prop:=
 Nw (.cells #[.int .i64 al,.int .i64 aC] 33) w fun(e:Addr) w=>
 Dr w fun w=>
 NN w_ fun(iY:Addr)=>
 Ld .m w (iY.add 2) fun(aJ:Option Nat)=>
 Ld (.i .i64) w e fun(aN:Int)=>Ld (.i .i64) w (e.add 1) fun(bQ:Int)=>
 gp [.one (.i .i64)] Tryz.prog (Instr.lookup 88 (.map aJ) (.agg #[.int .i64 aN,.int .i64 bQ]) false) w fun(set:Int) _=>
 NN w_ fun(oP:Addr)=>
 Ld .m w (oP.add 3) fun(tables:Option Nat)=>
 gp [.one .p] Tryz.prog (Instr.lookup 89 (.map tables) (.int .i64 set) false) w fun(t:Option Addr) _=>
 Ld (.i .i64) w e fun(cg:Int)=>Ld (.i .i64) w (e.add 1) fun(dK:Int)=>
 DZ t cg dK w fun(r:Int) w=>
 F2 t r w fun(ux BL:Int) (values:Sl) (x_:Int) w=>
 Nw (.cells #[.int .i64 0,.int .i64 0] 33) w fun(N7:Addr) w=>
 St N7 (.int .i64 ux) w fun w=>
 St (N7.add 1) (.int .i64 BL) w fun w=>
 Ld (.i .i64) w e fun(jx:Int)=>Ld (.i .i64) w (e.add 1) fun(oQ:Int)=>
 DZ t jx oQ w fun(r2:Int) w=>
 NA t r2 w fun(dc fV:Int) (r3:Bool) (r4:Int) w=>
 Dr w fun w=>
 NN w_ fun(Gi:Addr)=>
 Ld .m w (Gi.add 2) fun(SJ:Option Nat)=>
 Ld (.i .i64) w e fun(Gw:Int)=>Ld (.i .i64) w (e.add 1) fun(Pl:Int)=>
 bZ .v Tryz.prog (Builtin.delete_ #[88,33] 0 #[.map SJ,.agg #[.int .i64 Gw,.int .i64 Pl]]) w fun(n_:Value) w=>
 DX t w fun(r5:Int) w=>
 if (r5 ==0)=true then (NN w_ fun(SD:Addr)=>
 Ld .m w (SD.add 3) fun(ym:Option Nat)=>
 bZ .v Tryz.prog (Builtin.delete_ #[89,3] 0 #[.map ym,.int .i64 set]) w fun(qT:Value) w=>
 R values w) else (R values w)
theorem Pm {w_ al aC w R} (h:f61 w_ al aC w R):So w_ al aC w R:=
  ag (H:=⟨[],[]⟩) ct Tryz.func61 (cast (by kernel_rfl) h)
def f62 (p:Option Addr) (al aC:Int) (w:World) (R:Int->World->Prop):Prop:=
 Nw (.cells #[.int .i64 al,.int .i64 aC] 33) w fun(e:Addr) w=>
 Ld (.i .i64) w e fun(aN:Int)=>Ld (.i .i64) w (e.add 1) fun(bQ:Int)=>
 F1 p aN bQ w fun(r:Bool) w=>
 if (!r)=true then (R 41 w) else (Dr w fun w=>
 NN p fun(p_:Addr)=>
 Ld .sl w (p_.add 2) fun(alive:Sl)=>
 Ld (.i .i64) w e fun(Index:Int)=>
 Ix alive.a alive.len Index 1 fun(a:Addr)=>
 St a (.bool false) w fun w=>
 Ld (.i .i64) w (e.add 1) fun(SK:Int)=>
 if (decide (SK < 1000000))=true then (Dr w fun w=>
 NN p fun(qS:Addr)=>
 Ld .sl w (qS.add 3) fun(free:Sl)=>
 Ld (.i .i64) w e fun(oS:Int)=>
 Nw (.cells #[.int .i64 oS] 3) w fun(b:Addr) w=>
 bZ .sl Tryz.prog (Builtin.append_ #[49,49] 49 #[.slice free.a free.len free.cap,.slice (some b) 1 1]) w fun(s:Sl) w=>
 NN p fun(sS:Addr)=>
 St (sS.add 3) (.slice s.a s.len s.cap) w fun w=>
 R 0 w) else (R 0 w))
theorem Pn {p al aC w R} (h:f62 p al aC w R):Vf p al aC w R:=
  ag (H:=⟨[],[]⟩) ct Tryz.func62 (cast (by kernel_rfl) h)
def f63 (b:Sl) (w:World) (R:Sl->Sl->Bool->World->Prop):Prop:=
 NB b 200 w fun(l:Sl) (n_:Int) w=>
 ∃ak:Sl->Int->Nat->World->Prop,(∃n:Nat,ak ⟨none,0,0⟩ 0 n w) /\ ∀out:Sl,∀t17:Int,∀m:Nat,∀w:World,ak out t17 m w->(if (decide (t17 < (l.len:Int)))=true then (Ix l.a l.len t17 1 fun(a:Addr)=>
 Ld (.i .i64) w a fun(x:Int)=>
 if (cond (decide (x < 0)) true (decide (x > 1000001)))=true then (R ⟨none,0,0⟩ ⟨none,0,0⟩ false w) else (Nw (.cells #[.int .i64 x] 3) w fun(b2:Addr) w=>
 bZ .sl Tryz.prog (Builtin.append_ #[49,49] 49 #[.slice out.a out.len out.cap,.slice (some b2) 1 1]) w fun(bH:Sl) w=>
 ∃m2:Nat,m2 < m /\ ak bH (IntKind.i64.wrap (t17+1)) m2 w)) else (Dr w fun w=>
 Cut ⟨b.a,b.len,b.cap⟩ n_ (b.len:Int) (b.cap:Int) 1 fun(s:Sl)=>
 R out s (decide (n_ > 0)) w))
theorem Po {b w R} (h:f63 b w R):Vg b w R:=
  ag (H:=⟨[(4,⟨[(7,.sl),(17,.i .i64)],[0,6,15,16]⟩)],[]⟩) ct Tryz.func63 (cast (by kernel_rfl) h)
def f64 (aA:Int) (ah free:Sl) (w:World) (R:Option Addr->Int->World->Prop):Prop:=
 Rl aA w fun(p:Option Addr) (e:Int) w=>
 if (cond (e !=0) true (decide ((ah.len:Int) > aA)))=true then (R none 1 w) else (∃ak:Int->Nat->World->Prop,(∃n:Nat,ak 0 n w) /\ ∀t29:Int,∀m:Nat,∀w:World,ak t29 m w->(if (decide (t29 < (ah.len:Int)))=true then (Ix ah.a ah.len t29 1 fun(a:Addr)=>
 Ld (.i .i64) w a fun(g:Int)=>
 if (cond (decide (g < 1)) true (decide (g > 1000001)))=true then (R none 1 w) else (NN p fun(p_:Addr)=>
 Ld .sl w (p_.add 1) fun(fW:Sl)=>
 Nw (.cells #[.int .i64 (if 1000000 < g then 1000000 else g)] 3) w fun(b:Addr) w=>
 bZ .sl Tryz.prog (Builtin.append_ #[49,49] 49 #[.slice fW.a fW.len fW.cap,.slice (some b) 1 1]) w fun(s:Sl) w=>
 NN p fun(qS:Addr)=>
 St (qS.add 1) (.slice s.a s.len s.cap) w fun w=>
 NN p fun(sS:Addr)=>
 Ld .sl w (sS.add 2) fun(alive:Sl)=>
 Nw (.cells #[.bool (decide (g<=1000000))] 4) w fun(b2:Addr) w=>
 bZ .sl Tryz.prog (Builtin.append_ #[147,147] 147 #[.slice alive.a alive.len alive.cap,.slice (some b2) 1 1]) w fun(s2:Sl) w=>
 NN p fun(D1:Addr)=>
 St (D1.add 2) (.slice s2.a s2.len s2.cap) w fun w=>
 ∃m2:Nat,m2 < m /\ ak (IntKind.i64.wrap (t29+1)) m2 w)) else (∃aS:Int->Nat->World->Prop,(∃n:Nat,aS 0 n w) /\ ∀t64:Int,∀m3:Nat,∀w:World,aS t64 m3 w->(if (decide (t64 < (free.len:Int)))=true then (Ix free.a free.len t64 1 fun(a2:Addr)=>
 Ld (.i .i64) w a2 fun(i:Int)=>
 ∃J_:World->Prop,(if (decide (i < 0))=true then (R none 1 w) else (if (decide (i>=(ah.len:Int)))=true then (R none 1 w) else (NN p fun(JJ:Addr)=>
 Ld .sl w (JJ.add 2) fun(qU:Sl)=>
 Ix qU.a qU.len i 1 fun(a3:Addr)=>
 Ld .b w a3 fun(x:Bool)=>
 if (!x)=true then (R none 1 w) else (Ix ah.a ah.len i 1 fun(a4:Addr)=>
 Ld (.i .i64) w a4 fun(x2:Int)=>
 if (decide (x2>=1000000))=true then (R none 1 w) else (J_ w))))) /\ ∀w:World,J_ w->(NN p fun(JK:Addr)=>
 Ld .sl w (JK.add 2) fun(Gx:Sl)=>
 Ix Gx.a Gx.len i 1 fun(a5:Addr)=>
 St a5 (.bool false) w fun w=>
 NN p fun(JL:Addr)=>
 Ld .sl w (JL.add 3) fun(si:Sl)=>
 Nw (.cells #[.int .i64 i] 3) w fun(b3:Addr) w=>
 bZ .sl Tryz.prog (Builtin.append_ #[49,49] 49 #[.slice si.a si.len si.cap,.slice (some b3) 1 1]) w fun(s3:Sl) w=>
 NN p fun(N9:Addr)=>
 St (N9.add 3) (.slice s3.a s3.len s3.cap) w fun w=>
 ∃m4:Nat,m4 < m3 /\ aS (IntKind.i64.wrap (t64+1)) m4 w)) else (R p 0 w)))))
theorem Pp {aA ah free w R} (h:f64 aA ah free w R):Vh aA ah free w R:=
  ag (H:=⟨[(5,⟨[(29,.i .i64)],[1,2,8,27,28]⟩),(13,⟨[(64,.i .i64)],[1,8,62,63]⟩)],[(17,⟨[],[1,8,13,62,63,64]⟩)]⟩) ct Tryz.func64 (cast (by kernel_rfl) h)
def f65 (p:Option Addr) (w:World) (R:Sl->World->Prop):Prop:=
 NN p fun(p_:Addr)=>
 Ld .sl w (p_.add 1) fun(ah:Sl)=>
 ∃ak:Sl->Int->Nat->World->Prop,(∃n:Nat,ak ⟨none,0,0⟩ 0 n w) /\ ∀out:Sl,∀t12:Int,∀m:Nat,∀w:World,ak out t12 m w->(if (decide (t12 < (ah.len:Int)))=true then (Jy p t12 w fun(al aC err:Int) w=>
 Nw (.cells #[.int .i64 0,.int .i64 0] 33) w fun(e:Addr) w=>
 St e (.int .i64 al) w fun w=>
 St (e.add 1) (.int .i64 aC) w fun w=>
 if (err ==0)=true then (Ld (.i .i64) w e fun(aN:Int)=>Ld (.i .i64) w (e.add 1) fun(bQ:Int)=>
 Nw (.cells #[.int .i64 aN,.int .i64 bQ] 33) w fun(b:Addr) w=>
 bZ .sl Tryz.prog (Builtin.append_ #[43,43] 43 #[.slice out.a out.len out.cap,.slice (some b) 1 1]) w fun(bH:Sl) w=>
 ∃m2:Nat,m2 < m /\ ak bH (IntKind.i64.wrap (t12+1)) m2 w) else (∃m2:Nat,m2 < m /\ ak out (IntKind.i64.wrap (t12+1)) m2 w)) else (R out w))
theorem Pq {p w R} (h:f65 p w R):Sp p w R:=
  ag (H:=⟨[(3,⟨[(3,.sl),(12,.i .i64)],[0,11]⟩)],[]⟩) ct Tryz.func65 (cast (by kernel_rfl) h)
def f66 (b:Sl) (w:World) (R:Int->Int->World->Prop):Prop:=
 ∃ak:Int->Int->Nat->World->Prop,(∃n:Nat,ak 0 0 n w) /\ ∀n_:Int,∀t9:Int,∀m:Nat,∀w:World,ak n_ t9 m w->(if (decide (t9 < (b.len:Int)))=true then (Ix b.a b.len t9 1 fun(a:Addr)=>
 Ld (.i .u8) w a fun(c:Int)=>
 if (cond (t9 ==9) (decide (c > 1)) false)=true then (R 0 0 w) else ((0:Int)<=(IntKind.i64.wrap (7*t9)) /\ (if (decide (c>=128))=true then (∃m2:Nat,m2 < m /\ ak (IntKind.u64.wrap ((BitVec.ofInt 64 n_ ||| BitVec.ofInt 64 (IntKind.u64.wrap ((IntKind.u64.wrap (IntKind.u8.wrap ((BitVec.ofInt 8 c &&& BitVec.ofInt 8 127).toNat:Nat)))*2 ^ (min (Int.toNat (IntKind.i64.wrap (7*t9))) 64)))).toNat:Nat)) (IntKind.i64.wrap (t9+1)) m2 w) else (if (cond (c ==0) (decide (t9 > 0)) false)=true then (R 0 0 w) else (R (IntKind.u64.wrap ((BitVec.ofInt 64 n_ ||| BitVec.ofInt 64 (IntKind.u64.wrap ((IntKind.u64.wrap (IntKind.u8.wrap ((BitVec.ofInt 8 c &&& BitVec.ofInt 8 127).toNat:Nat)))*2 ^ (min (Int.toNat (IntKind.i64.wrap (7*t9))) 64)))).toNat:Nat)) (IntKind.i64.wrap (t9+1)) w))))) else (R 0 0 w))
theorem Pr {b w R} (h:f66 b w R):Sq b w R:=
  ag (H:=⟨[(3,⟨[(4,.i .u64),(9,.i .i64)],[7,8]⟩)],[]⟩) ct Tryz.func66 (cast (by kernel_rfl) h)
def f67 (b:Sl) (w:World) (R:Int->Int->World->Prop):Prop:=
 Sq b w fun(n_ size:Int) w=>
 F3 n_ w fun(r:Int) w=>
 R r size w
theorem Ps {b w R} (h:f67 b w R):WT b w R:=
  ag (H:=⟨[],[]⟩) ct Tryz.func67 (cast (by kernel_rfl) h)
def f68 (kinds:Sl) (w:World) (R:Bool->World->Prop):Prop:=
 ∃ak:Sl->Int->Nat->World->Prop,(∃n:Nat,ak ⟨none,0,0⟩ 0 n w) /\ ∀names:Sl,∀i:Int,∀m:Nat,∀w:World,ak names i m w->(if (decide (i < (kinds.len:Int)))=true then (Ix kinds.a kinds.len i 2 fun(a:Addr)=>
 Ld .sl w (a.add 1) fun(cn:Sl)=>
 Jz cn w fun(Om:Bool) w=>
 ∃J_:World->Prop,(if (!Om)=true then (R false w) else (Ix kinds.a kinds.len i 2 fun(a2:Addr)=>
 Ld .sl w (a2.add 1) fun(fu:Sl)=>
 if (decide ((fu.len:Int) > 4))=true then (R false w) else (J_ w))) /\ ∀w:World,J_ w->(Ix kinds.a kinds.len i 2 fun(a3:Addr)=>
 Ld .s w a3 fun(Name:ByteArray)=>
 Nw (.cells #[.string Name] 9) w fun(b:Addr) w=>
 bZ .sl Tryz.prog (Builtin.append_ #[45,45] 45 #[.slice names.a names.len names.cap,.slice (some b) 1 1]) w fun(mO:Sl) w=>
 ∃m2:Nat,m2 < m /\ ak mO (IntKind.i64.wrap (i+1)) m2 w)) else (Jz names w fun(SL:Bool) w=>
 R (cond (cond SL (decide ((kinds.len:Int)>=1)) false) (decide ((kinds.len:Int)<=12)) false) w))
theorem Pt {kinds w R} (h:f68 kinds w R):WU kinds w R:=
  ag (H:=⟨[(3,⟨[(3,.sl),(4,.i .i64)],[0]⟩)],[(8,⟨[],[0,3,4]⟩)]⟩) ct Tryz.func68 (cast (by kernel_rfl) h)
def f69 (kinds b:Sl) (w:World) (R:Option Addr->Int->World->Prop):Prop:=
 JA b 200 w fun(one:Sl) (n_:Int) w=>
 if (n_ ==0)=true then (R none 0 w) else (Cut ⟨b.a,b.len,b.cap⟩ n_ (b.len:Int) (b.cap:Int) 1 fun(s:Sl)=>
 JA s 200 w fun(two:Sl) (k:Int) w=>
 JB one w fun(ah:Sl) (x:Bool) w=>
 JB two w fun(free:Sl) (y:Bool) w=>
 if (cond (cond (k ==0) true (!x)) true (!y))=true then (R none 0 w) else (NC 200 ah free w fun(p:Option Addr) (e:Int) w=>
 if (e !=0)=true then (R none 0 w) else (W1 kinds w fun(r:Sl) w=>
 Nw (.cells #[.slice r.a r.len r.cap,.pointer p,.slice none 0 0] 73) w fun(w_:Addr) w=>
 ND p w fun(all:Sl) w=>
 ∃ak:Int->Nat->World->Prop,(∃n:Nat,ak 0 n w) /\ ∀i:Int,∀m:Nat,∀w:World,ak i m w->(if (decide (i < (all.len:Int)))=true then (Dr w fun w=>
 Ld .sl w (w_.add 2) fun(L:Sl)=>
 Ix all.a all.len i 2 fun(a:Addr)=>
 Ld (.i .i64) w a fun(iZ:Int)=>Ld (.i .i64) w (a.add 1) fun(pP:Int)=>
 Nw (.cells #[.int .i64 iZ,.int .i64 pP,.slice none 0 0] 75) w fun(b2:Addr) w=>
 bZ .sl Tryz.prog (Builtin.append_ #[71,71] 71 #[.slice L.a L.len L.cap,.slice (some b2) 1 1]) w fun(s2:Sl) w=>
 St (w_.add 2) (.slice s2.a s2.len s2.cap) w fun w=>
 ∃m2:Nat,m2 < m /\ ak (IntKind.i64.wrap (i+1)) m2 w) else (R (some w_) (IntKind.i64.wrap (n_+k)) w)))))
theorem Pu {kinds b w R} (h:f69 kinds b w R):WV kinds b w R:=
  ag (H:=⟨[(15,⟨[(18,.i .i64)],[7,9,16,17]⟩)],[]⟩) ct Tryz.func69 (cast (by kernel_rfl) h)
def f70 (b:Sl) (w:World) (R:Int->Int->World->Prop):Prop:=
 ∃ak:Int->Int->Nat->World->Prop,(∃n:Nat,ak 0 0 n w) /\ ∀n_:Int,∀i:Int,∀m:Nat,∀w:World,ak n_ i m w->(if (cond (decide (i < 10)) (decide (i < (b.len:Int))) false)=true then (Ix b.a b.len i 1 fun(a:Addr)=>
 Ld (.i .u8) w a fun(x:Int)=>
 if (cond (i ==9) (decide ((IntKind.u64.wrap x) > 1)) false)=true then (R 0 0 w) else ((128:Int)≠0 /\ ((0:Int)<=(IntKind.i64.wrap (7*i)) /\ (if (decide ((IntKind.u64.wrap x)>=128))=true then (∃m2:Nat,m2 < m /\ ak (IntKind.u64.wrap (n_+(IntKind.u64.wrap ((Int.tmod (IntKind.u64.wrap x) 128)*2 ^ (min (Int.toNat (IntKind.i64.wrap (7*i))) 64))))) (IntKind.i64.wrap (i+1)) m2 w) else (if (cond ((IntKind.u64.wrap x) ==0) (decide (i > 0)) false)=true then (R 0 0 w) else (R (IntKind.u64.wrap (n_+(IntKind.u64.wrap ((Int.tmod (IntKind.u64.wrap x) 128)*2 ^ (min (Int.toNat (IntKind.i64.wrap (7*i))) 64))))) (IntKind.i64.wrap (i+1)) w)))))) else (R 0 0 w))
theorem Pv {b w R} (h:f70 b w R):Nt b w R:=
  ag (H:=⟨[(3,⟨[(4,.i .u64),(5,.i .i64)],[0]⟩)],[]⟩) ct Tryz.func70 (cast (by kernel_rfl) h)
def f71 (b:Sl) (w:World) (R:Int->Int->World->Prop):Prop:=
 Nt b w fun(n_ k:Int) w=>
 if (k ==0)=true then (R 0 0 w) else (NF n_ w fun(r:Int) w=>
 R r k w)
theorem Pw {b w R} (h:f71 b w R):Vi b w R:=
  ag (H:=⟨[],[]⟩) ct Tryz.func71 (cast (by kernel_rfl) h)
def f72 (w_:Option Addr) (al aC:Int) (w:World) (R:Int->World->Prop):Prop:=
 Nw (.cells #[.int .i64 al,.int .i64 aC] 33) w fun(e:Addr) w=>
 ∃ak:Int->Nat->World->Prop,(∃n:Nat,ak 0 n w) /\ ∀i:Int,∀m:Nat,∀w:World,ak i m w->(NN w_ fun(iY:Addr)=>
 Ld .sl w (iY.add 2) fun(L:Sl)=>
 if (decide (i < (L.len:Int)))=true then (Dr w fun w=>
 NN w_ fun(oP:Addr)=>
 Ld .sl w (oP.add 2) fun(L2:Sl)=>
 Ix L2.a L2.len i 3 fun(a:Addr)=>
 Ld (.i .i64) w a fun(hJ:Int)=>Ld (.i .i64) w (a.add 1) fun(ow:Int)=>
 Ld (.i .i64) w e fun(aN:Int)=>Ld (.i .i64) w (e.add 1) fun(bQ:Int)=>
 hZ .b Tryz.prog (cl .eql 33 (.tmp 22) (.tmp 23) (.agg #[.int .i64 hJ,.int .i64 ow]) (.agg #[.int .i64 aN,.int .i64 bQ])) w fun(eq:Bool)=>
 if eq=true then (R i w) else (∃m2:Nat,m2 < m /\ ak (IntKind.i64.wrap (i+1)) m2 w)) else (R (-1) w))
theorem Px {w_ al aC w R} (h:f72 w_ al aC w R):WW w_ al aC w R:=
  ag (H:=⟨[(2,⟨[(5,.i .i64)],[0,3]⟩)],[]⟩) ct Tryz.func72 (cast (by kernel_rfl) h)
def f73 (p:Option Addr) (al aC:Int) (w:World) (R:Int->World->Prop):Prop:=
 Nw (.cells #[.int .i64 al,.int .i64 aC] 33) w fun(e:Addr) w=>
 Ld (.i .i64) w e fun(aN:Int)=>Ld (.i .i64) w (e.add 1) fun(bQ:Int)=>
 NG p aN bQ w fun(bt:Bool) w=>
 if (!bt)=true then (R 41 w) else (Dr w fun w=>
 NN p fun(p_:Addr)=>
 Ld .sl w (p_.add 2) fun(On:Sl)=>
 Ld (.i .i64) w e fun(Index:Int)=>
 Ix On.a On.len Index 1 fun(a:Addr)=>
 St a (.bool false) w fun w=>
 Ld (.i .i64) w (e.add 1) fun(SK:Int)=>
 if (decide (SK < 1000000))=true then (NN p fun(qS:Addr)=>
 Ld .sl w (qS.add 3) fun(oT:Sl)=>
 bZ .sl Tryz.prog (Builtin.append_ #[49,49] 49 #[.slice none 0 0,.slice oT.a oT.len oT.cap]) w fun(free:Sl) w=>
 Ld (.i .i64) w e fun(oS:Int)=>
 Nw (.cells #[.int .i64 oS] 3) w fun(b:Addr) w=>
 bZ .sl Tryz.prog (Builtin.append_ #[49,49] 49 #[.slice free.a free.len free.cap,.slice (some b) 1 1]) w fun(s:Sl) w=>
 NN p fun(sS:Addr)=>
 St (sS.add 3) (.slice s.a s.len s.cap) w fun w=>
 R 0 w) else (R 0 w))
theorem Py {p al aC w R} (h:f73 p al aC w R):WX p al aC w R:=
  ag (H:=⟨[],[]⟩) ct Tryz.func73 (cast (by kernel_rfl) h)
def f74 (w_:Option Addr) (parts:Sl) (w:World) (R:Int->Int->Int->World->Prop):Prop:=
 Nw (.cells #[.int .i64 0,.int .i64 0] 33) w fun(a:Addr) w=>
 ∃ak:Sl->Int->Nat->World->Prop,(∃n:Nat,ak ⟨none,0,0⟩ 0 n w) /\ ∀all:Sl,∀i:Int,∀m:Nat,∀w:World,ak all i m w->(if (decide (i < (parts.len:Int)))=true then (Ix parts.a parts.len i 2 fun(a2:Addr)=>
 Ld (.i .i64) w a2 fun(Kind:Int)=>
 NH w_ Kind w fun(n_:Int) w=>
 if (decide (n_ < 0))=true then (St a (.int .i64 0) w fun w=>
 St (a.add 1) (.int .i64 0) w fun w=>
 Ld (.i .i64) w a fun(dc:Int)=>Ld (.i .i64) w (a.add 1) fun(fV:Int)=>
 R dc fV 60 w) else (Ix parts.a parts.len i 2 fun(a3:Addr)=>
 Ld (.i .i64) w a3 fun(kT:Int)=>
 NI all kT w fun(r:Int) w=>
 if (decide (r>=0))=true then (St a (.int .i64 0) w fun w=>
 St (a.add 1) (.int .i64 0) w fun w=>
 Ld (.i .i64) w a fun(eu:Int)=>Ld (.i .i64) w (a.add 1) fun(gZ:Int)=>
 R eu gZ 61 w) else (Ix parts.a parts.len i 2 fun(a4:Addr)=>
 Ld .sl w (a4.add 1) fun(cQ:Sl)=>
 if ((cQ.len:Int) !=n_)=true then (St a (.int .i64 0) w fun w=>
 St (a.add 1) (.int .i64 0) w fun w=>
 Ld (.i .i64) w a fun(gy:Int)=>Ld (.i .i64) w (a.add 1) fun(lL:Int)=>
 R gy lL 63 w) else (Ix parts.a parts.len i 2 fun(a5:Addr)=>
 Ld (.i .i64) w a5 fun(uo:Int)=>Ld .sl w (a5.add 1) fun(mP:Sl)=>
 NJ all uo mP w fun(SM:Sl) w=>
 ∃m2:Nat,m2 < m /\ ak SM (IntKind.i64.wrap (i+1)) m2 w)))) else (NN w_ fun(iY:Addr)=>
 Ld .p w (iY.add 1) fun(Gj:Option Addr)=>
 NK Gj w fun(al aC bad:Int) w=>
 Nw (.cells #[.int .i64 0,.int .i64 0] 33) w fun(e:Addr) w=>
 St e (.int .i64 al) w fun w=>
 St (e.add 1) (.int .i64 aC) w fun w=>
 if (bad !=0)=true then (St a (.int .i64 0) w fun w=>
 St (a.add 1) (.int .i64 0) w fun w=>
 Ld (.i .i64) w a fun(ur:Int)=>Ld (.i .i64) w (a.add 1) fun(BF:Int)=>
 R ur BF bad w) else (Ld (.i .i64) w e fun(aN:Int)=>Ld (.i .i64) w (e.add 1) fun(bQ:Int)=>
 NL w_ aN bQ all w fun w=>
 Ld (.i .i64) w e fun(cg:Int)=>Ld (.i .i64) w (e.add 1) fun(dK:Int)=>
 St a (.int .i64 cg) w fun w=>
 St (a.add 1) (.int .i64 dK) w fun w=>
 Ld (.i .i64) w a fun(uu:Int)=>Ld (.i .i64) w (a.add 1) fun(BG:Int)=>
 R uu BG 0 w)))
theorem Pz {w_ parts w R} (h:f74 w_ parts w R):WY w_ parts w R:=
  ag (H:=⟨[(3,⟨[(6,.sl),(7,.i .i64)],[0,1,4]⟩)],[]⟩) ct Tryz.func74 (cast (by kernel_rfl) h)
def f75 (l dG:Sl) (w:World) (R:Bool->World->Prop):Prop:=
 Cut ⟨l.a,l.len,l.cap⟩ 0 (IntKind.i64.wrap ((dG.len:Int)+8)) (l.cap:Int) 2 fun(l2:Sl)=>
 ∃ak:Int->Nat->World->Prop,(∃n:Nat,ak 0 n w) /\ ∀i:Int,∀m:Nat,∀w:World,ak i m w->(if (decide (i < (l2.len:Int)))=true then (if (decide (i>=(dG.len:Int)))=true then (Ix l2.a l2.len i 2 fun(a:Addr)=>
 Ld (.i .i64) w a fun(Kind:Int)=>
 if (Kind !=77)=true then (R false w) else (Ix l2.a l2.len i 2 fun(a2:Addr)=>
 Ld .sl w (a2.add 1) fun(cQ:Sl)=>
 if (!cQ.a.isNone)=true then (R false w) else (∃m2:Nat,m2 < m /\ ak (IntKind.i64.wrap (i+1)) m2 w))) else (Dr w fun w=>
 Ix l2.a l2.len i 2 fun(a3:Addr)=>
 Ld .sl w (a3.add 1) fun(dq:Sl)=>
 Ix dG.a dG.len i 2 fun(a4:Addr)=>
 Ld .sl w (a4.add 1) fun(JO:Sl)=>
 W2 dq JO w fun(ok:Bool) w=>
 Dr w fun w=>
 if (!ok)=true then (R false w) else (Ix l2.a l2.len i 2 fun(a5:Addr)=>
 Ld (.i .i64) w a5 fun(kT:Int)=>
 Ix dG.a dG.len i 2 fun(a6:Addr)=>
 Ld (.i .i64) w a6 fun(pO:Int)=>
 if (kT !=pO)=true then (R false w) else (∃m2:Nat,m2 < m /\ ak (IntKind.i64.wrap (i+1)) m2 w)))) else (R true w))
theorem PA {l dG w R} (h:f75 l dG w R):WZ l dG w R:=
  ag (H:=⟨[(3,⟨[(5,.i .i64)],[0,1]⟩)],[]⟩) ct Tryz.func75 (cast (by kernel_rfl) h)
def f76 (l:Sl) (w:World) (R:Sl->World->Prop):Prop:=
 bZ .sl Tryz.prog (Builtin.append_ #[34,34] 34 #[.slice none 0 0,.slice l.a l.len l.cap]) w fun(out:Sl) w=>
 ∃ak:Sl->Int->Nat->World->Prop,(∃n:Nat,ak out 0 n w) /\ ∀bH:Sl,∀i:Int,∀m:Nat,∀w:World,ak bH i m w->(if (decide (i < 8))=true then (Nw (.cells #[.int .i64 77] 2) w fun(b:Addr) w=>
 bZ .sl Tryz.prog (Builtin.append_ #[34,34] 34 #[.slice bH.a bH.len bH.cap,.slice (some b) 1 1]) w fun(fa:Sl) w=>
 ∃m2:Nat,m2 < m /\ ak fa (IntKind.i64.wrap (i+1)) m2 w) else (Cut ⟨bH.a,bH.len,bH.cap⟩ 0 (l.len:Int) (bH.cap:Int) 1 fun(s:Sl)=>
 R s w))
theorem PB {l w R} (h:f76 l w R):W0 l w R:=
  ag (H:=⟨[(4,⟨[(3,.sl),(4,.i .i64)],[0]⟩)],[]⟩) ct Tryz.func76 (cast (by kernel_rfl) h)
def f77 (aA:Int) (w:World) (R:Option Addr->Int->World->Prop):Prop:=
 if (cond (decide (aA < 1)) true (decide (aA > 200)))=true then (R none 1 w) else (Nw (.cells #[.int .i64 aA,.slice none 0 0,.slice none 0 0,.slice none 0 0] 177) w fun(a:Addr) w=>
 R (some a) 0 w)
theorem Gy {aA w R} (h:f77 aA w R):Vj aA w R:=
  ag (H:=⟨[],[]⟩) ct Tryz.func77 (cast (by kernel_rfl) h)
def f78 (kinds:Sl) (w:World) (R:Sl->World->Prop):Prop:=
 ∃ak:Sl->Int->Nat->World->Prop,(∃n:Nat,ak ⟨none,0,0⟩ 0 n w) /\ ∀out:Sl,∀i:Int,∀m:Nat,∀w:World,ak out i m w->(if (decide (i < (kinds.len:Int)))=true then (Ix kinds.a kinds.len i 2 fun(a:Addr)=>
 Ld .s w a fun(Name:ByteArray)=>
 Nw (.cells #[.string (⟨#[]⟩:ByteArray),.slice none 0 0] 107) w fun(k:Addr) w=>
 St k (.string Name) w fun w=>
 St (k.add 1) (.slice none 0 0) w fun w=>
 Dr w fun w=>
 Ld .sl w (k.add 1) fun(cn:Sl)=>
 Ix kinds.a kinds.len i 2 fun(a2:Addr)=>
 Ld .sl w (a2.add 1) fun(fu:Sl)=>
 bZ .sl Tryz.prog (Builtin.append_ #[45,45] 45 #[.slice cn.a cn.len cn.cap,.slice fu.a fu.len fu.cap]) w fun(s:Sl) w=>
 St (k.add 1) (.slice s.a s.len s.cap) w fun w=>
 Ld .s w k fun(BI:ByteArray)=>Ld .sl w (k.add 1) fun(jy:Sl)=>
 Nw (.cells #[.string BI,.slice jy.a jy.len jy.cap] 107) w fun(b:Addr) w=>
 bZ .sl Tryz.prog (Builtin.append_ #[22,22] 22 #[.slice out.a out.len out.cap,.slice (some b) 1 1]) w fun(bH:Sl) w=>
 ∃m2:Nat,m2 < m /\ ak bH (IntKind.i64.wrap (i+1)) m2 w) else (R out w))
theorem PD {kinds w R} (h:f78 kinds w R):W1 kinds w R:=
  ag (H:=⟨[(3,⟨[(3,.sl),(4,.i .i64)],[0]⟩)],[]⟩) ct Tryz.func78 (cast (by kernel_rfl) h)
def f79 (l:Sl) (w:World) (R:Sl->World->Prop):Prop:=
 bZ .sl Tryz.prog (Builtin.append_ #[34,34] 34 #[.slice none 0 0,.slice l.a l.len l.cap]) w fun(s:Sl) w=>
 R s w
theorem PE {l w R} (h:f79 l w R):Vk l w R:=
  ag (H:=⟨[],[]⟩) ct Tryz.func79 (cast (by kernel_rfl) h)
def f83 (l dG:Sl) (w:World) (R:Bool->World->Prop):Prop:=
 ∃J_:World->Prop,(if ((l.len:Int) !=(dG.len:Int))=true then (R false w) else (if (decide ((l.cap:Int) < (IntKind.i64.wrap ((dG.len:Int)+8))))=true then (R false w) else (J_ w))) /\ ∀w:World,J_ w->(Cut ⟨l.a,l.len,l.cap⟩ 0 (IntKind.i64.wrap ((dG.len:Int)+8)) (l.cap:Int) 1 fun(l2:Sl)=>
 ∃ak:Int->Nat->World->Prop,(∃n:Nat,ak 0 n w) /\ ∀i:Int,∀m:Nat,∀w:World,ak i m w->(if (decide (i < (l2.len:Int)))=true then (∃lv:Int->World->Prop,(if (decide (i < (dG.len:Int)))=true then (Ix dG.a dG.len i 1 fun(a:Addr)=>
 Ld (.i .i64) w a fun(want:Int)=>
 lv want w) else (lv 77 w)) /\ ∀L6:Int,∀w:World,lv L6 w->(Ix l2.a l2.len i 1 fun(a2:Addr)=>
 Ld (.i .i64) w a2 fun(x:Int)=>
 if (x !=L6)=true then (R false w) else (∃m2:Nat,m2 < m /\ ak (IntKind.i64.wrap (i+1)) m2 w))) else (R true w)))
theorem PF {l dG w R} (h:f83 l dG w R):W2 l dG w R:=
  ag (H:=⟨[(5,⟨[(5,.i .i64)],[0,1]⟩)],[(3,⟨[],[0,1]⟩),(10,⟨[(6,.i .i64)],[0,1,5]⟩)]⟩) ct Tryz.func83 (cast (by kernel_rfl) h)
def f91 (a b:Sl) (w:World) (R:Bool->World->Prop):Prop:=
 if ((a.len:Int) !=(b.len:Int))=true then (R false w) else (∃ak:Int->Nat->World->Prop,(∃n:Nat,ak 0 n w) /\ ∀i:Int,∀m:Nat,∀w:World,ak i m w->(if (decide (i < (a.len:Int)))=true then (Dr w fun w=>
 Ix a.a a.len i 2 fun(a2:Addr)=>
 Ld .sl w (a2.add 1) fun(cQ:Sl)=>
 Ix b.a b.len i 2 fun(a3:Addr)=>
 Ld .sl w (a3.add 1) fun(dq:Sl)=>
 NO cQ dq w fun(ok:Bool) w=>
 Dr w fun w=>
 if (!ok)=true then (R false w) else (Ix a.a a.len i 2 fun(a4:Addr)=>
 Ld (.i .i64) w a4 fun(Kind:Int)=>
 Ix b.a b.len i 2 fun(a5:Addr)=>
 Ld (.i .i64) w a5 fun(kT:Int)=>
 if (Kind !=kT)=true then (R false w) else (∃m2:Nat,m2 < m /\ ak (IntKind.i64.wrap (i+1)) m2 w))) else (R true w)))
theorem PG {a b w R} (h:f91 a b w R):W3 a b w R:=
  ag (H:=⟨[(4,⟨[(5,.i .i64)],[0,1]⟩)],[]⟩) ct Tryz.func91 (cast (by kernel_rfl) h)
def f93 (b:Option Addr) (l:Sl) (w:World) (R:World->Prop):Prop:=
 NN b fun(b_:Addr)=>
 Ld .sl w b_ fun(v:Sl)=>
 ∃ak:Int->Nat->World->Prop,(∃n:Nat,ak 0 n w) /\ ∀i:Int,∀m:Nat,∀w:World,ak i m w->(if (decide (i < (l.len:Int)))=true then (Ix l.a l.len i 1 fun(a:Addr)=>
 St a (.int .i64 (IntKind.i64.wrap (1000000+(v.len:Int)))) w fun w=>
 ∃m2:Nat,m2 < m /\ ak (IntKind.i64.wrap (i+1)) m2 w) else (NN b fun(OQ:Addr)=>
 Ld .sl w OQ fun(v2:Sl)=>
 Nw (.cells #[.slice l.a l.len l.cap] 34) w fun(b2:Addr) w=>
 bZ .sl Tryz.prog (Builtin.append_ #[46,46] 46 #[.slice v2.a v2.len v2.cap,.slice (some b2) 1 1]) w fun(s:Sl) w=>
 NN b fun(OS:Addr)=>
 St OS (.slice s.a s.len s.cap) w fun w=>
 NN b fun(OT:Addr)=>
 Ld .sl w (OT.add 3) fun(x:Sl)=>
 Nw (.cells #[.int .i64 (IntKind.i64.wrap (1000000+(v.len:Int)))] 2) w fun(b3:Addr) w=>
 bZ .sl Tryz.prog (Builtin.append_ #[34,34] 34 #[.slice x.a x.len x.cap,.slice (some b3) 1 1]) w fun(s2:Sl) w=>
 NN b fun(OU:Addr)=>
 St (OU.add 3) (.slice s2.a s2.len s2.cap) w fun w=>
 R w))
theorem PH {b l w R} (h:f93 b l w R):W4 b l w R:=
  ag (H:=⟨[(2,⟨[(5,.i .i64)],[0,1,4]⟩)],[]⟩) ct Tryz.func93 (cast (by kernel_rfl) h)
def f94 (b:Option Addr) (l:Sl) (w:World) (R:World->Prop):Prop:=
 NN b fun(b_:Addr)=>
 Ld .sl w (b_.add 1) fun(p:Sl)=>
 ∃ak:Int->Nat->World->Prop,(∃n:Nat,ak 0 n w) /\ ∀i:Int,∀m:Nat,∀w:World,ak i m w->(if (decide (i < (l.len:Int)))=true then (Ix l.a l.len i 2 fun(a:Addr)=>
 Ld .sl w (a.add 1) fun(cQ:Sl)=>
 W4 b cQ w fun w=>
 Ix l.a l.len i 2 fun(a2:Addr)=>
 St a2 (.int .i64 (IntKind.i64.wrap (1000000+(p.len:Int)))) w fun w=>
 St (a2.add 1) (.slice none 0 0) w fun w=>
 ∃m2:Nat,m2 < m /\ ak (IntKind.i64.wrap (i+1)) m2 w) else (NN b fun(OQ:Addr)=>
 Ld .sl w (OQ.add 1) fun(p2:Sl)=>
 Nw (.cells #[.slice l.a l.len l.cap] 37) w fun(b2:Addr) w=>
 bZ .sl Tryz.prog (Builtin.append_ #[47,47] 47 #[.slice p2.a p2.len p2.cap,.slice (some b2) 1 1]) w fun(s:Sl) w=>
 NN b fun(OS:Addr)=>
 St (OS.add 1) (.slice s.a s.len s.cap) w fun w=>
 NN b fun(OT:Addr)=>
 Ld .sl w (OT.add 4) fun(y:Sl)=>
 Nw (.cells #[.int .i64 (IntKind.i64.wrap (1000000+(p.len:Int)))] 3) w fun(b3:Addr) w=>
 bZ .sl Tryz.prog (Builtin.append_ #[49,49] 49 #[.slice y.a y.len y.cap,.slice (some b3) 1 1]) w fun(s2:Sl) w=>
 NN b fun(OU:Addr)=>
 St (OU.add 4) (.slice s2.a s2.len s2.cap) w fun w=>
 R w))
theorem PI {b l w R} (h:f94 b l w R):W5 b l w R:=
  ag (H:=⟨[(2,⟨[(5,.i .i64)],[0,1,4]⟩)],[]⟩) ct Tryz.func94 (cast (by kernel_rfl) h)
def f97 (s:Sl) (w:World) (R:Sl->World->Prop):Prop:=
 if s.a.isNone=true then (R ⟨none,0,0⟩ w) else (Nw (.cells #[] 3) w fun(b:Addr) w=>
 bZ .sl Tryz.prog (Builtin.append_ #[49,49] 49 #[.slice (some b) 0 0,.slice s.a s.len s.cap]) w fun(s2:Sl) w=>
 R s2 w)
theorem PJ {s w R} (h:f97 s w R):Vl s w R:=
  ag (H:=⟨[],[]⟩) ct Tryz.func97 (cast (by kernel_rfl) h)
def f98 (b:Sl) (w:World) (R:Sl->World->Prop):Prop:=
 bZ .sl Tryz.prog (Builtin.append_ #[23,23] 23 #[.slice none 0 0,.slice b.a b.len b.cap]) w fun(s:Sl) w=>
 R s w
theorem BM {b w R} (h:f98 b w R):Vm b w R:=
  ag (H:=⟨[],[]⟩) ct Tryz.func98 (cast (by kernel_rfl) h)
def f99 (l:Sl) (w:World) (R:Sl->World->Prop):Prop:=
 Nw (.cells #[.slice l.a l.len l.cap] 34) w fun(l2:Addr) w=>
 Ld .sl w l2 fun(l3:Sl)=>
 yi ⟨none,0,0⟩ (IntKind.u64.wrap (l3.len:Int)) w fun(head:Sl) w=>
 Nw (.cells #[.slice none 0 0] 23) w fun(pQ:Addr) w=>
 St pQ (.slice head.a head.len head.cap) w fun w=>
 Ld .sl w l2 fun(l4:Sl)=>
 if ((l4.len:Int) ==0)=true then (Ld .sl w pQ fun(SN:Sl)=>
 R SN w) else (∃ak:Sl->Int->Nat->World->Prop,(∃n:Nat,ak ⟨none,0,0⟩ 0 n w) /\ ∀jz:Sl,∀t17:Int,∀m:Nat,∀w:World,ak jz t17 m w->(if (decide (t17 < 3))=true then (FA Tryz.prog (.func (.func 142) #[] #[.pointer (some pQ),.pointer (some l2)]) [.int .u8 t17] [.one .sl] w fun(r:Sl) w=>
 if (cond jz.a.isNone true (decide ((r.len:Int) < (jz.len:Int))))=true then (∃m2:Nat,m2 < m /\ ak r (IntKind.u8.wrap (t17+1)) m2 w) else (∃m2:Nat,m2 < m /\ ak jz (IntKind.u8.wrap (t17+1)) m2 w)) else (R jz w)))
theorem PK {l w R} (h:f99 l w R):Vn l w R:=
  ag (H:=⟨[(7,⟨[(5,.sl),(17,.i .u8)],[4]⟩)],[]⟩) ct Tryz.func99 (cast (by kernel_rfl) h)
def f100 (w_:Option Addr) (al aC:Int) (w:World) (R:Int->Int->Sl->World->Prop):Prop:=
 Nw (.cells #[.int .i64 al,.int .i64 aC] 33) w fun(e:Addr) w=>
 Nw (.cells #[.int .i64 0,.int .i64 0,.slice none 0 0] 75) w fun(a:Addr) w=>
 Ld (.i .i64) w e fun(aN:Int)=>Ld (.i .i64) w (e.add 1) fun(bQ:Int)=>
 Nw (.cells #[.int .i64 0,.int .i64 0,.slice none 0 0] 75) w fun(r:Addr) w=>
 St r (.int .i64 aN) w fun w=>
 St (r.add 1) (.int .i64 bQ) w fun w=>
 St (r.add 2) (.slice none 0 0) w fun w=>
 Dr w fun w=>
 NN w_ fun(iY:Addr)=>
 Ld .m w (iY.add 2) fun(aJ:Option Nat)=>
 Ld (.i .i64) w e fun(cg:Int)=>Ld (.i .i64) w (e.add 1) fun(dK:Int)=>
 gp [.one (.i .i64)] Tryz.prog (Instr.lookup 88 (.map aJ) (.agg #[.int .i64 cg,.int .i64 dK]) false) w fun(set:Int) _=>
 NN w_ fun(oP:Addr)=>
 Ld .sl w oP fun(kinds:Sl)=>
 ∃ak:Int->Nat->World->Prop,(∃n:Nat,ak 0 n w) /\ ∀t21:Int,∀m:Nat,∀w:World,ak t21 m w->(if (decide (t21 < (kinds.len:Int)))=true then ((0:Int)<=(IntKind.i64.wrap (t21+1)) /\ (if ((IntKind.i64.wrap ((BitVec.ofInt 64 (Int.fdiv set (2 ^ (min (Int.toNat (IntKind.i64.wrap (t21+1))) 64))) &&& BitVec.ofInt 64 1).toNat:Nat)) ==1)=true then (Dr w fun w=>
 Ld .sl w (r.add 2) fun(dP:Sl)=>
 Ld (.i .i64) w e fun(jx:Int)=>Ld (.i .i64) w (e.add 1) fun(oQ:Int)=>
 NM w_ jx oQ set (IntKind.i64.wrap (t21+1)) w fun(BN:Int) (mQ:Sl) w=>
 w.cell? (r.add 2)=some (.slice dP.a dP.len dP.cap) /\ (Nw (.cells #[.int .i64 BN,.slice mQ.a mQ.len mQ.cap] 36) w fun(b:Addr) w=>
 bZ .sl Tryz.prog (Builtin.append_ #[37,37] 37 #[.slice dP.a dP.len dP.cap,.slice (some b) 1 1]) w fun(s:Sl) w=>
 St (r.add 2) (.slice s.a s.len s.cap) w fun w=>
 ∃m2:Nat,m2 < m /\ ak (IntKind.i64.wrap (t21+1)) m2 w)) else (∃m2:Nat,m2 < m /\ ak (IntKind.i64.wrap (t21+1)) m2 w))) else (Ld (.i .i64) w r fun(dL:Int)=>Ld (.i .i64) w (r.add 1) fun(fM:Int)=>Ld .sl w (r.add 2) fun(cH:Sl)=>
 St a (.int .i64 dL) w fun w=>
 St (a.add 1) (.int .i64 fM) w fun w=>
 St (a.add 2) (.slice cH.a cH.len cH.cap) w fun w=>
 Ld (.i .i64) w a fun(oU:Int)=>Ld (.i .i64) w (a.add 1) fun(uy:Int)=>Ld .sl w (a.add 2) fun(mR:Sl)=>
 R oU uy mR w))
theorem JP {w_ al aC w R} (h:f100 w_ al aC w R):Nu w_ al aC w R:=
  ag (H:=⟨[(4,⟨[(21,.i .i64)],[0,3,4,5,6,20]⟩)],[]⟩) ct Tryz.func100 (cast (by kernel_rfl) h)
def f101 (b:Sl) (n_:Int) (w:World) (R:Sl->World->Prop):Prop:=
 ∃ak:Sl->Int->Nat->World->Prop,(∃n:Nat,ak b n_ n w) /\ ∀b2:Sl,∀qT:Int,∀m:Nat,∀w:World,ak b2 qT m w->(if (decide (qT>=128))=true then (Nw (.cells #[.int .u8 (IntKind.u8.wrap ((BitVec.ofInt 8 (IntKind.u8.wrap qT) ||| BitVec.ofInt 8 128).toNat:Nat))] 5) w fun(b3:Addr) w=>
 bZ .sl Tryz.prog (Builtin.append_ #[23,23] 23 #[.slice b2.a b2.len b2.cap,.slice (some b3) 1 1]) w fun(b4:Sl) w=>
 (0:Int)<=7 /\ (∃m2:Nat,m2 < m /\ ak b4 (Int.fdiv qT (2 ^ (min (Int.toNat 7) 64))) m2 w)) else (Nw (.cells #[.int .u8 (IntKind.u8.wrap qT)] 5) w fun(b5:Addr) w=>
 bZ .sl Tryz.prog (Builtin.append_ #[23,23] 23 #[.slice b2.a b2.len b2.cap,.slice (some b5) 1 1]) w fun(s:Sl) w=>
 R s w))
theorem JQ {b n_ w R} (h:f101 b n_ w R):yi b n_ w R:=
  ag (H:=⟨[(1,⟨[(0,.sl),(1,.i .u64)],[]⟩)],[]⟩) ct Tryz.func101 (cast (by kernel_rfl) h)
def f102 (n_:Int) (w:World) (R:Int->World->Prop):Prop:=
 (0:Int)<=1 /\ ((0:Int)<=63 /\ (R (IntKind.u64.wrap ((BitVec.ofInt 64 (IntKind.u64.wrap (IntKind.i64.wrap (n_*2 ^ (min (Int.toNat 1) 64)))) ^^^ BitVec.ofInt 64 (IntKind.u64.wrap (Int.fdiv n_ (2 ^ (min (Int.toNat 63) 64))))).toNat:Nat)) w))
theorem CY {n_ w R} (h:f102 n_ w R):DW n_ w R:=
  ag (H:=⟨[],[]⟩) ct Tryz.func102 (cast (by kernel_rfl) h)
def f103 (t:Option Addr) (w:World) (R:Int->World->Prop):Prop:=
 NN t fun(t_:Addr)=>
 Ld .sl w t_ fun(aw:Sl)=>
 R (aw.len:Int) w
theorem JR {t w R} (h:f103 t w R):DX t w R:=
  ag (H:=⟨[],[]⟩) ct Tryz.func103 (cast (by kernel_rfl) h)
def f104 (l:Sl) (w:World) (R:Int->World->Prop):Prop:=
 ∃ak:Int->Int->Nat->World->Prop,(∃n:Nat,ak 0 0 n w) /\ ∀n_:Int,∀i:Int,∀m:Nat,∀w:World,ak n_ i m w->(if (decide (i < (l.len:Int)))=true then (Ix l.a l.len i 2 fun(a:Addr)=>
 Ld (.i .i64) w a fun(Kind:Int)=>
 (0:Int)<=Kind /\ (∃m2:Nat,m2 < m /\ ak (IntKind.i64.wrap (n_+(IntKind.i64.wrap (1*2 ^ (min (Int.toNat Kind) 64))))) (IntKind.i64.wrap (i+1)) m2 w)) else (R n_ w))
theorem JS {l w R} (h:f104 l w R):Ju l w R:=
  ag (H:=⟨[(3,⟨[(3,.i .i64),(4,.i .i64)],[0]⟩)],[]⟩) ct Tryz.func104 (cast (by kernel_rfl) h)
def f105 (w_:Option Addr) (w:World) (R:Sl->World->Prop):Prop:=
 NN w_ fun(iY:Addr)=>
 Ld .p w (iY.add 1) fun(Gj:Option Addr)=>
 NS Gj w fun(ah free:Sl) w=>
 JD ah w fun(r:Sl) w=>
 JC ⟨none,0,0⟩ r w fun(b:Sl) w=>
 JD free w fun(r2:Sl) w=>
 JC b r2 w fun(r3:Sl) w=>
 R r3 w
theorem JT {w_ w R} (h:f105 w_ w R):Nv w_ w R:=
  ag (H:=⟨[],[]⟩) ct Tryz.func105 (cast (by kernel_rfl) h)
def f106 (b:Sl) (n_:Int) (w:World) (R:Sl->World->Prop):Prop:=
 bZ .sl Tryz.prog (Builtin.append_ #[23,23] 23 #[.slice none 0 0,.slice b.a b.len b.cap]) w fun(out:Sl) w=>
 ∃ak:Int->Sl->Nat->World->Prop,(∃n:Nat,ak n_ out n w) /\ ∀qT:Int,∀bH:Sl,∀m:Nat,∀w:World,ak qT bH m w->(if (decide (qT>=128))=true then ((128:Int)≠0 /\ (Nw (.cells #[.int .u8 (IntKind.u8.wrap (IntKind.u64.wrap ((Int.tmod qT 128)+128)))] 5) w fun(b2:Addr) w=>
 bZ .sl Tryz.prog (Builtin.append_ #[23,23] 23 #[.slice bH.a bH.len bH.cap,.slice (some b2) 1 1]) w fun(fa:Sl) w=>
 (128:Int)≠0 /\ (∃m2:Nat,m2 < m /\ ak (IntKind.u64.wrap (Int.tdiv qT 128)) fa m2 w))) else (Nw (.cells #[.int .u8 (IntKind.u8.wrap qT)] 5) w fun(b3:Addr) w=>
 bZ .sl Tryz.prog (Builtin.append_ #[23,23] 23 #[.slice bH.a bH.len bH.cap,.slice (some b3) 1 1]) w fun(s:Sl) w=>
 R s w))
theorem JU {b n_ w R} (h:f106 b n_ w R):BB b n_ w R:=
  ag (H:=⟨[(3,⟨[(1,.i .u64),(5,.sl)],[]⟩)],[]⟩) ct Tryz.func106 (cast (by kernel_rfl) h)
def f107 (b:Sl) (n_:Int) (w:World) (R:Sl->World->Prop):Prop:=
 NT n_ w fun(r:Int) w=>
 BB b r w fun(r2:Sl) w=>
 R r2 w
theorem JV {b n_ w R} (h:f107 b n_ w R):DY b n_ w R:=
  ag (H:=⟨[],[]⟩) ct Tryz.func107 (cast (by kernel_rfl) h)
def f108 (n_:Int) (w:World) (R:Int->World->Prop):Prop:=
 if (decide (n_ < 4))=true then (R 70 w) else (R 9 w)
theorem JW {n_ w R} (h:f108 n_ w R):Jv n_ w R:=
  ag (H:=⟨[],[]⟩) ct Tryz.func108 (cast (by kernel_rfl) h)
def f109 (l:Sl) (w:World) (R:Bool->World->Prop):Prop:=
 ∃ak:Int->Nat->World->Prop,(∃n:Nat,ak 0 n w) /\ ∀t7:Int,∀m:Nat,∀w:World,ak t7 m w->(if (decide (t7 < (l.len:Int)))=true then (Ix l.a l.len t7 1 fun(a:Addr)=>
 Ld .s w a fun(s:ByteArray)=>
 NU s w fun(r:Bool) w=>
 if (!r)=true then (R false w) else (Cut ⟨l.a,l.len,l.cap⟩ 0 t7 (l.cap:Int) 1 fun(s2:Sl)=>
 NV s2 s w fun(r2:Bool) w=>
 if r2=true then (R false w) else (∃m2:Nat,m2 < m /\ ak (IntKind.i64.wrap (t7+1)) m2 w))) else (R true w))
theorem JX {l w R} (h:f109 l w R):Jw l w R:=
  ag (H:=⟨[(2,⟨[(7,.i .i64)],[0,5,6]⟩)],[]⟩) ct Tryz.func109 (cast (by kernel_rfl) h)
def f110 (s:Sl) (w:World) (R:Sl->World->Prop):Prop:=
 if s.a.isNone=true then (R ⟨none,0,0⟩ w) else (Nw (.cells #[] 107) w fun(b:Addr) w=>
 bZ .sl Tryz.prog (Builtin.append_ #[22,22] 22 #[.slice (some b) 0 0,.slice s.a s.len s.cap]) w fun(s2:Sl) w=>
 R s2 w)
theorem CZ {s w R} (h:f110 s w R):Jx s w R:=
  ag (H:=⟨[],[]⟩) ct Tryz.func110 (cast (by kernel_rfl) h)
def f111 (s:Sl) (w:World) (R:Sl->World->Prop):Prop:=
 if s.a.isNone=true then (R ⟨none,0,0⟩ w) else (Nw (.cells #[] 9) w fun(b:Addr) w=>
 bZ .sl Tryz.prog (Builtin.append_ #[45,45] 45 #[.slice (some b) 0 0,.slice s.a s.len s.cap]) w fun(s2:Sl) w=>
 R s2 w)
theorem JY {s w R} (h:f111 s w R):Nx s w R:=
  ag (H:=⟨[],[]⟩) ct Tryz.func111 (cast (by kernel_rfl) h)
def f114 (w_:Option Addr) (set:Int) (w:World) (R:Option Addr->World->Prop):Prop:=
 NN w_ fun(iY:Addr)=>
 Ld .m w (iY.add 3) fun(tables:Option Nat)=>
 gp [.one .p] Tryz.prog (Instr.lookup 89 (.map tables) (.int .i64 set) false) w fun(t:Option Addr) _=>
 if t.isNone=true then (NN w_ fun(oP:Addr)=>
 Ld .sl w oP fun(kinds:Sl)=>
 Ns w_ set (IntKind.i64.wrap ((kinds.len:Int)+1)) w fun(r:Int) w=>
 NW r w fun(t2:Option Addr) (r2:Int) w=>
 NN w_ fun(Gi:Addr)=>
 Ld .m w (Gi.add 3) fun(ym:Option Nat)=>
 sN Tryz.prog (Instr.mapUpdate 89 (.map ym) (.int .i64 set) (.pointer t2)) w fun w=>
 R t2 w) else (R t w)
theorem JZ {w_ set w R} (h:f114 w_ set w R):Ny w_ set w R:=
  ag (H:=⟨[],[]⟩) ct Tryz.func114 (cast (by kernel_rfl) h)
def f115 (t:Option Addr) (al aC:Int) (values:Sl) (w:World) (R:Int->Int->World->Prop):Prop:=
 Nw (.cells #[.int .i64 al,.int .i64 aC] 33) w fun(e:Addr) w=>
 Dr w fun w=>
 NN t fun(t_:Addr)=>
 Ld .m w (t_.add 2) fun(rows:Option Nat)=>
 Ld (.i .i64) w e fun(aN:Int)=>Ld (.i .i64) w (e.add 1) fun(bQ:Int)=>
 gp [.one (.i .i64),.one .b] Tryz.prog (Instr.lookup 88 (.map rows) (.agg #[.int .i64 aN,.int .i64 bQ]) true) w fun(e2:Int) (ok:Bool) _=>
 NN t fun(SO:Addr)=>
 Ld .sl w SO fun(aw:Sl)=>
 NN t fun(XG:Addr)=>
 Ld .sl w (XG.add 1) fun(dk:Sl)=>
 if ((values.len:Int) !=(dk.len:Int))=true then (R 0 63 w) else (if ok=true then (R 0 61 w) else (if (decide ((aw.len:Int)>=200))=true then (R 0 40 w) else (∃ak:Int->Nat->World->Prop,(∃n:Nat,ak 0 n w) /\ ∀t43:Int,∀m:Nat,∀w:World,ak t43 m w->(if (decide (t43 < (values.len:Int)))=true then (Ix values.a values.len t43 1 fun(a:Addr)=>
 Ld (.i .i64) w a fun(x:Int)=>
 Dr w fun w=>
 NN t fun(Vp:Addr)=>
 Ld .sl w (Vp.add 1) fun(iw:Sl)=>
 NN t fun(XH:Addr)=>
 Ld .sl w (XH.add 1) fun(zu:Sl)=>
 Ix zu.a zu.len t43 1 fun(a2:Addr)=>
 Ld .sl w a2 fun(x2:Sl)=>
 Nw (.cells #[.int .i64 x] 2) w fun(b:Addr) w=>
 bZ .sl Tryz.prog (Builtin.append_ #[34,34] 34 #[.slice x2.a x2.len x2.cap,.slice (some b) 1 1]) w fun(s:Sl) w=>
 w.cell? (Vp.add 1)=some (.slice iw.a iw.len iw.cap) /\ (Ix iw.a iw.len t43 1 fun(a3:Addr)=>
 St a3 (.slice s.a s.len s.cap) w fun w=>
 ∃m2:Nat,m2 < m /\ ak (IntKind.i64.wrap (t43+1)) m2 w)) else (Dr w fun w=>
 NN t fun(XI:Addr)=>
 Ld .sl w XI fun(nN:Sl)=>
 Ld (.i .i64) w e fun(cg:Int)=>Ld (.i .i64) w (e.add 1) fun(dK:Int)=>
 Nw (.cells #[.int .i64 cg,.int .i64 dK] 33) w fun(b2:Addr) w=>
 bZ .sl Tryz.prog (Builtin.append_ #[43,43] 43 #[.slice nN.a nN.len nN.cap,.slice (some b2) 1 1]) w fun(s2:Sl) w=>
 NN t fun(XJ:Addr)=>
 St XJ (.slice s2.a s2.len s2.cap) w fun w=>
 Dr w fun w=>
 NN t fun(XK:Addr)=>
 Ld .m w (XK.add 2) fun(Gz:Option Nat)=>
 Ld (.i .i64) w e fun(jx:Int)=>Ld (.i .i64) w (e.add 1) fun(oQ:Int)=>
 sN Tryz.prog (Instr.mapUpdate 88 (.map Gz) (.agg #[.int .i64 jx,.int .i64 oQ]) (.int .i64 (aw.len:Int))) w fun w=>
 R (aw.len:Int) 0 w)))))
theorem J0 {t al aC values w R} (h:f115 t al aC values w R):Nz t al aC values w R:=
  ag (H:=⟨[(10,⟨[(43,.i .i64)],[0,4,10,41,42]⟩)],[]⟩) ct Tryz.func115 (cast (by kernel_rfl) h)
def f116 (p:Option Addr) (al aC:Int) (w:World) (R:Bool->World->Prop):Prop:=
 Nw (.cells #[.int .i64 al,.int .i64 aC] 33) w fun(e:Addr) w=>
 Ld (.i .i64) w e fun(Index:Int)=>
 Jy p Index w fun(iZ pP err:Int) w=>
 Nw (.cells #[.int .i64 0,.int .i64 0] 33) w fun(x:Addr) w=>
 St x (.int .i64 iZ) w fun w=>
 St (x.add 1) (.int .i64 pP) w fun w=>
 if (err ==0)=true then (Ld (.i .i64) w x fun(mN:Int)=>Ld (.i .i64) w (x.add 1) fun(uv:Int)=>
 Ld (.i .i64) w e fun(aN:Int)=>Ld (.i .i64) w (e.add 1) fun(bQ:Int)=>
 hZ .b Tryz.prog (cl .eql 33 (.tmp 17) (.tmp 18) (.agg #[.int .i64 mN,.int .i64 uv]) (.agg #[.int .i64 aN,.int .i64 bQ])) w fun(eq:Bool)=>
 R eq w) else (R false w)
theorem J1 {p al aC w R} (h:f116 p al aC w R):F1 p al aC w R:=
  ag (H:=⟨[],[]⟩) ct Tryz.func116 (cast (by kernel_rfl) h)
def f117 (t:Option Addr) (row:Int) (w:World) (R:Int->Int->Sl->Int->World->Prop):Prop:=
 Nw (.cells #[.int .i64 0,.int .i64 0] 33) w fun(a:Addr) w=>
 JE t row w fun(r:Bool) w=>
 if (!r)=true then (St a (.int .i64 0) w fun w=>
 St (a.add 1) (.int .i64 0) w fun w=>
 Ld (.i .i64) w a fun(dc:Int)=>Ld (.i .i64) w (a.add 1) fun(fV:Int)=>
 R dc fV ⟨none,0,0⟩ 50 w) else (NN t fun(t_:Addr)=>
 Ld .sl w (t_.add 1) fun(dk:Sl)=>
 ∃ak:Sl->Int->Nat->World->Prop,(∃n:Nat,ak ⟨none,0,0⟩ 0 n w) /\ ∀out:Sl,∀t20:Int,∀m:Nat,∀w:World,ak out t20 m w->(if (decide (t20 < (dk.len:Int)))=true then (Ix dk.a dk.len t20 1 fun(a2:Addr)=>
 Ld .sl w a2 fun(l:Sl)=>
 Ix l.a l.len row 1 fun(a3:Addr)=>
 Ld (.i .i64) w a3 fun(x:Int)=>
 Nw (.cells #[.int .i64 x] 2) w fun(b:Addr) w=>
 bZ .sl Tryz.prog (Builtin.append_ #[34,34] 34 #[.slice out.a out.len out.cap,.slice (some b) 1 1]) w fun(bH:Sl) w=>
 ∃m2:Nat,m2 < m /\ ak bH (IntKind.i64.wrap (t20+1)) m2 w) else (NN t fun(SO:Addr)=>
 Ld .sl w SO fun(aw:Sl)=>
 Ix aw.a aw.len row 2 fun(a4:Addr)=>
 Ld (.i .i64) w a4 fun(iZ:Int)=>Ld (.i .i64) w (a4.add 1) fun(pP:Int)=>
 St a (.int .i64 iZ) w fun w=>
 St (a.add 1) (.int .i64 pP) w fun w=>
 Ld (.i .i64) w a fun(eu:Int)=>Ld (.i .i64) w (a.add 1) fun(gZ:Int)=>
 R eu gZ out 0 w)))
theorem J2 {t row w R} (h:f117 t row w R):F2 t row w R:=
  ag (H:=⟨[(5,⟨[(7,.sl),(20,.i .i64)],[0,1,4,18,19]⟩)],[]⟩) ct Tryz.func117 (cast (by kernel_rfl) h)
def f118 (t:Option Addr) (al aC:Int) (w:World) (R:Int->World->Prop):Prop:=
 Nw (.cells #[.int .i64 al,.int .i64 aC] 33) w fun(e:Addr) w=>
 Dr w fun w=>
 NN t fun(t_:Addr)=>
 Ld .m w (t_.add 2) fun(rows:Option Nat)=>
 Ld (.i .i64) w e fun(aN:Int)=>Ld (.i .i64) w (e.add 1) fun(bQ:Int)=>
 gp [.one (.i .i64),.one .b] Tryz.prog (Instr.lookup 88 (.map rows) (.agg #[.int .i64 aN,.int .i64 bQ]) true) w fun(e2:Int) (ok:Bool) _=>
 if ok=true then (R e2 w) else (R (-1) w)
theorem J3 {t al aC w R} (h:f118 t al aC w R):DZ t al aC w R:=
  ag (H:=⟨[],[]⟩) ct Tryz.func118 (cast (by kernel_rfl) h)
def f119 (t:Option Addr) (row:Int) (w:World) (R:Int->Int->Bool->Int->World->Prop):Prop:=
 Nw (.cells #[.int .i64 0,.int .i64 0] 33) w fun(a:Addr) w=>
 JE t row w fun(r:Bool) w=>
 if (!r)=true then (St a (.int .i64 0) w fun w=>
 St (a.add 1) (.int .i64 0) w fun w=>
 Ld (.i .i64) w a fun(dc:Int)=>Ld (.i .i64) w (a.add 1) fun(fV:Int)=>
 R dc fV false 50 w) else (NN t fun(t_:Addr)=>
 Ld .sl w t_ fun(aw:Sl)=>
 Dr w fun w=>
 NN t fun(SO:Addr)=>
 Ld .m w (SO.add 2) fun(rows:Option Nat)=>
 NN t fun(XG:Addr)=>
 Ld .sl w XG fun(nN:Sl)=>
 Ix nN.a nN.len row 2 fun(a2:Addr)=>
 Ld (.i .i64) w a2 fun(iZ:Int)=>Ld (.i .i64) w (a2.add 1) fun(pP:Int)=>
 bZ .v Tryz.prog (Builtin.delete_ #[88,33] 0 #[.map rows,.agg #[.int .i64 iZ,.int .i64 pP]]) w fun(n_:Value) w=>
 NN t fun(Vp:Addr)=>
 Ld .sl w Vp fun(C0:Sl)=>
 Ix C0.a C0.len (IntKind.i64.wrap ((aw.len:Int) - 1)) 2 fun(a3:Addr)=>
 Ld (.i .i64) w a3 fun(zv:Int)=>Ld (.i .i64) w (a3.add 1) fun(D2:Int)=>
 Nw (.cells #[.int .i64 0,.int .i64 0] 33) w fun(sj:Addr) w=>
 St sj (.int .i64 zv) w fun w=>
 St (sj.add 1) (.int .i64 D2) w fun w=>
 NN t fun(XH:Addr)=>
 Ld .sl w (XH.add 1) fun(dk:Sl)=>
 ∃ak:Int->Nat->World->Prop,(∃n:Nat,ak 0 n w) /\ ∀t45:Int,∀m:Nat,∀w:World,ak t45 m w->(if (decide (t45 < (dk.len:Int)))=true then (Ix dk.a dk.len t45 1 fun(a4:Addr)=>
 Ld .sl w a4 fun(l:Sl)=>
 Ix l.a l.len (IntKind.i64.wrap ((aw.len:Int) - 1)) 1 fun(a5:Addr)=>
 Ld (.i .i64) w a5 fun(x:Int)=>
 Ix l.a l.len row 1 fun(a6:Addr)=>
 St a6 (.int .i64 x) w fun w=>
 Dr w fun w=>
 NN t fun(XI:Addr)=>
 Ld .sl w (XI.add 1) fun(iw:Sl)=>
 Cut ⟨l.a,l.len,l.cap⟩ 0 (IntKind.i64.wrap ((aw.len:Int) - 1)) (l.cap:Int) 1 fun(s:Sl)=>
 Ix iw.a iw.len t45 1 fun(a7:Addr)=>
 St a7 (.slice s.a s.len s.cap) w fun w=>
 ∃m2:Nat,m2 < m /\ ak (IntKind.i64.wrap (t45+1)) m2 w) else (Dr w fun w=>
 NN t fun(XJ:Addr)=>
 Ld .sl w XJ fun(C1:Sl)=>
 Ld (.i .i64) w sj fun(yn:Int)=>Ld (.i .i64) w (sj.add 1) fun(BO:Int)=>
 Ix C1.a C1.len row 2 fun(a8:Addr)=>
 St a8 (.int .i64 yn) w fun w=>
 St (a8.add 1) (.int .i64 BO) w fun w=>
 NN t fun(XK:Addr)=>
 Ld .sl w XK fun(tq:Sl)=>
 Cut ⟨tq.a,tq.len,tq.cap⟩ 0 (IntKind.i64.wrap ((aw.len:Int) - 1)) (tq.cap:Int) 2 fun(s2:Sl)=>
 NN t fun(t_9:Addr)=>
 St t_9 (.slice s2.a s2.len s2.cap) w fun w=>
 if (row ==(IntKind.i64.wrap ((aw.len:Int) - 1)))=true then (St a (.int .i64 0) w fun w=>
 St (a.add 1) (.int .i64 0) w fun w=>
 Ld (.i .i64) w a fun(eu:Int)=>Ld (.i .i64) w (a.add 1) fun(gZ:Int)=>
 R eu gZ false 0 w) else (Dr w fun w=>
 NN t fun(XL:Addr)=>
 Ld .m w (XL.add 2) fun(Gz:Option Nat)=>
 Ld (.i .i64) w sj fun(yo:Int)=>Ld (.i .i64) w (sj.add 1) fun(BP:Int)=>
 sN Tryz.prog (Instr.mapUpdate 88 (.map Gz) (.agg #[.int .i64 yo,.int .i64 BP]) (.int .i64 row)) w fun w=>
 Ld (.i .i64) w sj fun(yp:Int)=>Ld (.i .i64) w (sj.add 1) fun(BQ:Int)=>
 St a (.int .i64 yp) w fun w=>
 St (a.add 1) (.int .i64 BQ) w fun w=>
 Ld (.i .i64) w a fun(gy:Int)=>Ld (.i .i64) w (a.add 1) fun(lL:Int)=>
 R gy lL true 0 w))))
theorem J4 {t row w R} (h:f119 t row w R):NA t row w R:=
  ag (H:=⟨[(7,⟨[(45,.i .i64)],[0,1,4,7,8,43,44]⟩)],[]⟩) ct Tryz.func119 (cast (by kernel_rfl) h)
def f120 (b:Sl) (aA:Int) (w:World) (R:Sl->Int->World->Prop):Prop:=
 Nw (.cells #[.slice b.a b.len b.cap,.bool false] 198) w fun(r:Addr) w=>
 BC (some r) w fun(n_:Int) w=>
 ∃J_:World->Prop,(Ld .b w (r.add 1) fun(bad:Bool)=>
 if bad=true then (R ⟨none,0,0⟩ 0 w) else (if (decide (aA < 0))=true then (R ⟨none,0,0⟩ 0 w) else (if (decide (n_ >(IntKind.u64.wrap (if 100000 < aA then 100000 else aA))))=true then (R ⟨none,0,0⟩ 0 w) else (J_ w)))) /\ ∀w:World,J_ w->(if (n_ ==0)=true then (R ⟨none,0,0⟩ 1 w) else (Ld .sl w r fun(b2:Sl)=>
 if ((b2.len:Int) ==0)=true then (R ⟨none,0,0⟩ 0 w) else (Ld .sl w r fun(b3:Sl)=>
 Ix b3.a b3.len 0 1 fun(a:Addr)=>
 Ld (.i .u8) w a fun(form:Int)=>
 Ld .sl w r fun(b4:Sl)=>
 Cut ⟨b4.a,b4.len,b4.cap⟩ 1 (b4.len:Int) (b4.cap:Int) 1 fun(s:Sl)=>
 St r (.slice s.a s.len s.cap) w fun w=>
 NX (some r) form n_ w fun(l:Sl) w=>
 Ld .sl w r fun(b5:Sl)=>
 Dr w fun w=>
 Ld .b w (r.add 1) fun(PM:Bool)=>
 if PM=true then (R ⟨none,0,0⟩ 0 w) else (if ((IntKind.u64.wrap (l.len:Int)) !=n_)=true then (R ⟨none,0,0⟩ 0 w) else (Cut ⟨b.a,b.len,b.cap⟩ 0 (IntKind.i64.wrap ((b.len:Int) - (b5.len:Int))) (b.cap:Int) 1 fun(s2:Sl)=>
 Bh w ⟨s2.a,s2.len,s2.cap⟩ fun(x:ByteArray)=>
 Vn l w fun(r2:Sl) w=>
 nz w ⟨s2.a,s2.len,s2.cap⟩ x /\ (Bh w ⟨r2.a,r2.len,r2.cap⟩ fun(x2:ByteArray)=>
 if (!(x2.toList ==x.toList))=true then (R ⟨none,0,0⟩ 0 w) else (R l (IntKind.i64.wrap ((b.len:Int) - (b5.len:Int))) w)))))))
theorem J5 {b aA w R} (h:f120 b aA w R):NB b aA w R:=
  ag (H:=⟨[],[(5,⟨[],[0,6,7]⟩)]⟩) ct Tryz.func120 (cast (by kernel_rfl) h)
def f121 (p:Option Addr) (index:Int) (w:World) (R:Int->Int->Int->World->Prop):Prop:=
 Nw (.cells #[.int .i64 0,.int .i64 0] 33) w fun(a:Addr) w=>
 ∃J_:Bool->World->Prop,(if (decide (index < 0))=true then (J_ true w) else (NN p fun(p_:Addr)=>
 Ld .sl w (p_.add 1) fun(ah:Sl)=>
 if (decide (index>=(ah.len:Int)))=true then (J_ true w) else (NN p fun(qS:Addr)=>
 Ld .sl w (qS.add 2) fun(alive:Sl)=>
 Ix alive.a alive.len index 1 fun(a2:Addr)=>
 Ld .b w a2 fun(x:Bool)=>
 J_ (!x) w))) /\ ∀t26:Bool,∀w:World,J_ t26 w->(if t26=true then (St a (.int .i64 0) w fun w=>
 St (a.add 1) (.int .i64 0) w fun w=>
 Ld (.i .i64) w a fun(dc:Int)=>Ld (.i .i64) w (a.add 1) fun(fV:Int)=>
 R dc fV 41 w) else (NN p fun(sS:Addr)=>
 Ld .sl w (sS.add 1) fun(fW:Sl)=>
 Ix fW.a fW.len index 1 fun(a3:Addr)=>
 Ld (.i .i64) w a3 fun(x2:Int)=>
 St a (.int .i64 index) w fun w=>
 St (a.add 1) (.int .i64 x2) w fun w=>
 Ld (.i .i64) w a fun(eu:Int)=>Ld (.i .i64) w (a.add 1) fun(gZ:Int)=>
 R eu gZ 0 w))
theorem J6 {p index w R} (h:f121 p index w R):Jy p index w R:=
  ag (H:=⟨[],[(2,⟨[(26,.b)],[0,1,4]⟩)]⟩) ct Tryz.func121 (cast (by kernel_rfl) h)
def f122 (n_:Int) (w:World) (R:Int->World->Prop):Prop:=
 (0:Int)<=1 /\ (R (IntKind.i64.wrap ((BitVec.ofInt 64 (IntKind.i64.wrap (Int.fdiv n_ (2 ^ (min (Int.toNat 1) 64)))) ^^^ BitVec.ofInt 64 (IntKind.i64.wrap (0 - (IntKind.i64.wrap (IntKind.u64.wrap ((BitVec.ofInt 64 n_ &&& BitVec.ofInt 64 1).toNat:Nat)))))).toNat:Nat)) w)
theorem J7 {n_ w R} (h:f122 n_ w R):F3 n_ w R:=
  ag (H:=⟨[],[]⟩) ct Tryz.func122 (cast (by kernel_rfl) h)
def f123 (l:Sl) (w:World) (R:Bool->World->Prop):Prop:=
 ∃ak:Int->Nat->World->Prop,(∃n:Nat,ak 0 n w) /\ ∀i:Int,∀m:Nat,∀w:World,ak i m w->(if (decide (i < (l.len:Int)))=true then (Ix l.a l.len i 1 fun(a:Addr)=>
 Ld .s w a fun(x:ByteArray)=>
 NY x w fun(w_:Bool) w=>
 if (!w_)=true then (R false w) else (∃aS:Int->Nat->World->Prop,(∃n:Nat,aS 0 n w) /\ ∀k:Int,∀m3:Nat,∀w:World,aS k m3 w->(if (decide (k < i))=true then (Dr w fun w=>
 Ix l.a l.len k 1 fun(a2:Addr)=>
 Ld .s w a2 fun(x2:ByteArray)=>
 Ix l.a l.len i 1 fun(a3:Addr)=>
 Ld .s w a3 fun(x3:ByteArray)=>
 if (x2.toList ==x3.toList)=true then (R false w) else (∃m4:Nat,m4 < m3 /\ aS (IntKind.i64.wrap (k+1)) m4 w)) else (∃m2:Nat,m2 < m /\ ak (IntKind.i64.wrap (i+1)) m2 w)))) else (R true w))
theorem J8 {l w R} (h:f123 l w R):Jz l w R:=
  ag (H:=⟨[(2,⟨[(3,.i .i64)],[0]⟩),(8,⟨[(5,.i .i64)],[0,3]⟩)],[]⟩) ct Tryz.func123 (cast (by kernel_rfl) h)
def f124 (b:Sl) (aA:Int) (w:World) (R:Sl->Int->World->Prop):Prop:=
 ∃J_:Int->World->Prop,(if (decide (aA > 100000))=true then (J_ 100000 w) else (J_ aA w)) /\ ∀pR:Int,∀w:World,J_ pR w->(Nt b w fun(n_ k:Int) w=>
 if (cond (cond (k ==0) true (decide (pR < 0))) true (decide (n_ >(IntKind.u64.wrap pR))))=true then (R ⟨none,0,0⟩ 0 w) else (if (n_ ==0)=true then (R ⟨none,0,0⟩ k w) else (if (decide (k>=(b.len:Int)))=true then (R ⟨none,0,0⟩ 0 w) else (Dr w fun w=>
 Cut ⟨b.a,b.len,b.cap⟩ (IntKind.i64.wrap (k+1)) (b.len:Int) (b.cap:Int) 1 fun(s:Sl)=>
 Ix b.a b.len k 1 fun(a:Addr)=>
 Ld (.i .u8) w a fun(x:Int)=>
 NZ s (IntKind.i64.wrap n_) x w fun(l:Sl) (size:Int) w=>
 if (size ==0)=true then (R ⟨none,0,0⟩ 0 w) else (JF l w fun(want:Sl) w=>
 Dr w fun w=>
 Bh w ⟨want.a,want.len,want.cap⟩ fun(x2:ByteArray)=>
 Cut ⟨b.a,b.len,b.cap⟩ k (IntKind.i64.wrap ((IntKind.i64.wrap (k+1))+size)) (b.cap:Int) 1 fun(s2:Sl)=>
 Bh w ⟨s2.a,s2.len,s2.cap⟩ fun(x3:ByteArray)=>
 if (!(x2.toList ==x3.toList))=true then (R ⟨none,0,0⟩ 0 w) else (R l (IntKind.i64.wrap ((IntKind.i64.wrap (k+1))+size)) w))))))
theorem J9 {b aA w R} (h:f124 b aA w R):JA b aA w R:=
  ag (H:=⟨[],[(3,⟨[(1,.i .i64)],[0]⟩)]⟩) ct Tryz.func124 (cast (by kernel_rfl) h)
def f125 (l:Sl) (w:World) (R:Sl->Bool->World->Prop):Prop:=
 ∃ak:Sl->Int->Nat->World->Prop,(∃n:Nat,ak ⟨none,0,0⟩ 0 n w) /\ ∀out:Sl,∀i:Int,∀m:Nat,∀w:World,ak out i m w->(if (decide (i < (l.len:Int)))=true then (∃J_:World->Prop,(Ix l.a l.len i 1 fun(a:Addr)=>
 Ld (.i .i64) w a fun(x:Int)=>
 if (decide (x < 0))=true then (R ⟨none,0,0⟩ false w) else (Ix l.a l.len i 1 fun(a2:Addr)=>
 Ld (.i .i64) w a2 fun(x2:Int)=>
 if (decide (x2 > 1000001))=true then (R ⟨none,0,0⟩ false w) else (J_ w))) /\ ∀w:World,J_ w->(Ix l.a l.len i 1 fun(a3:Addr)=>
 Ld (.i .i64) w a3 fun(x3:Int)=>
 Nw (.cells #[.int .i64 x3] 3) w fun(b:Addr) w=>
 bZ .sl Tryz.prog (Builtin.append_ #[49,49] 49 #[.slice out.a out.len out.cap,.slice (some b) 1 1]) w fun(bH:Sl) w=>
 ∃m2:Nat,m2 < m /\ ak bH (IntKind.i64.wrap (i+1)) m2 w)) else (R out true w))
theorem Ka {l w R} (h:f125 l w R):JB l w R:=
  ag (H:=⟨[(3,⟨[(4,.sl),(5,.i .i64)],[0]⟩)],[(7,⟨[],[0,4,5]⟩)]⟩) ct Tryz.func125 (cast (by kernel_rfl) h)
def f126 (aA:Int) (ah free:Sl) (w:World) (R:Option Addr->Int->World->Prop):Prop:=
 Vj aA w fun(p:Option Addr) (e:Int) w=>
 if (cond (e !=0) true (decide ((ah.len:Int) > aA)))=true then (R none 1 w) else (∃ak:Int->Nat->World->Prop,(∃n:Nat,ak 0 n w) /\ ∀i:Int,∀m:Nat,∀w:World,ak i m w->(if (decide (i < (ah.len:Int)))=true then (∃J_:World->Prop,(Ix ah.a ah.len i 1 fun(a:Addr)=>
 Ld (.i .i64) w a fun(x:Int)=>
 if (decide (x < 1))=true then (R none 1 w) else (Ix ah.a ah.len i 1 fun(a2:Addr)=>
 Ld (.i .i64) w a2 fun(x2:Int)=>
 if (decide (x2 > 1000001))=true then (R none 1 w) else (J_ w))) /\ ∀w:World,J_ w->(Ix ah.a ah.len i 1 fun(a3:Addr)=>
 Ld (.i .i64) w a3 fun(g:Int)=>
 ∃lv:Int->World->Prop,(if (decide (g > 1000000))=true then (lv 1000000 w) else (lv g w)) /\ ∀g2:Int,∀w:World,lv g2 w->(NN p fun(p_:Addr)=>
 Ld .sl w (p_.add 1) fun(pS:Sl)=>
 Nw (.cells #[.int .i64 g2] 3) w fun(b:Addr) w=>
 bZ .sl Tryz.prog (Builtin.append_ #[49,49] 49 #[.slice pS.a pS.len pS.cap,.slice (some b) 1 1]) w fun(s:Sl) w=>
 NN p fun(qS:Addr)=>
 St (qS.add 1) (.slice s.a s.len s.cap) w fun w=>
 Dr w fun w=>
 NN p fun(sS:Addr)=>
 Ld .sl w (sS.add 2) fun(On:Sl)=>
 Ix ah.a ah.len i 1 fun(a4:Addr)=>
 Ld (.i .i64) w a4 fun(x3:Int)=>
 Nw (.cells #[.bool (decide (x3<=1000000))] 4) w fun(b2:Addr) w=>
 bZ .sl Tryz.prog (Builtin.append_ #[147,147] 147 #[.slice On.a On.len On.cap,.slice (some b2) 1 1]) w fun(s2:Sl) w=>
 NN p fun(D1:Addr)=>
 St (D1.add 2) (.slice s2.a s2.len s2.cap) w fun w=>
 ∃m2:Nat,m2 < m /\ ak (IntKind.i64.wrap (i+1)) m2 w))) else (∃aS:Int->Nat->World->Prop,(∃n:Nat,aS 0 n w) /\ ∀k:Int,∀m3:Nat,∀w:World,aS k m3 w->(if (decide (k < (free.len:Int)))=true then (Ix free.a free.len k 1 fun(a5:Addr)=>
 Ld (.i .i64) w a5 fun(i2:Int)=>
 ∃A5:World->Prop,(if (decide (i2 < 0))=true then (R none 1 w) else (if (decide (i2>=(ah.len:Int)))=true then (R none 1 w) else (Ix ah.a ah.len i2 1 fun(a6:Addr)=>
 Ld (.i .i64) w a6 fun(x4:Int)=>
 if (decide (x4>=1000000))=true then (R none 1 w) else (A5 w)))) /\ ∀w:World,A5 w->(JG p i2 w fun(XM:Bool) w=>
 if XM=true then (R none 1 w) else (NN p fun(JJ:Addr)=>
 Ld .sl w (JJ.add 2) fun(Rp:Sl)=>
 Ix Rp.a Rp.len i2 1 fun(a7:Addr)=>
 St a7 (.bool false) w fun w=>
 NN p fun(JK:Addr)=>
 Ld .sl w (JK.add 3) fun(oT:Sl)=>
 Nw (.cells #[.int .i64 i2] 3) w fun(b3:Addr) w=>
 bZ .sl Tryz.prog (Builtin.append_ #[49,49] 49 #[.slice oT.a oT.len oT.cap,.slice (some b3) 1 1]) w fun(s3:Sl) w=>
 NN p fun(JL:Addr)=>
 St (JL.add 3) (.slice s3.a s3.len s3.cap) w fun w=>
 ∃m4:Nat,m4 < m3 /\ aS (IntKind.i64.wrap (k+1)) m4 w))) else (R p 0 w)))))
theorem Kb {aA ah free w R} (h:f126 aA ah free w R):NC aA ah free w R:=
  ag (H:=⟨[(5,⟨[(10,.i .i64)],[1,2,8]⟩),(15,⟨[(12,.i .i64)],[1,2,8]⟩)],[(9,⟨[],[1,2,8,10]⟩),(12,⟨[(11,.i .i64)],[1,2,8,10]⟩),(20,⟨[],[1,2,8,12,13]⟩)]⟩) ct Tryz.func126 (cast (by kernel_rfl) h)
def f127 (p:Option Addr) (w:World) (R:Sl->World->Prop):Prop:=
 ∃ak:Sl->Int->Nat->World->Prop,(∃n:Nat,ak ⟨none,0,0⟩ 0 n w) /\ ∀out:Sl,∀i:Int,∀m:Nat,∀w:World,ak out i m w->(NN p fun(p_:Addr)=>
 Ld .sl w (p_.add 1) fun(pS:Sl)=>
 if (decide (i < (pS.len:Int)))=true then (NN p fun(qS:Addr)=>
 Ld .sl w (qS.add 2) fun(On:Sl)=>
 Ix On.a On.len i 1 fun(a:Addr)=>
 Ld .b w a fun(x:Bool)=>
 if x=true then (NN p fun(sS:Addr)=>
 Ld .sl w (sS.add 1) fun(mS:Sl)=>
 Ix mS.a mS.len i 1 fun(a2:Addr)=>
 Ld (.i .i64) w a2 fun(x2:Int)=>
 Nw (.cells #[.int .i64 i,.int .i64 x2] 33) w fun(b:Addr) w=>
 bZ .sl Tryz.prog (Builtin.append_ #[43,43] 43 #[.slice out.a out.len out.cap,.slice (some b) 1 1]) w fun(bH:Sl) w=>
 ∃m2:Nat,m2 < m /\ ak bH (IntKind.i64.wrap (i+1)) m2 w) else (∃m2:Nat,m2 < m /\ ak out (IntKind.i64.wrap (i+1)) m2 w)) else (R out w))
theorem Kc {p w R} (h:f127 p w R):ND p w R:=
  ag (H:=⟨[(3,⟨[(3,.sl),(4,.i .i64)],[0]⟩)],[]⟩) ct Tryz.func127 (cast (by kernel_rfl) h)
def f128 (n_:Int) (w:World) (R:Int->World->Prop):Prop:=
 (2:Int)≠0 /\ (if ((Int.tmod n_ 2) ==1)=true then ((2:Int)≠0 /\ (R (IntKind.i64.wrap ((IntKind.i64.wrap (0 - (IntKind.i64.wrap (IntKind.u64.wrap (Int.tdiv n_ 2))))) - 1)) w)) else ((2:Int)≠0 /\ (R (IntKind.i64.wrap (IntKind.u64.wrap (Int.tdiv n_ 2))) w)))
theorem Ke {n_ w R} (h:f128 n_ w R):NF n_ w R:=
  ag (H:=⟨[],[]⟩) ct Tryz.func128 (cast (by kernel_rfl) h)
def f129 (p:Option Addr) (al aC:Int) (w:World) (R:Bool->World->Prop):Prop:=
 Nw (.cells #[.int .i64 al,.int .i64 aC] 33) w fun(e:Addr) w=>
 Dr w fun w=>
 Ld (.i .i64) w e fun(Index:Int)=>
 if (decide (Index>=0))=true then (Ld (.i .i64) w e fun(oS:Int)=>
 NN p fun(p_:Addr)=>
 Ld .sl w (p_.add 1) fun(pS:Sl)=>
 if (decide (oS < (pS.len:Int)))=true then (NN p fun(qS:Addr)=>
 Ld .sl w (qS.add 2) fun(On:Sl)=>
 Ld (.i .i64) w e fun(PN:Int)=>
 Ix On.a On.len PN 1 fun(a:Addr)=>
 Ld .b w a fun(x:Bool)=>
 if x=true then (NN p fun(sS:Addr)=>
 Ld .sl w (sS.add 1) fun(mS:Sl)=>
 Ld (.i .i64) w e fun(PO:Int)=>
 Ix mS.a mS.len PO 1 fun(a2:Addr)=>
 Ld (.i .i64) w a2 fun(x2:Int)=>
 Ld (.i .i64) w (e.add 1) fun(SK:Int)=>
 R (x2 ==SK) w) else (R false w)) else (R false w)) else (R false w)
theorem Kf {p al aC w R} (h:f129 p al aC w R):NG p al aC w R:=
  ag (H:=⟨[],[]⟩) ct Tryz.func129 (cast (by kernel_rfl) h)
def f130 (w_:Option Addr) (kind:Int) (w:World) (R:Int->World->Prop):Prop:=
 ∃J_:World->Prop,(if (decide (kind < 1))=true then (R (-1) w) else (NN w_ fun(iY:Addr)=>
 Ld .sl w iY fun(K:Sl)=>
 if (decide (kind >(K.len:Int)))=true then (R (-1) w) else (J_ w))) /\ ∀w:World,J_ w->(NN w_ fun(oP:Addr)=>
 Ld .sl w oP fun(K2:Sl)=>
 Ix K2.a K2.len (IntKind.i64.wrap (kind - 1)) 2 fun(a:Addr)=>
 Ld .sl w (a.add 1) fun(cn:Sl)=>
 R (cn.len:Int) w)
theorem Kg {w_ kind w R} (h:f130 w_ kind w R):NH w_ kind w R:=
  ag (H:=⟨[],[(3,⟨[],[0,1]⟩)]⟩) ct Tryz.func130 (cast (by kernel_rfl) h)
def f131 (l:Sl) (kind:Int) (w:World) (R:Int->World->Prop):Prop:=
 ∃ak:Int->Nat->World->Prop,(∃n:Nat,ak 0 n w) /\ ∀i:Int,∀m:Nat,∀w:World,ak i m w->(if (decide (i < (l.len:Int)))=true then (Ix l.a l.len i 2 fun(a:Addr)=>
 Ld (.i .i64) w a fun(Kind:Int)=>
 if (Kind ==kind)=true then (R i w) else (∃m2:Nat,m2 < m /\ ak (IntKind.i64.wrap (i+1)) m2 w)) else (R (-1) w))
theorem Kh {l kind w R} (h:f131 l kind w R):NI l kind w R:=
  ag (H:=⟨[(2,⟨[(5,.i .i64)],[0,1]⟩)],[]⟩) ct Tryz.func131 (cast (by kernel_rfl) h)
def f132 (l:Sl) (eG:Int) (bf:Sl) (w:World) (R:Sl->World->Prop):Prop:=
 Nw (.cells #[.int .i64 eG,.slice bf.a bf.len bf.cap] 36) w fun(p:Addr) w=>
 ∃J_:Sl->Int->World->Prop,(∃ak:Sl->Int->Nat->World->Prop,(∃n:Nat,ak ⟨none,0,0⟩ 0 n w) /\ ∀out:Sl,∀i:Int,∀m:Nat,∀w:World,ak out i m w->(∃lv:World->Prop,(Dr w fun w=>
 if (decide (i < (l.len:Int)))=true then (Ix l.a l.len i 2 fun(a:Addr)=>
 Ld (.i .i64) w a fun(Kind:Int)=>
 Ld (.i .i64) w p fun(kT:Int)=>
 if (decide (Kind < kT))=true then (lv w) else (J_ out i w)) else (J_ out i w)) /\ ∀w:World,lv w->(Ix l.a l.len i 2 fun(a2:Addr)=>
 Ld (.i .i64) w a2 fun(uo:Int)=>Ld .sl w (a2.add 1) fun(mP:Sl)=>
 Nw (.cells #[.int .i64 uo,.slice mP.a mP.len mP.cap] 36) w fun(b:Addr) w=>
 bZ .sl Tryz.prog (Builtin.append_ #[37,37] 37 #[.slice out.a out.len out.cap,.slice (some b) 1 1]) w fun(bH:Sl) w=>
 ∃m2:Nat,m2 < m /\ ak bH (IntKind.i64.wrap (i+1)) m2 w))) /\ ∀fa:Sl,∀i2:Int,∀w:World,J_ fa i2 w->(Dr w fun w=>
 Ld (.i .i64) w p fun(pO:Int)=>
 Ld .sl w (p.add 1) fun(cQ:Sl)=>
 Vk cQ w fun(r:Sl) w=>
 w.cell? p=some (.int .i64 pO) /\ (Nw (.cells #[.int .i64 pO,.slice r.a r.len r.cap] 36) w fun(b2:Addr) w=>
 bZ .sl Tryz.prog (Builtin.append_ #[37,37] 37 #[.slice fa.a fa.len fa.cap,.slice (some b2) 1 1]) w fun(oR:Sl) w=>
 Cut ⟨l.a,l.len,l.cap⟩ i2 (l.len:Int) (l.cap:Int) 2 fun(s:Sl)=>
 bZ .sl Tryz.prog (Builtin.append_ #[37,37] 37 #[.slice oR.a oR.len oR.cap,.slice s.a s.len s.cap]) w fun(s2:Sl) w=>
 R s2 w))
theorem Ki {l eG bf w R} (h:f132 l eG bf w R):NJ l eG bf w R:=
  ag (H:=⟨[(3,⟨[(5,.sl),(6,.i .i64)],[0,3]⟩)],[(4,⟨[],[0,3,5,6]⟩),(6,⟨[(5,.sl),(6,.i .i64)],[0,3]⟩)]⟩) ct Tryz.func132 (cast (by kernel_rfl) h)
def f133 (p:Option Addr) (w:World) (R:Int->Int->Int->World->Prop):Prop:=
 Nw (.cells #[.int .i64 0,.int .i64 0] 33) w fun(a:Addr) w=>
 NN p fun(p_:Addr)=>
 Ld .sl w (p_.add 3) fun(oT:Sl)=>
 if (decide ((oT.len:Int) > 0))=true then (NN p fun(qS:Addr)=>
 Ld .sl w (qS.add 3) fun(zw:Sl)=>
 Ix zw.a zw.len 0 1 fun(a2:Addr)=>
 Ld (.i .i64) w a2 fun(i:Int)=>
 NN p fun(sS:Addr)=>
 Ld .sl w (sS.add 3) fun(zx:Sl)=>
 Cut ⟨zx.a,zx.len,zx.cap⟩ 1 (zx.len:Int) (zx.cap:Int) 1 fun(s:Sl)=>
 NN p fun(D1:Addr)=>
 St (D1.add 3) (.slice s.a s.len s.cap) w fun w=>
 NN p fun(JJ:Addr)=>
 Ld .sl w (JJ.add 1) fun(pS:Sl)=>
 Ix pS.a pS.len i 1 fun(a3:Addr)=>
 Ld (.i .i64) w a3 fun(x:Int)=>
 Ix pS.a pS.len i 1 fun(a4:Addr)=>
 St a4 (.int .i64 (IntKind.i64.wrap (x+1))) w fun w=>
 NN p fun(JK:Addr)=>
 Ld .sl w (JK.add 2) fun(On:Sl)=>
 Ix On.a On.len i 1 fun(a5:Addr)=>
 St a5 (.bool true) w fun w=>
 NN p fun(JL:Addr)=>
 Ld .sl w (JL.add 1) fun(mS:Sl)=>
 Ix mS.a mS.len i 1 fun(a6:Addr)=>
 Ld (.i .i64) w a6 fun(x2:Int)=>
 St a (.int .i64 i) w fun w=>
 St (a.add 1) (.int .i64 x2) w fun w=>
 Ld (.i .i64) w a fun(dc:Int)=>Ld (.i .i64) w (a.add 1) fun(fV:Int)=>
 R dc fV 0 w) else (Dr w fun w=>
 NN p fun(N9:Addr)=>
 Ld .sl w (N9.add 1) fun(SP:Sl)=>
 NN p fun(SA:Addr)=>
 Ld (.i .i64) w SA fun(XN:Int)=>
 if (decide ((SP.len:Int)>=XN))=true then (St a (.int .i64 0) w fun w=>
 St (a.add 1) (.int .i64 0) w fun w=>
 Ld (.i .i64) w a fun(eu:Int)=>Ld (.i .i64) w (a.add 1) fun(gZ:Int)=>
 R eu gZ 40 w) else (NN p fun(Ga:Addr)=>
 Ld .sl w (Ga.add 1) fun(GA:Sl)=>
 Nw (.cells #[.int .i64 1] 3) w fun(b:Addr) w=>
 bZ .sl Tryz.prog (Builtin.append_ #[49,49] 49 #[.slice GA.a GA.len GA.cap,.slice (some b) 1 1]) w fun(s2:Sl) w=>
 NN p fun(Gb:Addr)=>
 St (Gb.add 1) (.slice s2.a s2.len s2.cap) w fun w=>
 NN p fun(Gc:Addr)=>
 Ld .sl w (Gc.add 2) fun(Rp:Sl)=>
 Nw (.cells #[.bool true] 4) w fun(b2:Addr) w=>
 bZ .sl Tryz.prog (Builtin.append_ #[147,147] 147 #[.slice Rp.a Rp.len Rp.cap,.slice (some b2) 1 1]) w fun(s3:Sl) w=>
 NN p fun(Ge:Addr)=>
 St (Ge.add 2) (.slice s3.a s3.len s3.cap) w fun w=>
 NN p fun(Gf:Addr)=>
 Ld .sl w (Gf.add 1) fun(SQ:Sl)=>
 St a (.int .i64 (IntKind.i64.wrap ((SQ.len:Int) - 1))) w fun w=>
 St (a.add 1) (.int .i64 1) w fun w=>
 Ld (.i .i64) w a fun(gy:Int)=>Ld (.i .i64) w (a.add 1) fun(lL:Int)=>
 R gy lL 0 w))
theorem Kj {p w R} (h:f133 p w R):NK p w R:=
  ag (H:=⟨[],[]⟩) ct Tryz.func133 (cast (by kernel_rfl) h)
def f134 (w_:Option Addr) (dL fM:Int) (cH:Sl) (w:World) (R:World->Prop):Prop:=
 Nw (.cells #[.int .i64 dL,.int .i64 fM,.slice cH.a cH.len cH.cap] 75) w fun(r:Addr) w=>
 ∃J_:Sl->Int->World->Prop,(∃ak:Sl->Int->Nat->World->Prop,(∃n:Nat,ak ⟨none,0,0⟩ 0 n w) /\ ∀l:Sl,∀i:Int,∀m:Nat,∀w:World,ak l i m w->(∃lv:World->Prop,(Dr w fun w=>
 NN w_ fun(iY:Addr)=>
 Ld .sl w (iY.add 2) fun(L:Sl)=>
 if (decide (i < (L.len:Int)))=true then (NN w_ fun(oP:Addr)=>
 Ld .sl w (oP.add 2) fun(L2:Sl)=>
 Ix L2.a L2.len i 3 fun(a:Addr)=>
 Ld (.i .i64) w a fun(Index:Int)=>
 Ld (.i .i64) w r fun(oS:Int)=>
 if (decide (Index < oS))=true then (lv w) else (J_ l i w)) else (J_ l i w)) /\ ∀w:World,lv w->(NN w_ fun(Gi:Addr)=>
 Ld .sl w (Gi.add 2) fun(L3:Sl)=>
 Ix L3.a L3.len i 3 fun(a2:Addr)=>
 Ld (.i .i64) w a2 fun(qR:Int)=>Ld (.i .i64) w (a2.add 1) fun(yj:Int)=>Ld .sl w (a2.add 2) fun(pN:Sl)=>
 Nw (.cells #[.int .i64 qR,.int .i64 yj,.slice pN.a pN.len pN.cap] 75) w fun(b:Addr) w=>
 bZ .sl Tryz.prog (Builtin.append_ #[71,71] 71 #[.slice l.a l.len l.cap,.slice (some b) 1 1]) w fun(l2:Sl) w=>
 ∃m2:Nat,m2 < m /\ ak l2 (IntKind.i64.wrap (i+1)) m2 w))) /\ ∀l3:Sl,∀i2:Int,∀w:World,J_ l3 i2 w->(Ld (.i .i64) w r fun(oU:Int)=>Ld (.i .i64) w (r.add 1) fun(uy:Int)=>Ld .sl w (r.add 2) fun(mR:Sl)=>
 Nw (.cells #[.int .i64 oU,.int .i64 uy,.slice mR.a mR.len mR.cap] 75) w fun(b2:Addr) w=>
 bZ .sl Tryz.prog (Builtin.append_ #[71,71] 71 #[.slice l3.a l3.len l3.cap,.slice (some b2) 1 1]) w fun(l4:Sl) w=>
 NN w_ fun(SD:Addr)=>
 Ld .sl w (SD.add 2) fun(L4:Sl)=>
 Cut ⟨L4.a,L4.len,L4.cap⟩ i2 (L4.len:Int) (L4.cap:Int) 3 fun(s:Sl)=>
 bZ .sl Tryz.prog (Builtin.append_ #[71,71] 71 #[.slice l4.a l4.len l4.cap,.slice s.a s.len s.cap]) w fun(s2:Sl) w=>
 NN w_ fun(w_6:Addr)=>
 St (w_6.add 2) (.slice s2.a s2.len s2.cap) w fun w=>
 R w)
theorem Kk {w_ dL fM cH w R} (h:f134 w_ dL fM cH w R):NL w_ dL fM cH w R:=
  ag (H:=⟨[(3,⟨[(4,.sl),(5,.i .i64)],[0,3]⟩)],[(4,⟨[],[0,3,4,5]⟩),(6,⟨[(4,.sl),(5,.i .i64)],[0,3]⟩)]⟩) ct Tryz.func134 (cast (by kernel_rfl) h)
def f136 (w_:Option Addr) (al aC:Int) (set kind:Int) (w:World) (R:Int->Sl->World->Prop):Prop:=
 Nw (.cells #[.int .i64 al,.int .i64 aC] 33) w fun(e:Addr) w=>
 Nw (.cells #[.int .i64 0,.slice none 0 0] 36) w fun(a:Addr) w=>
 NN w_ fun(iY:Addr)=>
 Ld .m w (iY.add 3) fun(tables:Option Nat)=>
 gp [.one .p] Tryz.prog (Instr.lookup 89 (.map tables) (.int .i64 set) false) w fun(t:Option Addr) _=>
 Ld (.i .i64) w e fun(aN:Int)=>Ld (.i .i64) w (e.add 1) fun(bQ:Int)=>
 DZ t aN bQ w fun(r:Int) w=>
 F2 t r w fun(ux BL:Int) (values:Sl) (x_:Int) w=>
 Nw (.cells #[.int .i64 0,.int .i64 0] 33) w fun(N7:Addr) w=>
 St N7 (.int .i64 ux) w fun w=>
 St (N7.add 1) (.int .i64 BL) w fun w=>
 Ns w_ set kind w fun(at_:Int) w=>
 Sn w_ kind w fun(n_:Int) (x_3:Bool) w=>
 Cut ⟨values.a,values.len,values.cap⟩ at_ (IntKind.i64.wrap (at_+n_)) (values.cap:Int) 1 fun(s:Sl)=>
 NP s w fun(r2:Sl) w=>
 St a (.int .i64 kind) w fun w=>
 St (a.add 1) (.slice r2.a r2.len r2.cap) w fun w=>
 Ld (.i .i64) w a fun(BN:Int)=>Ld .sl w (a.add 1) fun(mQ:Sl)=>
 R BN mQ w
theorem Kl {w_ al aC set kind w R} (h:f136 w_ al aC set kind w R):NM w_ al aC set kind w R:=
  ag (H:=⟨[],[]⟩) ct Tryz.func136 (cast (by kernel_rfl) h)
def f137 (a b:Sl) (w:World) (R:Bool->World->Prop):Prop:=
 if ((a.len:Int) !=(b.len:Int))=true then (R false w) else (∃ak:Int->Nat->World->Prop,(∃n:Nat,ak 0 n w) /\ ∀i:Int,∀m:Nat,∀w:World,ak i m w->(if (decide (i < (a.len:Int)))=true then (Dr w fun w=>
 Ix a.a a.len i 1 fun(a2:Addr)=>
 Ld (.i .i64) w a2 fun(x:Int)=>
 Ix b.a b.len i 1 fun(a3:Addr)=>
 Ld (.i .i64) w a3 fun(x2:Int)=>
 if (x !=x2)=true then (R false w) else (∃m2:Nat,m2 < m /\ ak (IntKind.i64.wrap (i+1)) m2 w)) else (R true w)))
theorem Km {a b w R} (h:f137 a b w R):NO a b w R:=
  ag (H:=⟨[(4,⟨[(5,.i .i64)],[0,1]⟩)],[]⟩) ct Tryz.func137 (cast (by kernel_rfl) h)
def f141 (s:Sl) (w:World) (R:Sl->World->Prop):Prop:=
 if s.a.isNone=true then (R ⟨none,0,0⟩ w) else (Nw (.cells #[] 2) w fun(b:Addr) w=>
 bZ .sl Tryz.prog (Builtin.append_ #[34,34] 34 #[.slice (some b) 0 0,.slice s.a s.len s.cap]) w fun(s2:Sl) w=>
 R s2 w)
theorem Kn {s w R} (h:f141 s w R):NP s w R:=
  ag (H:=⟨[],[]⟩) ct Tryz.func141 (cast (by kernel_rfl) h)
def f142 (form:Int) (t1 t2:Option Addr) (w:World) (R:Sl->World->Prop):Prop:=
 Dr w fun w=>
 NN t1 fun(a:Addr)=>
 Ld .sl w a fun(x:Sl)=>
 NN t2 fun(a2:Addr)=>
 Ld .sl w a2 fun(x2:Sl)=>
 Rc [(.cells #[.int .u8 form] 5,none)] w fun(y:Option Addr) w=>
 Vm x w fun(r:Sl) w=>
 w.cell? a2=some (.slice x2.a x2.len x2.cap) /\ (Rc [(.cells #[.int .u8 form] 5,y)] w fun(y2:Option Addr) w=>
 Jh y2 fun(a3:Addr)=>
 bZ .sl Tryz.prog (Builtin.append_ #[23,23] 23 #[.slice r.a r.len r.cap,.slice (some a3) 1 1]) w fun(s:Sl) w=>
 w.cell? a2=some (.slice x2.a x2.len x2.cap) /\ (NR form s x2 w fun(r2:Sl) w=>
 R r2 w))
theorem Ko {form t1 t2 w R} (h:f142 form t1 t2 w R):NQ form t1 t2 w R:=
  ag (H:=⟨[],[]⟩) ct Tryz.func142 (cast (by kernel_rfl) h)
def f143 (form:Int) (b l:Sl) (w:World) (R:Sl->World->Prop):Prop:=
 if (form ==0)=true then (∃ak:Sl->Int->Nat->World->Prop,(∃n:Nat,ak b 0 n w) /\ ∀b2:Sl,∀t42:Int,∀m:Nat,∀w:World,ak b2 t42 m w->(if (decide (t42 < (l.len:Int)))=true then (Ix l.a l.len t42 1 fun(a:Addr)=>
 Ld (.i .i64) w a fun(n_:Int)=>
 DW n_ w fun(r:Int) w=>
 yi b2 r w fun(b3:Sl) w=>
 ∃m2:Nat,m2 < m /\ ak b3 (IntKind.i64.wrap (t42+1)) m2 w) else (R b2 w))) else (if (form ==1)=true then (∃aS:Sl->Int->Int->Nat->World->Prop,(∃n:Nat,aS b 0 0 n w) /\ ∀b4:Sl,∀last:Int,∀t55:Int,∀m3:Nat,∀w:World,aS b4 last t55 m3 w->(if (decide (t55 < (l.len:Int)))=true then (Ix l.a l.len t55 1 fun(a2:Addr)=>
 Ld (.i .i64) w a2 fun(qT:Int)=>
 DW (IntKind.i64.wrap (qT - last)) w fun(r2:Int) w=>
 yi b4 r2 w fun(b5:Sl) w=>
 ∃m4:Nat,m4 < m3 /\ aS b5 qT (IntKind.i64.wrap (t55+1)) m4 w) else (R b4 w))) else (N0 l w fun(all:Sl) w=>
 yi b (IntKind.u64.wrap (all.len:Int)) w fun(b6:Sl) w=>
 ∃dD:Sl->Int->Nat->World->Prop,(∃n:Nat,dD b6 0 n w) /\ ∀b7:Sl,∀t25:Int,∀m5:Nat,∀w:World,dD b7 t25 m5 w->(if (decide (t25 < (all.len:Int)))=true then (Ix all.a all.len t25 2 fun(a3:Addr)=>
 Ld (.i .u64) w a3 fun(PQ:Int)=>Ld (.i .i64) w (a3.add 1) fun(r_n:Int)=>
 Nw (.cells #[.int .u64 0,.int .i64 0] 207) w fun(r3:Addr) w=>
 St r3 (.int .u64 PQ) w fun w=>
 St (r3.add 1) (.int .i64 r_n) w fun w=>
 Dr w fun w=>
 Ld (.i .u64) w r3 fun(many:Int)=>
 Ld (.i .i64) w (r3.add 1) fun(XD:Int)=>
 yi b7 many w fun(r4:Sl) w=>
 w.cell? (r3.add 1)=some (.int .i64 XD) /\ (DW XD w fun(r5:Int) w=>
 yi r4 r5 w fun(b8:Sl) w=>
 ∃m6:Nat,m6 < m5 /\ dD b8 (IntKind.i64.wrap (t25+1)) m6 w)) else (R b7 w))))
theorem Kp {form b l w R} (h:f143 form b l w R):NR form b l w R:=
  ag (H:=⟨[(5,⟨[(1,.sl),(25,.i .i64)],[23,24]⟩),(11,⟨[(1,.sl),(42,.i .i64)],[40,41]⟩),(18,⟨[(1,.sl),(9,.i .i64),(55,.i .i64)],[53,54]⟩)],[]⟩) ct Tryz.func143 (cast (by kernel_rfl) h)
def f144 (p:Option Addr) (w:World) (R:Sl->Sl->World->Prop):Prop:=
 ∃ak:Sl->Int->Nat->World->Prop,(∃n:Nat,ak ⟨none,0,0⟩ 0 n w) /\ ∀ah:Sl,∀i:Int,∀m:Nat,∀w:World,ak ah i m w->(NN p fun(p_:Addr)=>
 Ld .sl w (p_.add 1) fun(pS:Sl)=>
 if (decide (i < (pS.len:Int)))=true then (NN p fun(qS:Addr)=>
 Ld .sl w (qS.add 1) fun(mS:Sl)=>
 Ix mS.a mS.len i 1 fun(a:Addr)=>
 Ld (.i .i64) w a fun(g:Int)=>
 JG p i w fun(XM:Bool) w=>
 NN p fun(sS:Addr)=>
 Ld .sl w (sS.add 2) fun(On:Sl)=>
 Ix On.a On.len i 1 fun(a2:Addr)=>
 Ld .b w a2 fun(x:Bool)=>
 if (cond (!x) (!XM) false)=true then (Nw (.cells #[.int .i64 1000001] 3) w fun(b:Addr) w=>
 bZ .sl Tryz.prog (Builtin.append_ #[49,49] 49 #[.slice ah.a ah.len ah.cap,.slice (some b) 1 1]) w fun(fW:Sl) w=>
 ∃m2:Nat,m2 < m /\ ak fW (IntKind.i64.wrap (i+1)) m2 w) else (Nw (.cells #[.int .i64 g] 3) w fun(b2:Addr) w=>
 bZ .sl Tryz.prog (Builtin.append_ #[49,49] 49 #[.slice ah.a ah.len ah.cap,.slice (some b2) 1 1]) w fun(Gu:Sl) w=>
 ∃m2:Nat,m2 < m /\ ak Gu (IntKind.i64.wrap (i+1)) m2 w)) else (NN p fun(D1:Addr)=>
 Ld .sl w (D1.add 3) fun(oT:Sl)=>
 bZ .sl Tryz.prog (Builtin.append_ #[49,49] 49 #[.slice none 0 0,.slice oT.a oT.len oT.cap]) w fun(s:Sl) w=>
 R ah s w))
theorem Kq {p w R} (h:f144 p w R):NS p w R:=
  ag (H:=⟨[(4,⟨[(4,.sl),(6,.i .i64)],[0,5]⟩)],[]⟩) ct Tryz.func144 (cast (by kernel_rfl) h)
def f145 (b l:Sl) (w:World) (R:Sl->World->Prop):Prop:=
 BB b (IntKind.u64.wrap (l.len:Int)) w fun(out:Sl) w=>
 if ((l.len:Int) ==0)=true then (R out w) else (JF l w fun(r:Sl) w=>
 bZ .sl Tryz.prog (Builtin.append_ #[23,23] 23 #[.slice out.a out.len out.cap,.slice r.a r.len r.cap]) w fun(s:Sl) w=>
 R s w)
theorem Kr {b l w R} (h:f145 b l w R):JC b l w R:=
  ag (H:=⟨[],[]⟩) ct Tryz.func145 (cast (by kernel_rfl) h)
def f146 (l:Sl) (w:World) (R:Sl->World->Prop):Prop:=
 ∃ak:Sl->Int->Nat->World->Prop,(∃n:Nat,ak ⟨none,0,0⟩ 0 n w) /\ ∀out:Sl,∀i:Int,∀m:Nat,∀w:World,ak out i m w->(if (decide (i < (l.len:Int)))=true then (Ix l.a l.len i 1 fun(a:Addr)=>
 Ld (.i .i64) w a fun(x:Int)=>
 Nw (.cells #[.int .i64 x] 2) w fun(b:Addr) w=>
 bZ .sl Tryz.prog (Builtin.append_ #[34,34] 34 #[.slice out.a out.len out.cap,.slice (some b) 1 1]) w fun(bH:Sl) w=>
 ∃m2:Nat,m2 < m /\ ak bH (IntKind.i64.wrap (i+1)) m2 w) else (R out w))
theorem Ks {l w R} (h:f146 l w R):JD l w R:=
  ag (H:=⟨[(3,⟨[(3,.sl),(4,.i .i64)],[0]⟩)],[]⟩) ct Tryz.func146 (cast (by kernel_rfl) h)
def f147 (n_:Int) (w:World) (R:Int->World->Prop):Prop:=
 if (decide (n_ < 0))=true then (R (IntKind.u64.wrap ((IntKind.u64.wrap ((IntKind.u64.wrap (IntKind.i64.wrap (0 - (IntKind.i64.wrap (n_+1)))))*2))+1)) w) else (R (IntKind.u64.wrap ((IntKind.u64.wrap n_)*2)) w)
theorem Kt {n_ w R} (h:f147 n_ w R):NT n_ w R:=
  ag (H:=⟨[],[]⟩) ct Tryz.func147 (cast (by kernel_rfl) h)
def f148 (s:ByteArray) (w:World) (R:Bool->World->Prop):Prop:=
 bZ .sl Tryz.prog (convert 9 23 (.string s)) w fun(x:Sl) w=>
 ∃ak:Int->Nat->World->Prop,(∃n:Nat,ak 0 n w) /\ ∀t9:Int,∀m:Nat,∀w:World,ak t9 m w->(if (decide (t9 < (x.len:Int)))=true then (Ix x.a x.len t9 1 fun(a:Addr)=>
 Ld (.i .u8) w a fun(c:Int)=>
 if (cond (!(cond (cond (decide (c>=97)) (decide (c<=122)) false) true (cond (decide (c>=65)) (decide (c<=90)) false))) (cond (t9 ==0) true (cond (c !=95) (cond (decide (c < 48)) true (decide (c > 57))) false)) false)=true then (R false w) else (∃m2:Nat,m2 < m /\ ak (IntKind.i64.wrap (t9+1)) m2 w)) else (R (cond (!(s.toList ==(⟨#[]⟩:ByteArray).toList)) (decide ((s.size:Int)<=16)) false) w))
theorem Ku {s w R} (h:f148 s w R):NU s w R:=
  ag (H:=⟨[(2,⟨[(9,.i .i64)],[0,7,8]⟩)],[]⟩) ct Tryz.func148 (cast (by kernel_rfl) h)
def f149 (s:Sl) (v:ByteArray) (w:World) (R:Bool->World->Prop):Prop:=
 Sr s v w fun(r:Int) w=>
 R (decide (r>=0)) w
theorem Kv {s v w R} (h:f149 s v w R):NV s v w R:=
  ag (H:=⟨[],[]⟩) ct Tryz.func149 (cast (by kernel_rfl) h)
def f151 (dk:Int) (w:World) (R:Option Addr->Int->World->Prop):Prop:=
 if (cond (decide (dk < 0)) true (decide (dk > 48)))=true then (R none 1 w) else (Mk [.slice none 0 0] 34 24 dk dk w fun(s:Sl) w=>
 Nw (.map #[] 0) w fun(m:Addr) w=>
 Nw (.cells #[.slice none 0 0,.slice s.a s.len s.cap,.map (some m.block)] 186) w fun(a:Addr) w=>
 R (some a) 0 w)
theorem Kw {dk w R} (h:f151 dk w R):NW dk w R:=
  ag (H:=⟨[],[]⟩) ct Tryz.func151 (cast (by kernel_rfl) h)
def f152 (t:Option Addr) (row:Int) (w:World) (R:Bool->World->Prop):Prop:=
 if (decide (row>=0))=true then (NN t fun(t_:Addr)=>
 Ld .sl w t_ fun(aw:Sl)=>
 R (decide (row < (aw.len:Int))) w) else (R false w)
theorem Kx {t row w R} (h:f152 t row w R):JE t row w R:=
  ag (H:=⟨[],[]⟩) ct Tryz.func152 (cast (by kernel_rfl) h)
def f153 (r:Option Addr) (w:World) (R:Int->World->Prop):Prop:=
 NN r fun(r_:Addr)=>
 Ld .sl w r_ fun(b:Sl)=>
 Sq b w fun(n_ size:Int) w=>
 NN r fun(SR:Addr)=>
 Ld .b w (SR.add 1) fun(bad:Bool)=>
 NN r fun(XO:Addr)=>
 St (XO.add 1) (.bool (cond bad true (size ==0))) w fun w=>
 NN r fun(XP:Addr)=>
 Ld .sl w XP fun(b2:Sl)=>
 Cut ⟨b2.a,b2.len,b2.cap⟩ size (b2.len:Int) (b2.cap:Int) 1 fun(s:Sl)=>
 NN r fun(XQ:Addr)=>
 St XQ (.slice s.a s.len s.cap) w fun w=>
 R n_ w
theorem Ky {r w R} (h:f153 r w R):BC r w R:=
  ag (H:=⟨[],[]⟩) ct Tryz.func153 (cast (by kernel_rfl) h)
def f154 (r:Option Addr) (form n_:Int) (w:World) (R:Sl->World->Prop):Prop:=
 ∃J_:Sl->World->Prop,(∃ak:Sl->Int->Nat->World->Prop,(∃n:Nat,ak ⟨none,0,0⟩ 0 n w) /\ ∀out:Sl,∀last:Int,∀m:Nat,∀w:World,ak out last m w->(∃lv:World->Prop,(if (decide ((IntKind.u64.wrap (out.len:Int)) < n_))=true then (NN r fun(r_:Addr)=>
 Ld .b w (r_.add 1) fun(bad:Bool)=>
 if (!bad)=true then (if (decide (form < 2))=true then (lv w) else (J_ out w)) else (J_ out w)) else (J_ out w)) /\ ∀w:World,lv w->(BC r w fun(r2:Int) w=>
 F3 r2 w fun(x:Int) w=>
 if (form ==1)=true then (Nw (.cells #[.int .i64 (IntKind.i64.wrap (x+last))] 2) w fun(b:Addr) w=>
 bZ .sl Tryz.prog (Builtin.append_ #[34,34] 34 #[.slice out.a out.len out.cap,.slice (some b) 1 1]) w fun(bH:Sl) w=>
 ∃m2:Nat,m2 < m /\ ak bH (IntKind.i64.wrap (x+last)) m2 w) else (Nw (.cells #[.int .i64 x] 2) w fun(b2:Addr) w=>
 bZ .sl Tryz.prog (Builtin.append_ #[34,34] 34 #[.slice out.a out.len out.cap,.slice (some b2) 1 1]) w fun(fa:Sl) w=>
 ∃m2:Nat,m2 < m /\ ak fa x m2 w)))) /\ ∀oR:Sl,∀w:World,J_ oR w->(if (form !=2)=true then (NN r fun(SR:Addr)=>
 Ld .b w (SR.add 1) fun(PM:Bool)=>
 NN r fun(XO:Addr)=>
 St (XO.add 1) (.bool (cond PM true (decide (form > 2)))) w fun w=>
 R oR w) else (BC r w fun(k:Int) w=>
 ∃aS:Sl->Int->Nat->World->Prop,(∃n:Nat,aS oR k n w) /\ ∀qV:Sl,∀k2:Int,∀m3:Nat,∀w:World,aS qV k2 m3 w->(∃A5:World->Prop,(if (decide (k2 > 0))=true then (NN r fun(XP:Addr)=>
 Ld .b w (XP.add 1) fun(XR:Bool)=>
 if (!XR)=true then (A5 w) else (R qV w)) else (R qV w)) /\ ∀w:World,A5 w->(BC r w fun(many:Int) w=>
 BC r w fun(r3:Int) w=>
 F3 r3 w fun(x2:Int) w=>
 NN r fun(XQ:Addr)=>
 Ld .b w (XQ.add 1) fun(XS:Bool)=>
 NN r fun(r_6:Addr)=>
 St (r_6.add 1) (.bool (cond XS true (decide (many >(IntKind.u64.wrap (n_ - (IntKind.u64.wrap (qV.len:Int)))))))) w fun w=>
 ∃dD:Sl->Int->Nat->World->Prop,(∃n:Nat,dD qV many n w) /\ ∀uz:Sl,∀eE:Int,∀m5:Nat,∀w:World,dD uz eE m5 w->(∃Z5:World->Prop,(if (decide (eE > 0))=true then (NN r fun(r_7:Addr)=>
 Ld .b w (r_7.add 1) fun(XT:Bool)=>
 if (!XT)=true then (Z5 w) else (∃m4:Nat,m4 < m3 /\ aS uz (IntKind.u64.wrap (k2 - 1)) m4 w)) else (∃m4:Nat,m4 < m3 /\ aS uz (IntKind.u64.wrap (k2 - 1)) m4 w)) /\ ∀w:World,Z5 w->(Nw (.cells #[.int .i64 x2] 2) w fun(b3:Addr) w=>
 bZ .sl Tryz.prog (Builtin.append_ #[34,34] 34 #[.slice uz.a uz.len uz.cap,.slice (some b3) 1 1]) w fun(XU:Sl) w=>
 ∃m6:Nat,m6 < m5 /\ dD XU (IntKind.u64.wrap (eE - 1)) m6 w))))))
theorem Kz {r form n_ w R} (h:f154 r form n_ w R):NX r form n_ w R:=
  ag (H:=⟨[(3,⟨[(7,.sl),(8,.i .i64)],[0,1,2]⟩),(13,⟨[(7,.sl),(10,.i .u64)],[0,2]⟩),(18,⟨[(7,.sl),(11,.i .u64)],[0,2,10,12]⟩)],[(4,⟨[],[0,1,2,7,8]⟩),(9,⟨[(7,.sl)],[0,1,2]⟩),(15,⟨[],[0,2,7,10]⟩),(20,⟨[],[0,2,7,10,11,12]⟩)]⟩) ct Tryz.func154 (cast (by kernel_rfl) h)
def f155 (s:ByteArray) (w:World) (R:Bool->World->Prop):Prop:=
 ∃ak:Int->Nat->World->Prop,(∃n:Nat,ak 0 n w) /\ ∀i:Int,∀m:Nat,∀w:World,ak i m w->(if (decide (i < (s.size:Int)))=true then (ZW s i fun(c:Int)=>
 if (cond (!(cond (cond (decide (c>=97)) (decide (c<=122)) false) true (cond (decide (c>=65)) (decide (c<=90)) false))) (cond (i ==0) true (!(cond (cond (decide (c>=48)) (decide (c<=57)) false) true (c ==95)))) false)=true then (R false w) else (∃m2:Nat,m2 < m /\ ak (IntKind.i64.wrap (i+1)) m2 w)) else (R (cond (decide ((s.size:Int)>=1)) (decide ((s.size:Int)<=16)) false) w))
theorem KA {s w R} (h:f155 s w R):NY s w R:=
  ag (H:=⟨[(2,⟨[(3,.i .i64)],[0]⟩)],[]⟩) ct Tryz.func155 (cast (by kernel_rfl) h)
def f156 (b:Sl) (n_ form:Int) (w:World) (R:Sl->Int->World->Prop):Prop:=
 ∃J_:Int->Int->World->Prop,(if (form ==2)=true then (Nt b w fun(m k:Int) w=>
 if (cond (k ==0) true (decide (m >(IntKind.u64.wrap n_))))=true then (R ⟨none,0,0⟩ 0 w) else (J_ k m w)) else (J_ 0 0 w)) /\ ∀at_:Int,∀runs:Int,∀w:World,J_ at_ runs w->(∃ak:Sl->Int->Int->Int->Nat->World->Prop,(∃n:Nat,ak ⟨none,0,0⟩ at_ 0 runs n w) /\ ∀l:Sl,∀v8:Int,∀last:Int,∀zy:Int,∀m2:Nat,∀w:World,ak l v8 last zy m2 w->(if (cond (decide ((l.len:Int) < n_)) (cond (decide (form < 2)) true (decide (zy > 0))) false)=true then (∃lv:Int->Int->Int->World->Prop,(if (form ==2)=true then (Cut ⟨b.a,b.len,b.cap⟩ v8 (b.len:Int) (b.cap:Int) 1 fun(s:Sl)=>
 Nt s w fun(m4 k2:Int) w=>
 if (cond (cond (k2 ==0) true (decide (m4 < 1))) true (decide (m4 >(IntKind.u64.wrap (IntKind.i64.wrap (n_ - (l.len:Int)))))))=true then (R ⟨none,0,0⟩ 0 w) else (lv (IntKind.i64.wrap (v8+k2)) (IntKind.u64.wrap (zy - 1)) m4 w)) else (lv v8 zy 1 w)) /\ ∀uw:Int,∀pT:Int,∀many:Int,∀w:World,lv uw pT many w->(Cut ⟨b.a,b.len,b.cap⟩ uw (b.len:Int) (b.cap:Int) 1 fun(s2:Sl)=>
 Vi s2 w fun(x k3:Int) w=>
 if (cond (k3 ==0) true (decide (form > 2)))=true then (R ⟨none,0,0⟩ 0 w) else (∃A5:Int->Int->World->Prop,(if (form ==1)=true then (A5 (IntKind.i64.wrap (x+last)) (IntKind.i64.wrap (x+last)) w) else (A5 last x w)) /\ ∀fF:Int,∀x2:Int,∀w:World,A5 fF x2 w->(∃aS:Sl->Int->Nat->World->Prop,(∃n:Nat,aS l many n w) /\ ∀l2:Sl,∀eE:Int,∀m5:Nat,∀w:World,aS l2 eE m5 w->(if (decide (eE > 0))=true then (Nw (.cells #[.int .i64 x2] 2) w fun(b2:Addr) w=>
 bZ .sl Tryz.prog (Builtin.append_ #[34,34] 34 #[.slice l2.a l2.len l2.cap,.slice (some b2) 1 1]) w fun(l3:Sl) w=>
 ∃m6:Nat,m6 < m5 /\ aS l3 (IntKind.u64.wrap (eE - 1)) m6 w) else (∃m3:Nat,m3 < m2 /\ ak l2 (IntKind.i64.wrap (uw+k3)) fF pT m3 w)))))) else (if (cond ((l.len:Int) !=n_) true (zy !=0))=true then (R ⟨none,0,0⟩ 0 w) else (R l v8 w))))
theorem KB {b n_ form w R} (h:f156 b n_ form w R):NZ b n_ form w R:=
  ag (H:=⟨[(11,⟨[(8,.sl),(9,.i .i64),(10,.i .i64),(11,.i .u64)],[0,1,2]⟩),(27,⟨[(8,.sl),(14,.i .u64)],[0,1,2,9,10,11,17]⟩)],[(11,⟨[(9,.i .i64),(11,.i .u64)],[0,1,2,8,10]⟩),(20,⟨[(9,.i .i64),(11,.i .u64),(14,.i .u64)],[0,1,2,8,10]⟩),(27,⟨[(10,.i .i64),(17,.i .i64)],[0,1,2,8,9,11,14]⟩)]⟩) ct Tryz.func156 (cast (by kernel_rfl) h)
def f157 (l:Sl) (w:World) (R:Sl->World->Prop):Prop:=
 N1 l w fun(XV XW XX:Sl) w=>
 Nw (.cells #[.slice none 0 0,.slice none 0 0,.slice none 0 0] 209) w fun(f:Addr) w=>
 St f (.slice XV.a XV.len XV.cap) w fun w=>
 St (f.add 1) (.slice XW.a XW.len XW.cap) w fun w=>
 St (f.add 2) (.slice XX.a XX.len XX.cap) w fun w=>
 RP f 3 0 1 fun(a:Addr)=>
 Ld .sl w a fun(jz:Sl)=>
 ∃ak:Sl->Int->Nat->World->Prop,(∃n:Nat,ak jz 1 n w) /\ ∀C3:Sl,∀i:Int,∀m:Nat,∀w:World,ak C3 i m w->(if (decide (i < 3))=true then (RP f 3 i 1 fun(a2:Addr)=>
 Ld .sl w a2 fun(x:Sl)=>
 if (decide ((x.len:Int) < (C3.len:Int)))=true then (RP f 3 i 1 fun(a3:Addr)=>
 Ld .sl w a3 fun(SS:Sl)=>
 ∃m2:Nat,m2 < m /\ ak SS (IntKind.i64.wrap (i+1)) m2 w) else (∃m2:Nat,m2 < m /\ ak C3 (IntKind.i64.wrap (i+1)) m2 w)) else (R C3 w))
theorem KC {l w R} (h:f157 l w R):JF l w R:=
  ag (H:=⟨[(4,⟨[(4,.sl),(5,.i .i64)],[3]⟩)],[]⟩) ct Tryz.func157 (cast (by kernel_rfl) h)
def f158 (p:Option Addr) (i:Int) (w:World) (R:Bool->World->Prop):Prop:=
 ∃ak:Int->Nat->World->Prop,(∃n:Nat,ak 0 n w) /\ ∀k:Int,∀m:Nat,∀w:World,ak k m w->(NN p fun(p_:Addr)=>
 Ld .sl w (p_.add 3) fun(oT:Sl)=>
 if (decide (k < (oT.len:Int)))=true then (NN p fun(qS:Addr)=>
 Ld .sl w (qS.add 3) fun(zw:Sl)=>
 Ix zw.a zw.len k 1 fun(a:Addr)=>
 Ld (.i .i64) w a fun(x:Int)=>
 if (x ==i)=true then (R true w) else (∃m2:Nat,m2 < m /\ ak (IntKind.i64.wrap (k+1)) m2 w)) else (R false w))
theorem KE {p i w R} (h:f158 p i w R):JG p i w R:=
  ag (H:=⟨[(2,⟨[(5,.i .i64)],[0,1]⟩)],[]⟩) ct Tryz.func158 (cast (by kernel_rfl) h)
def f161 (l:Sl) (w:World) (R:Sl->World->Prop):Prop:=
 ∃ak:Sl->Int->Nat->World->Prop,(∃n:Nat,ak ⟨none,0,0⟩ 0 n w) /\ ∀out:Sl,∀t9:Int,∀m:Nat,∀w:World,ak out t9 m w->(if (decide (t9 < (l.len:Int)))=true then (Ix l.a l.len t9 1 fun(a:Addr)=>
 Ld (.i .i64) w a fun(n_:Int)=>
 ∃J_:Bool->World->Prop,(if (decide ((IntKind.i64.wrap ((out.len:Int) - 1))>=0))=true then (Ix out.a out.len (IntKind.i64.wrap ((out.len:Int) - 1)) 2 fun(a2:Addr)=>
 Ld (.i .i64) w (a2.add 1) fun(qT:Int)=>
 J_ (qT ==n_) w) else (J_ false w)) /\ ∀t26:Bool,∀w:World,J_ t26 w->(if t26=true then (Ix out.a out.len (IntKind.i64.wrap ((out.len:Int) - 1)) 2 fun(a3:Addr)=>
 Ld (.i .u64) w a3 fun(many:Int)=>
 Ix out.a out.len (IntKind.i64.wrap ((out.len:Int) - 1)) 2 fun(a4:Addr)=>
 St a4 (.int .u64 (IntKind.u64.wrap (many+1))) w fun w=>
 ∃m2:Nat,m2 < m /\ ak out (IntKind.i64.wrap (t9+1)) m2 w) else (Nw (.cells #[.int .u64 1,.int .i64 n_] 207) w fun(b:Addr) w=>
 bZ .sl Tryz.prog (Builtin.append_ #[204,204] 204 #[.slice out.a out.len out.cap,.slice (some b) 1 1]) w fun(bH:Sl) w=>
 ∃m2:Nat,m2 < m /\ ak bH (IntKind.i64.wrap (t9+1)) m2 w))) else (R out w))
theorem KF {l w R} (h:f161 l w R):N0 l w R:=
  ag (H:=⟨[(3,⟨[(3,.sl),(9,.i .i64)],[7,8]⟩)],[(7,⟨[(26,.b)],[3,5,6,7,8,9]⟩)]⟩) ct Tryz.func161 (cast (by kernel_rfl) h)
def f162 (s:Sl) (v:ByteArray) (w:World) (R:Int->World->Prop):Prop:=
 ∃ak:Int->Nat->World->Prop,(∃n:Nat,ak 0 n w) /\ ∀t8:Int,∀m:Nat,∀w:World,ak t8 m w->(if (decide (t8 < (s.len:Int)))=true then (Ix s.a s.len t8 1 fun(a:Addr)=>
 Ld .s w a fun(x:ByteArray)=>
 if (v.toList ==x.toList)=true then (R t8 w) else (∃m2:Nat,m2 < m /\ ak (IntKind.i64.wrap (t8+1)) m2 w)) else (R (-1) w))
theorem KG {s v w R} (h:f162 s v w R):Sr s v w R:=
  ag (H:=⟨[(2,⟨[(8,.i .i64)],[0,1,7]⟩)],[]⟩) ct Tryz.func162 (cast (by kernel_rfl) h)
def f164 (l:Sl) (w:World) (R:Sl->Sl->Sl->World->Prop):Prop:=
 Nw (.cells #[.slice none 0 0,.slice none 0 0,.slice none 0 0] 209) w fun(a:Addr) w=>
 Nw (.cells #[.int .u8 0] 5) w fun(b:Addr) w=>
 Nw (.cells #[.int .u8 1] 5) w fun(b2:Addr) w=>
 Nw (.cells #[.int .u8 2] 5) w fun(b3:Addr) w=>
 ∃ak:Sl->Sl->Sl->Int->Int->Int->Nat->World->Prop,(∃n:Nat,ak ⟨some b,1,1⟩ ⟨some b2,1,1⟩ ⟨none,0,0⟩ 0 0 0 n w) /\ ∀plain:Sl,∀steps:Sl,∀each:Sl,∀many:Int,∀last:Int,∀i:Int,∀m:Nat,∀w:World,ak plain steps each many last i m w->(if (decide (i < (l.len:Int)))=true then (Ix l.a l.len i 1 fun(a2:Addr)=>
 Ld (.i .i64) w a2 fun(x:Int)=>
 DY plain x w fun(qW:Sl) w=>
 Ix l.a l.len i 1 fun(a3:Addr)=>
 Ld (.i .i64) w a3 fun(x2:Int)=>
 DY steps (IntKind.i64.wrap (x2 - last)) w fun(qX:Sl) w=>
 Ix l.a l.len i 1 fun(a4:Addr)=>
 Ld (.i .i64) w a4 fun(fF:Int)=>
 ∃J_:Bool->World->Prop,(Dr w fun w=>
 if (i ==0)=true then (J_ true w) else (Ix l.a l.len (IntKind.i64.wrap (i - 1)) 1 fun(a5:Addr)=>
 Ld (.i .i64) w a5 fun(x3:Int)=>
 Ix l.a l.len i 1 fun(a6:Addr)=>
 Ld (.i .i64) w a6 fun(x4:Int)=>
 J_ (x3 !=x4) w)) /\ ∀t51:Bool,∀w:World,J_ t51 w->(if t51=true then (∃lv:Int->World->Prop,(∃aS:Int->Nat->World->Prop,(∃n:Nat,aS 1 n w) /\ ∀n_:Int,∀m3:Nat,∀w:World,aS n_ m3 w->(Dr w fun w=>
 if (decide ((IntKind.i64.wrap (i+n_)) < (l.len:Int)))=true then (Ix l.a l.len (IntKind.i64.wrap (i+n_)) 1 fun(a7:Addr)=>
 Ld (.i .i64) w a7 fun(x5:Int)=>
 Ix l.a l.len i 1 fun(a8:Addr)=>
 Ld (.i .i64) w a8 fun(x6:Int)=>
 if (x5 ==x6)=true then (∃m4:Nat,m4 < m3 /\ aS (IntKind.i64.wrap (n_+1)) m4 w) else (lv n_ w)) else (lv n_ w))) /\ ∀qT:Int,∀w:World,lv qT w->(BB each (IntKind.u64.wrap qT) w fun(L7:Sl) w=>
 Ix l.a l.len i 1 fun(a9:Addr)=>
 Ld (.i .i64) w a9 fun(x7:Int)=>
 DY L7 x7 w fun(L8:Sl) w=>
 ∃m2:Nat,m2 < m /\ ak qW qX L8 (IntKind.i64.wrap (many+1)) fF (IntKind.i64.wrap (i+1)) m2 w)) else (∃m2:Nat,m2 < m /\ ak qW qX each many fF (IntKind.i64.wrap (i+1)) m2 w))) else (BB ⟨some b3,1,1⟩ (IntKind.u64.wrap many) w fun(r:Sl) w=>
 bZ .sl Tryz.prog (Builtin.append_ #[23,23] 23 #[.slice r.a r.len r.cap,.slice each.a each.len each.cap]) w fun(runs:Sl) w=>
 St a (.slice plain.a plain.len plain.cap) w fun w=>
 St (a.add 1) (.slice steps.a steps.len steps.cap) w fun w=>
 St (a.add 2) (.slice runs.a runs.len runs.cap) w fun w=>
 Ld .sl w a fun(r_0:Sl)=>Ld .sl w (a.add 1) fun(r_1:Sl)=>Ld .sl w (a.add 2) fun(SR:Sl)=>
 R r_0 r_1 SR w))
theorem KH {l w R} (h:f164 l w R):N1 l w R:=
  ag (H:=⟨[(8,⟨[(3,.sl),(4,.sl),(6,.sl),(7,.i .i64),(8,.i .i64),(9,.i .i64)],[0,2,5]⟩),(15,⟨[(10,.i .i64)],[0,2,3,4,5,6,7,8,9]⟩)],[(14,⟨[(51,.b)],[0,2,3,4,5,6,7,8,9]⟩),(17,⟨[(10,.i .i64)],[0,2,3,4,5,6,7,8,9]⟩)]⟩) ct Tryz.func164 (cast (by kernel_rfl) h)
end Go.Proofs.YtcccjgmekakabaaGreat.F
end

section
namespace Go.Den
open Go.RowKit
structure aa where
 holds:World->List Nat->Prop
 fr: ∀{S:List Nat} {w w':World} {O:List Nat},holds w O->Fr S w w'->(∀k∈O,k ∉ S)->holds w' O
 lt: ∀{w:World} {O:List Nat},holds w O-> ∀k∈O,k < w.heap.size
 own:Bool:=true
def aa.ro (t:aa):aa:={ t with own:=false}
structure Hp (S:List Nat) (w0 w:World) (ae:List aa):Prop where
 fr:Fr S w0 w
 ex: ∃F:Nat->List Nat,(∀i t,ae[i]? =some t->t.holds w (F i) /\ (t.own=true-> ∀k∈F i,k∈S \/ w0.heap.size<=k) /\ (t.own=false-> ∀k∈F i,k ∉ S /\ k < w0.heap.size)) /\
  ∀i j t u,ae[i]? =some t->ae[j]? =some u->i≠j->t.own=true->u.own=true-> ∀k∈F i,k ∉ F j
namespace Hp
variable {S:List Nat} {w0 w:World} {ae:List aa}
theorem init (w:World):Hp S w w []:=⟨Fr.refl _ _,fun _=> [],by simp,by simp⟩
theorem grow (h:Hp S w0 w ae) {w':World} {t:aa} {O:List Nat} (hf:Fr [] w w') (ht:t.holds w' O) (hO: ∀k∈O,w.heap.size<=k) (ho:t.own=true):Hp S w0 w' (ae++ [t]):=by
 obtain⟨eN,F,h1,h2⟩:=h
 have hs:=eN.size
 have key: ∀i u,(ae++ [t])[i]? =some u->(i < ae.length /\ ae[i]? =some u) \/ (i=ae.length /\ u=t):=by
  intro i u hi
  by_cases ar:i < ae.length
  ·rw [afx ar] at hi;exact .inl ⟨ar,hi⟩
  ·rw [afv (by omega)] at hi
   have:i - ae.length=0:=by
    rcases agY (i - ae.length) with h | h
    ·exact h
    ·rw [af0 (by simp;omega)] at hi;cases hi
   rw [this] at hi
   simp only [afJ,afy] at hi
   exact .inr ⟨by omega,hi.symm⟩
 refine⟨eN.trans hf (by simp),fun i=>if i=ae.length then O else F i,?_,?_⟩
 ·intro i u hi
  rcases key i u hi with ⟨ar,fK⟩ | ⟨rfl,rfl⟩
  ·dsimp only
   rw [if_neg (by omega)]
   obtain⟨g1,g2,g3⟩:=h1 i u fK
   exact⟨u.fr g1 hf (by simp),g2,g3⟩
  ·dsimp only
   rw [if_pos rfl]
   exact⟨ht,fun _ k hk=>.inr (ag3 hs (hO k hk)),fun h=>by rw [ho] at h;cases h⟩
 ·intro i j u v hi hj aR hu hv k hk
  rcases key i u hi with ⟨ar,fK⟩ | ⟨rfl,rfl⟩
  ·rcases key j v hj with ⟨lM,dI⟩ | ⟨rfl,rfl⟩
   ·simp only [if_neg (show ¬i=ae.length by omega),if_neg (show ¬j=ae.length by omega)] at hk ⊢
    exact h2 i j u v fK dI aR hu hv k hk
   ·simp only [if_neg (show ¬i=ae.length by omega),if_true] at hk ⊢
    intro bG
    have:=u.lt (h1 i u fK).1 k hk
    have:=hO k bG
    omega
  ·rcases key j v hj with ⟨lM,dI⟩ | ⟨rfl,rfl⟩
   ·simp only [if_neg (show ¬j=ae.length by omega),if_true] at hk ⊢
    intro bG
    have:=v.lt (h1 j v dI).1 k bG
    have:=hO k hk
    omega
   ·exact absurd rfl aR
theorem cB (h:Hp S w0 w ae) {w':World} (hf:Fr [] w w'):Hp S w0 w' ae:=by
 obtain⟨eN,F,h1,h2⟩:=h
 exact⟨eN.trans hf (by simp),F,fun i t hi=>⟨t.fr (h1 i t hi).1 hf (by simp),(h1 i t hi).2⟩,h2⟩
theorem step (h:Hp S w0 w ae) {i:Nat} {t:aa} (hi:ae[i]? =some t) (ho:t.own=true):
  ∃O,t.holds w O /\ ∀{w':World} {t':aa} {O':List Nat},Fr O w w'->t'.holds w' O'->(∀k∈O',k∈O \/ w.heap.size<=k)->t'.own=true->Hp S w0 w' (ae.set i t'):=by
 obtain⟨eN,F,h1,h2⟩:=h
 obtain⟨g1,g2,g3⟩:=h1 i t hi
 refine⟨F i,g1,fun{w' t' O'} hf D3 mv lu=>?_⟩
 have ar:=(aft.1 hi).1
 have key: ∀j u,(ae.set i t')[j]? =some u->(j≠i /\ ae[j]? =some u) \/ (j=i /\ u=t'):=by
  intro j u hj
  rw [agm] at hj
  split at hj
  ·rename_i e
   simp only [if_pos ar,afy] at hj
   exact .inr ⟨e.symm,hj.symm⟩
  ·rename_i e;exact .inl ⟨fun h=>e h.symm,hj⟩
 have hs:=eN.size
 have apart: ∀j u,j≠i->ae[j]? =some u-> ∀k∈F j,k ∉ F i:=by
  intro j u aR hj k hk Fb
  cases C4:u.own with
  | true=>exact h2 j i u t hj hi aR C4 ho k hk Fb
  | false=>
   obtain⟨_,q2,q3⟩:=h1 j u hj
   have q:=q3 C4 k hk
   rcases g2 ho k Fb with h | h
   ·exact q.1 h
   ·omega
 refine⟨eN.trans hf (g2 ho),fun j=>if j=i then O' else F j,?_,?_⟩
 ·intro j u hj
  rcases key j u hj with ⟨aR,D4⟩ | ⟨rfl,rfl⟩
  ·dsimp only
   rw [if_neg aR]
   obtain⟨q1,q2⟩:=h1 j u D4
   exact⟨u.fr q1 hf (apart j u aR D4),q2⟩
  ·dsimp only
   rw [if_pos rfl]
   refine⟨D3,fun _ k hk=>?_,fun h=>by rw [lu] at h;cases h⟩
   rcases mv k hk with h | h
   ·exact g2 ho k h
   ·exact .inr (ag3 hs h)
 ·intro j j' u v hj dI aR hu hv k hk
  rcases key j u hj with ⟨hn,D4⟩ | ⟨rfl,rfl⟩
  ·rcases key j' v dI with ⟨kq,sT⟩ | ⟨rfl,rfl⟩
   ·simp only [if_neg hn,if_neg kq] at hk ⊢
    exact h2 j j' u v D4 sT aR hu hv k hk
   ·simp only [if_neg hn,if_true] at hk ⊢
    intro bG
    rcases mv k bG with h | h
    ·exact apart j u hn D4 k hk h
    ·have:=u.lt (h1 j u D4).1 k hk;omega
  ·rcases key j' v dI with ⟨kq,sT⟩ | ⟨rfl,rfl⟩
   ·simp only [if_neg kq,if_true] at hk ⊢
    intro bG
    rcases mv k hk with h | h
    ·exact apart j' v kq sT k bG h
    ·have:=v.lt (h1 j' v sT).1 k bG;omega
   ·exact absurd rfl aR
theorem n9 (h:Hp S w0 w ae) {i:Nat} {t:aa} (hi:ae[i]? =some t): ∃O,t.holds w O:=by
 obtain⟨eN,F,h1,h2⟩:=h
 exact⟨_,(h1 i t hi).1⟩
theorem sU (h:Hp S w0 w ae) {i:Nat} {t:aa} (hi:ae[i]? =some t) (ho:t.own=true) {t':aa} (himp: ∀w O,t.holds w O->t'.holds w O) (lu:t'.own=true):Hp S w0 w (ae.set i t'):=by
 obtain⟨O,hO,back⟩:=h.step hi ho
 exact back (Fr.refl _ _) (himp _ _ hO) (fun k hk=>.inl hk) lu
theorem ey (h:Hp S w0 w ae) {t:aa} {O:List Nat} (ht:t.holds w0 O) (hO: ∀k∈O,k ∉ S):Hp S w0 w (ae++ [t.ro]):=by
 obtain⟨eN,F,h1,h2⟩:=h
 have key: ∀i u,(ae++ [t.ro])[i]? =some u->(i < ae.length /\ ae[i]? =some u) \/ (i=ae.length /\ u=t.ro):=by
  intro i u hi
  by_cases ar:i < ae.length
  ·rw [afx ar] at hi;exact .inl ⟨ar,hi⟩
  ·rw [afv (by omega)] at hi
   have:i - ae.length=0:=by
    rcases agY (i - ae.length) with h | h
    ·exact h
    ·rw [af0 (by simp;omega)] at hi;cases hi
   rw [this] at hi
   simp only [afJ,afy] at hi
   exact .inr ⟨by omega,hi.symm⟩
 refine⟨eN,fun i=>if i=ae.length then O else F i,?_,?_⟩
 ·intro i u hi
  rcases key i u hi with ⟨ar,fK⟩ | ⟨rfl,rfl⟩
  ·dsimp only
   rw [if_neg (by omega)];exact h1 i u fK
  ·dsimp only
   rw [if_pos rfl]
   exact⟨t.fr ht eN hO,fun h=>(by cases h),fun _ k hk=>⟨hO k hk,t.lt ht k hk⟩⟩
 ·intro i j u v hi hj aR hu hv k hk
  rcases key i u hi with ⟨ar,fK⟩ | ⟨rfl,rfl⟩
  ·rcases key j v hj with ⟨lM,dI⟩ | ⟨rfl,rfl⟩
   ·simp only [if_neg (show ¬i=ae.length by omega),if_neg (show ¬j=ae.length by omega)] at hk ⊢
    exact h2 i j u v fK dI aR hu hv k hk
   ·cases hv
  ·cases hu
theorem GB (h:Hp S w0 w ae) (js:List Nat) (bE:js.Nodup) {ts:List aa} (hl:ts.length=js.length) (Vq: ∀n j:Nat,js[n]? =some j->ae[j]? =ts[n]?):Hp S w0 w ts:=by
 obtain⟨eN,F,h1,h2⟩:=h
 have key: ∀(n:Nat) (t:aa),ts[n]? =some t-> ∃j,js[n]? =some j /\ ae[j]? =some t:=by
  intro n t hn
  have ar:=(aft.1 hn).1
  refine⟨js[n],by simp [show n < js.length by omega],?_⟩
  rw [Vq n js[n] (by simp [show n < js.length by omega]),hn]
 refine⟨eN,fun n=>F (js.getD n 0),?_,?_⟩
 ·intro n t hn
  obtain⟨j,hj,ht⟩:=key n t hn
  have e:js.getD n 0=j:=by simp [hj]
  simp only [e]
  exact h1 j t ht
 ·intro n m t u hn hm aR ht hu
  obtain⟨j,hj,XY⟩:=key n t hn
  obtain⟨j',dI,PR⟩:=key m u hm
  have e:js.getD n 0=j:=by simp [hj]
  have e':js.getD m 0=j':=by simp [dI]
  simp only [e,e']
  refine h2 j j' t u XY PR ?_ ht hu
  intro he
  subst he
  exact aR ((agF (by obtain⟨h,_⟩:=aft.1 hj;exact h) bE).1 (hj.trans dI.symm))
theorem oV (h:Hp S w0 w ae) (i:Nat) {t:aa} (hi:ae[i]? =some t):Hp S w0 w [t]:=
 h.GB [i] (by simp) rfl (fun n j hn=>by
  match n,hn with
  | 0,hn=>simp only [afJ,afy] at hn;subst hn;simpa using hi)
theorem PS (h:Hp S w0 w ae) (i j:Nat) (aR:i≠j) {t u:aa} (hi:ae[i]? =some t) (hj:ae[j]? =some u):Hp S w0 w [t,u]:=
 h.GB [i,j] (by simp [aR]) rfl (fun n m hn=>by
  match n,hn with
  | 0,hn=>simp only [afJ,afy] at hn;subst hn;simpa using hi
  | 1,hn=>simp only [af8,afJ,afy] at hn;subst hn;simpa using hj)
theorem KI (h:Hp S w0 w ae) (i j k:Nat) (aR: [i,j,k].Nodup) {t u v:aa} (hi:ae[i]? =some t) (hj:ae[j]? =some u) (hk:ae[k]? =some v):Hp S w0 w [t,u,v]:=
 h.GB [i,j,k] aR rfl (fun n m hn=>by
  match n,hn with
  | 0,hn=>simp only [afJ,afy] at hn;subst hn;simpa using hi
  | 1,hn=>simp only [af8,afJ,afy] at hn;subst hn;simpa using hj
  | 2,hn=>simp only [af8,afJ,afy] at hn;subst hn;simpa using hk)
theorem GC (h:Hp S w0 w ae) (i j k l:Nat) (aR: [i,j,k,l].Nodup) {t u v x:aa} (hi:ae[i]? =some t) (hj:ae[j]? =some u) (hk:ae[k]? =some v) (hl:ae[l]? =some x):Hp S w0 w [t,u,v,x]:=
 h.GB [i,j,k,l] aR rfl (fun n m hn=>by
  match n,hn with
  | 0,hn=>simp only [afJ,afy] at hn;subst hn;simpa using hi
  | 1,hn=>simp only [af8,afJ,afy] at hn;subst hn;simpa using hj
  | 2,hn=>simp only [af8,afJ,afy] at hn;subst hn;simpa using hk
  | 3,hn=>simp only [af8,afJ,afy] at hn;subst hn;simpa using hl)
theorem BR (h:Hp S w0 w ae) (i j k l m:Nat) (aR: [i,j,k,l,m].Nodup) {t u v x y:aa} (hi:ae[i]? =some t) (hj:ae[j]? =some u) (hk:ae[k]? =some v) (hl:ae[l]? =some x) (hm:ae[m]? =some y):Hp S w0 w [t,u,v,x,y]:=
 h.GB [i,j,k,l,m] aR rfl (fun n m hn=>by
  match n,hn with
  | 0,hn=>simp only [afJ,afy] at hn;subst hn;simpa using hi
  | 1,hn=>simp only [af8,afJ,afy] at hn;subst hn;simpa using hj
  | 2,hn=>simp only [af8,afJ,afy] at hn;subst hn;simpa using hk
  | 3,hn=>simp only [af8,afJ,afy] at hn;subst hn;simpa using hl
  | 4,hn=>simp only [af8,afJ,afy] at hn;subst hn;simpa using hm)
theorem KJ (h:Hp S w0 w ae) (i j k l m o:Nat) (aR: [i,j,k,l,m,o].Nodup) {t u v x y z:aa} (hi:ae[i]? =some t) (hj:ae[j]? =some u) (hk:ae[k]? =some v) (hl:ae[l]? =some x) (hm:ae[m]? =some y) (ho:ae[o]? =some z):Hp S w0 w [t,u,v,x,y,z]:=
 h.GB [i,j,k,l,m,o] aR rfl (fun n m hn=>by
  match n,hn with
  | 0,hn=>simp only [afJ,afy] at hn;subst hn;simpa using hi
  | 1,hn=>simp only [af8,afJ,afy] at hn;subst hn;simpa using hj
  | 2,hn=>simp only [af8,afJ,afy] at hn;subst hn;simpa using hk
  | 3,hn=>simp only [af8,afJ,afy] at hn;subst hn;simpa using hl
  | 4,hn=>simp only [af8,afJ,afy] at hn;subst hn;simpa using hm
  | 5,hn=>simp only [af8,afJ,afy] at hn;subst hn;simpa using ho)
theorem front {a b:List aa} (h:Hp S w0 w (a++b)):Hp S w0 w a:=by
 obtain⟨eN,F,h1,h2⟩:=h
 have key: ∀(i:Nat) (t:aa),a[i]? =some t->(a++b)[i]? =some t:=fun i t hi=>by
  rw [afx (aft.1 hi).1];exact hi
 exact⟨eN,F,fun i t hi=>h1 i t (key i t hi),fun i j t u hi hj=>h2 i j t u (key i t hi) (key j u hj)⟩
def pU (ae:List aa):List Nat->List aa->List aa
 | i :: is,t :: ts=>pU (ae.set i t) is ts
 | _,_=>ae
theorem sm: ∀(is:List Nat) (ts ae:List aa),(pU ae is ts).length=ae.length
 | [],_,_=>by simp [pU]
 | i :: is,[],_=>by simp [pU]
 | i :: is,t :: ts,ae=>by simp [pU,sm is ts]
theorem oW: ∀(is:List Nat) (ts ae:List aa) (j:Nat),j ∉ is->(pU ae is ts)[j]? =ae[j]?
 | [],_,_,_,_=>by simp [pU]
 | i :: is,[],_,_,_=>by simp [pU]
 | i :: is,t :: ts,ae,j,h=>by
  simp only [af1,not_or] at h
  rw [pU,oW is ts _ j h.2,afY (fun e=>h.1 e.symm)]
theorem C5: ∀(is:List Nat) (ts ae:List aa) (n j:Nat),is.Nodup->is[n]? =some j->j < ae.length->n < ts.length->(pU ae is ts)[j]? =ts[n]?
 | [],_,_,_,_,_,h,_,_=>by simp at h
 | i :: is,[],_,n,_,_,_,_,h=>by simp at h
 | i :: is,t :: ts,ae,n,j,bE,hn,hj,hl=>by
  obtain⟨h1,h2⟩:=ags.1 bE
  cases n with
  | zero=>
   simp only [afJ,afy] at hn
   subst hn
   rw [pU,oW is ts _ i h1]
   simp [hj]
  | succ n=>
   simp only [af8] at hn ⊢
   rw [pU]
   exact C5 is ts _ n j h2 hn (by simpa using hj) (by simpa using hl)
theorem frame (h:Hp S w0 w ae) (is js:List Nat) (bE:is.Nodup) (GD: ∀i∈is,i ∉ js) {ts us:List aa} (hl:ts.length=is.length) (cW:us.length=js.length)
  (Vq: ∀n i:Nat,is[n]? =some i->ae[i]? =ts[n]?) (hus: ∀n i:Nat,js[n]? =some i->ae[i]? =us[n]?) (SU: ∀t∈ts,t.own=true):
  ∃O,Hp O w w (ts++us.map aa.ro) /\ ∀{w':World} {ts' rest:List aa},ts'.length=ts.length->(∀t∈ts',t.own=true)->(∀t∈rest,t.own=true)->Hp O w w' (ts'++rest)->Hp S w0 w' (pU ae is ts'++rest):=by
 obtain⟨eN,F,h1,h2⟩:=h
 have hs:=eN.size
 have key: ∀(n:Nat) (t:aa),ts[n]? =some t-> ∃j,is[n]? =some j /\ ae[j]? =some t:=by
  intro n t hn
  have ar:=(aft.1 hn).1
  refine⟨is[n],by simp [show n < is.length by omega],?_⟩
  rw [Vq n is[n] (by simp [show n < is.length by omega]),hn]
 have XZ: ∀(n:Nat) (t:aa),us[n]? =some t-> ∃j,js[n]? =some j /\ ae[j]? =some t:=by
  intro n t hn
  have ar:=(aft.1 hn).1
  refine⟨js[n],by simp [show n < js.length by omega],?_⟩
  rw [hus n js[n] (by simp [show n < js.length by omega]),hn]
 have GF: ∀i∈is,∃t,ae[i]? =some t /\ t.own=true:=by
  intro i hi
  obtain⟨n,hn⟩:=afT hi
  have ar:=(aft.1 hn).1
  have hnt:ts[n]? =some ts[n]:=by simp [show n < ts.length by omega]
  exact⟨ts[n],(Vq n i hn).trans hnt,SU _ (by simp)⟩
 have hO: ∀k,k∈is.flatMap F↔ ∃i∈is,k∈F i:=fun k=>ag0
 -- who is not among them has other blocks
 have apart: ∀j u,ae[j]? =some u->j ∉ is-> ∀k∈F j,k ∉ is.flatMap F:=by
  intro j u hj CS k hk hkO
  obtain⟨i,hi,Fb⟩:=(hO k).1 hkO
  obtain⟨t,ht,PT⟩:=GF i hi
  have aR:j≠i:=fun e=>CS (e ▸ hi)
  cases C4:u.own with
  | true=>exact h2 j i u t hj ht aR C4 PT k hk Fb
  | false=>
   have q:=(h1 j u hj).2.2 C4 k hk
   rcases(h1 i t ht).2.1 PT k Fb with h | h
   ·exact q.1 h
   ·omega
 refine⟨is.flatMap F,⟨Fr.refl _ _,fun n=>if n < ts.length then F (is.getD n 0) else F (js.getD (n - ts.length) 0),?_,?_⟩,?_⟩
 ·intro n t hn
  by_cases ar:n < ts.length
  ·rw [afx ar] at hn
   obtain⟨j,hj,ht⟩:=key n t hn
   have e:is.getD n 0=j:=by simp [hj]
   simp only [if_pos ar,e]
   refine⟨(h1 j t ht).1,fun _ k hk=>.inl ((hO k).2 ⟨j,afz hj,hk⟩),fun ho=>?_⟩
   rw [SU t (afz hn)] at ho;cases ho
  ·rw [afv (by omega),afC,af2] at hn
   obtain⟨u,hu,rfl⟩:=hn
   obtain⟨j,hj,ht⟩:=XZ _ u hu
   have e:js.getD (n - ts.length) 0=j:=by simp [hj]
   simp only [if_neg ar,e]
   refine⟨(h1 j u ht).1,fun h=>(by cases h),fun _ k hk=>⟨apart j u ht (fun hm=>GD j hm (afz hj)) k hk,u.lt (h1 j u ht).1 k hk⟩⟩
 ·intro n m t u hn hm aR ht hu k hk
  have low: ∀n t,(ts++us.map aa.ro)[n]? =some t->t.own=true->n < ts.length:=by
   intro n t hn ht
   refine aih fun iL=>?_
   rw [afv iL,afC,af2] at hn
   obtain⟨u,hu,rfl⟩:=hn
   cases ht
  have ln:=low n t hn ht
  have lm:=low m u hm hu
  rw [afx ln] at hn
  rw [afx lm] at hm
  obtain⟨j,hj,XY⟩:=key n t hn
  obtain⟨j',dI,PR⟩:=key m u hm
  have e:is.getD n 0=j:=by simp [hj]
  have e':is.getD m 0=j':=by simp [dI]
  simp only [if_pos ln,if_pos lm,e,e'] at hk ⊢
  refine h2 j j' t u XY PR ?_ ht hu k hk
  intro he
  subst he
  exact aR ((agF (by obtain⟨h,_⟩:=aft.1 hj;exact h) bE).1 (hj.trans dI.symm))
 ·intro w' ts' rest hlen SV cq hp
  obtain⟨Z6,G,p1,p2⟩:=hp
  -- the things of the rest of the world
  have kF: ∀n,n < ts.length-> ∃j t,is[n]? =some j /\ ts'[n]? =some t:=fun n hn=>
   ⟨is[n],ts'[n],by simp [show n < is.length by omega],by simp [show n < ts'.length by omega]⟩
  let idx:Nat->Nat:=fun j=>is.idxOf j
  have ku: ∀j∈is,is[is.idxOf j]? =some j:=fun j hj=>by
   have:=ahM.2 hj
   simp [this]
  have SW:=sm is ts' ae
  let G':Nat->List Nat:=fun j=>if j < ae.length then (if j∈is then G (is.idxOf j) else F j) else G (ts'.length+(j - ae.length))
  have cls: ∀j u,(pU ae is ts'++rest)[j]? =some u->(j < ae.length /\ j∈is /\ u.own=true /\ u.holds w' (G (is.idxOf j)) /\ (∀k∈G (is.idxOf j),k∈is.flatMap F \/ w.heap.size<=k) /\ (ts'++rest)[is.idxOf j]? =some u) \/
    (j < ae.length /\ j ∉ is /\ ae[j]? =some u) \/ (ae.length<=j /\ u.own=true /\ (ts'++rest)[ts'.length+(j - ae.length)]? =some u):=by
   intro j u hj
   by_cases ar:j < ae.length
   ·rw [afx (by omega)] at hj
    by_cases hm:j∈is
    ·refine .inl ⟨ar,hm,?_⟩
     have hi:=ku j hm
     have ky:is.idxOf j < ts'.length:=by have:=ahM.2 hm;omega
     rw [C5 is ts' ae _ j bE hi ar ky] at hj
     have DR:(ts'++rest)[is.idxOf j]? =some u:=by
      rw [afx ky];exact hj
     have hu:=SV u (afz hj)
     obtain⟨q1,q2,_⟩:=p1 _ u DR
     exact⟨hu,q1,q2 hu,DR⟩
    ·rw [oW is ts' ae j hm] at hj
     exact .inr (.inl ⟨ar,hm,hj⟩)
   ·rw [afv (by omega),SW] at hj
    refine .inr (.inr ⟨by omega,cq u (afz hj),?_⟩)
    rw [afv (by omega),agI]
    exact hj
  have sV: ∀k,k∈is.flatMap F->k∈S \/ w0.heap.size<=k:=by
   intro k hk
   obtain⟨i,hi,Fb⟩:=(hO k).1 hk
   obtain⟨t,ht,PT⟩:=GF i hi
   exact(h1 i t ht).2.1 PT k Fb
  refine⟨eN.trans Z6 sV,G',?_,?_⟩
  ·intro j u hj
   rcases cls j u hj with ⟨ar,hm,hu,q1,q2,_⟩ | ⟨ar,hm,dI⟩ | ⟨iL,hu,dI⟩
   ·have e:G' j=G (is.idxOf j):=by simp only [G',if_pos ar,if_pos hm]
    rw [e]
    refine⟨q1,fun _ k hk=>?_,fun h=>by rw [hu] at h;cases h⟩
    rcases q2 k hk with h | h
    ·exact sV k h
    ·exact .inr (ag3 hs h)
   ·have e:G' j=F j:=by simp only [G',if_pos ar,if_neg hm]
    rw [e]
    obtain⟨q1,q2⟩:=h1 j u dI
    exact⟨u.fr q1 Z6 (apart j u dI hm),q2⟩
   ·have e:G' j=G (ts'.length+(j - ae.length)):=by simp only [G',if_neg (show ¬j < ae.length by omega)]
    rw [e]
    obtain⟨q1,q2,_⟩:=p1 _ u dI
    refine⟨q1,fun _ k hk=>?_,fun h=>by rw [hu] at h;cases h⟩
    rcases q2 hu k hk with h | h
    ·exact sV k h
    ·exact .inr (ag3 hs h)
  ·intro i j t u hi hj aR ht hu k hk bG
   rcases cls i t hi with ⟨ar,hm,PT,q1,q2,q3⟩ | ⟨ar,hm,fK⟩ | ⟨iL,PT,fK⟩
   ·have e:G' i=G (is.idxOf i):=by simp only [G',if_pos ar,if_pos hm]
    rw [e] at hk
    rcases cls j u hj with ⟨lM,fC,C4,r1,r2,r3⟩ | ⟨lM,fC,dI⟩ | ⟨Nm,C4,dI⟩
    ·have e':G' j=G (is.idxOf j):=by simp only [G',if_pos lM,if_pos fC]
     rw [e'] at bG
     refine p2 _ _ t u q3 r3 ?_ ht hu k hk bG
     intro he
     have a1:=ku i hm
     have a2:=ku j fC
     rw [he] at a1
     exact aR (afK (a1.symm.trans a2))
    ·have e':G' j=F j:=by simp only [G',if_pos lM,if_neg fC]
     rw [e'] at bG
     rcases q2 k hk with h | h
     ·exact apart j u dI fC k bG h
     ·have:=u.lt (h1 j u dI).1 k bG;omega
    ·have e':G' j=G (ts'.length+(j - ae.length)):=by simp only [G',if_neg (show ¬j < ae.length by omega)]
     rw [e'] at bG
     have:=ahM.2 hm
     exact p2 _ _ t u q3 dI (by omega) ht hu k hk bG
   ·have e:G' i=F i:=by simp only [G',if_pos ar,if_neg hm]
    rw [e] at hk
    rcases cls j u hj with ⟨lM,fC,C4,r1,r2,r3⟩ | ⟨lM,fC,dI⟩ | ⟨Nm,C4,dI⟩
    ·have e':G' j=G (is.idxOf j):=by simp only [G',if_pos lM,if_pos fC]
     rw [e'] at bG
     rcases r2 k bG with h | h
     ·exact apart i t fK hm k hk h
     ·have:=t.lt (h1 i t fK).1 k hk;omega
    ·have e':G' j=F j:=by simp only [G',if_pos lM,if_neg fC]
     rw [e'] at bG
     exact h2 i j t u fK dI aR ht hu k hk bG
    ·have e':G' j=G (ts'.length+(j - ae.length)):=by simp only [G',if_neg (show ¬j < ae.length by omega)]
     rw [e'] at bG
     rcases(p1 _ u dI).2.1 C4 k bG with h | h
     ·exact apart i t fK hm k hk h
     ·have:=t.lt (h1 i t fK).1 k hk;omega
   ·have e:G' i=G (ts'.length+(i - ae.length)):=by simp only [G',if_neg (show ¬i < ae.length by omega)]
    rw [e] at hk
    rcases cls j u hj with ⟨lM,fC,C4,r1,r2,r3⟩ | ⟨lM,fC,dI⟩ | ⟨Nm,C4,dI⟩
    ·have e':G' j=G (is.idxOf j):=by simp only [G',if_pos lM,if_pos fC]
     rw [e'] at bG
     have:=ahM.2 fC
     exact p2 _ _ t u fK r3 (by omega) ht hu k hk bG
    ·have e':G' j=F j:=by simp only [G',if_pos lM,if_neg fC]
     rw [e'] at bG
     rcases(p1 _ t fK).2.1 PT k hk with h | h
     ·exact apart j u dI fC k bG h
     ·have:=u.lt (h1 j u dI).1 k bG;omega
    ·have e':G' j=G (ts'.length+(j - ae.length)):=by simp only [G',if_neg (show ¬j < ae.length by omega)]
     rw [e'] at bG
     exact p2 _ _ t u fK dI (by omega) ht hu k hk bG
end Hp
end Go.Den
end
