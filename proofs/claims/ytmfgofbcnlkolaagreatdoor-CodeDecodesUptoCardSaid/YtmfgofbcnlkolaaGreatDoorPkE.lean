/-
  Part 5 of the proof: CodeDecodes is true of the given program where what it reads is of bulk at most 1048576: its row, and the card tied to the program's text.
-/
import Derived.Test.YtmfgofbcnlkolaaGreatDoorPkD
import Derived.Shelf.Strings.Builder1
import Derived.Shelf.Strings.BuilderF
import Derived.Shelf.Strings.BuilderK
import Derived.Shelf.Utf8.RuneCount
import Derived.Shelf.Strconv.Itoa0
import Derived.Shelf.Strconv.Itoa1
import Derived.Shelf.LaysM
import Derived.Shelf.Strconv.Itoa2
import Derived.Shelf.Strconv.Itoa3
import Derived.Shelf.Strconv.Itoa4
import Derived.Shelf.Strconv.ParseIntEmpty
import Derived.Shelf.Strconv.Clone
import Derived.Shelf.Strconv.SyntaxError
import Derived.Shelf.LaysC
import Derived.Shelf.Strconv.ToError
import Derived.Shelf.Strconv.Lower
import Derived.Shelf.Strconv.ParseUint10
import Derived.Shelf.Strconv.ParseUint10Empty
import Derived.Shelf.Strconv.ParseUint10Any
import Derived.Shelf.Strconv.ParseInt10
import Derived.Shelf.Strconv.RangeError
import Derived.Shelf.Strconv.ToErrorRange
import Derived.Shelf.Strconv.ParseUintEmpty
import Derived.Shelf.Strconv.ParseUint10b64
import Derived.Shelf.Strconv.ParseUint10b32
import Derived.Shelf.Strconv.ParseUint10b16
import Derived.Shelf.Strconv.ParseUint10b8
import Derived.Shelf.Strconv.ParseUint10At
import Derived.Shelf.Strconv.ParseInt10At64
import Derived.Shelf.Strconv.ParseInt10At32
import Derived.Shelf.Strconv.ParseInt10At16
import Derived.Shelf.Strconv.ParseInt10At8
import Derived.Shelf.Strconv.ParseInt10All
import Derived.Shelf.Strconv.ParseIntPublic10
import Derived.Shelf.Strconv.ErrVarParseInt
import Derived.Shelf.Strings.Search1
import Derived.Shelf.Strings.Search2
import Derived.Shelf.Strings.Search3
import Derived.Shelf.Strings.Cut
import Derived.Shelf.Strings.Count
import Derived.Shelf.Strings.Shaped
import Derived.Shelf.Strings.Split
import Derived.Shelf.Strings.SplitShaped
import Derived.Shelf.Unicode.Decode
import Derived.Shelf.Strings.RuneCount
import Derived.Shelf.Strings.Explode
import Derived.Shelf.Unicode.DecodeSlow
import Derived.Shelf.Unicode.DecodeAny
import Derived.Shelf.Strings.BuilderCap
import Derived.Lib.ItoaLen
import Derived.Lib.AppendIntMem
import Derived.Lib.SplitLaws
import Derived.Lib.AtoiErrMem
import Derived.Lib.Overlaps
import Derived.Lib.AppendZerosOnto
import Derived.Shelf.Vars
import Derived.Stop.LaidErr
import Derived.Lib.LaidTab
import Derived.Lib.IndexBytes
import Derived.Lib.CountLaws
set_option linter.unusedSimpArgs false
set_option linter.unusedVariables false
set_option maxRecDepth 100000
section
namespace Go.Proofs.YtmfgofbcnlkolaaGreatDoor.F
open Go Go.Den Go.Proofs
section
variable {S : List Nat} {w0 w : World} {its rest : List Thing}
theorem nw_now (h : Hp S w0 w its) (c : List Value) (e : TypeId) : Hp S w0 (w.alloc (.cells c.toArray e)) (its ++ [tBlk w.heap.size e c]) := by
 have := h.nw (c := c) (e := e) (K := fun a w' => ∀ b, a = ⟨b, 0, none⟩ → Hp S w0 w' (its ++ [tBlk b e c])) (fun b w' h b' e => by cases e; exact h)
 exact this _ rfl
theorem _root_.Go.Den.Hp.cutFst2 {t u : Thing} (h : Hp S w0 w (t :: u :: its)) : Hp S w0 w its := by
 have h : Hp S w0 w ([] ++ [t, u] ++ its) := h
 exact h.cutMid
theorem program_calls {rb : Nat} {b : Sl} {ub : Thing} {l : List Int} (h : Hp S w0 w (rdr rb b (0 : Nat) 2000 :: ub :: rest)) (hs : Src ub b l) :
  Calls Tryz.prog 37 #[.pointer (some ⟨rb, 0, none⟩)] w fun e w' => (∃ s1 s2 p c, e = .returned (.agg #[.slice s1.a s1.len s1.cap, .slice s2.a s2.len s2.cap]) ∧ pgD l = .ok p ∧ Hp S w0 w' (tBlk rb 84 c :: ub :: rest ++ [tSyN s1 p.sys, tFnN s2 p.fns])) ∨
   ∃ fb x c, e = .panicked (flt fb) ∧ pgD l = .error x ∧ Hp S w0 w' (tBlk rb 84 c :: ub :: rest ++ [tFault fb x]) := by
 have hc := program_spec h hs (R := curry [.sl, .sl] fun cs w' => ∃ (s1 s2 : Sl) (p : PG) (c : List Value), cs = [.slice s1.a s1.len s1.cap, .slice s2.a s2.len s2.cap] ∧ pgD l = .ok p ∧ Hp S w0 w' (tBlk rb 84 c :: ub :: rest ++ [tSyN s1 p.sys, tFnN s2 p.fns]))
  (E := fun ch w' => ∃ fb x c, ch = flt fb ∧ pgD l = .error x ∧ Hp S w0 w' (tBlk rb 84 c :: ub :: rest ++ [tFault fb x]))
  (fun p hp s1 s2 c w' h => ⟨s1, s2, p, c, rfl, hp, h⟩) (fun e he fb c w' h => ⟨fb, e, c, rfl, he, h⟩)
 refine Calls.mono hc fun e w' hd => ?_
 rcases hd with ⟨v, rfl, hv⟩ | ⟨ch, rfl, fb, x, c, rfl, h1, h2⟩
 ·obtain ⟨cs, ⟨s1, s2, p, c, rfl, h1, h2⟩, rfl⟩ := of_viewRet_curry hv
  exact .inl ⟨s1, s2, p, c, rfl, h1, h2⟩
 ·exact .inr ⟨fb, x, c, rfl, h1, h2⟩
theorem Decode_spec {b : Sl} {ub : Thing} {l : List Int} (h : Hp S w0 w (ub :: rest)) (hs : Src ub b l)
  {K : Sl → Sl → Value → World → Prop}
  (hok : ∀ p, pgD l = .ok p → ∀ s1 s2 w', Hp S w0 w' (ub :: rest ++ [tSyN s1 p.sys, tFnN s2 p.fns]) → K s1 s2 .nilIface w')
  (herr : ∀ e, pgD l = .error e → ∀ fb w', Hp S w0 w' (ub :: rest ++ [tFault fb e]) → K ⟨none, 0, 0⟩ ⟨none, 0, 0⟩ (.iface 86 (.pointer (some ⟨fb, 0, none⟩))) w') : c15 b w K := by
 unfold c15 CallK
 have h := nw_now (nw_now (nw_now h [.slice none 0 0, .slice none 0 0] 37) [.nilIface] 39) [.slice b.a b.len b.cap, .int .i64 0, .int .i64 2000] 84
 have h := h.comm
 have hC := program_calls (rb := w.heap.size + 1 + 1) (b := b) (ub := ub) (rest := rest ++ [tBlk w.heap.size 37 [.slice none 0 0, .slice none 0 0]] ++ [tBlk (w.heap.size + 1) 39 [.nilIface]]) (w := ((w.alloc (.cells #[.slice none 0 0, .slice none 0 0] 37)).alloc (.cells #[.nilIface] 39)).alloc (.cells #[.slice b.a b.len b.cap, .int .i64 0, .int .i64 2000] 84)) (by simpa [rdr] using h) hs
 have hmf : ∀ (fn : Fn) (first cap : Array Value) (w : World), (Instr.makeFunc fn first cap).run Tryz.prog w = .ok (.func fn first cap) w := fun _ _ _ _ => rfl
 go_enter_defers Tryz.func15, Tryz.ntmps15
 iterate 55 go_step
 refine Calls.mono hC ?_
 clear h hC
 rintro e w2 (⟨s1, s2, p, c, rfl, hp, h⟩ | ⟨fb, x, c, rfl, hp, h⟩)
 ·have h : Hp S w0 w2 ([] ++ [tBlk (w.heap.size + 1 + 1) 84 c] ++ ((ub :: rest) ++ [tBlk w.heap.size 37 [.slice none 0 0, .slice none 0 0], tBlk (w.heap.size + 1) 39 [.nilIface]] ++ [tSyN s1 p.sys, tFnN s2 p.fns])) := by simpa using h
  have h := h.cutMid
  have h := h.rot
  have h : Hp S w0 w2 (tBlk w.heap.size 37 [.slice none 0 0, .slice none 0 0] :: tBlk (w.heap.size + 1) 39 [.nilIface] :: (ub :: rest ++ [tSyN s1 p.sys, tFnN s2 p.fns])) := by simpa using h
  have c0 : w2.cell? ⟨w.heap.size, 0, none⟩ = some (.slice none 0 0) := h.cel0 0 rfl rfl
  have c1 : w2.cell? ⟨w.heap.size, 1, none⟩ = some (.slice none 0 0) := h.cel (n := 1) 0 rfl rfl
  have c2 : w2.cell? ⟨w.heap.size + 1, 0, none⟩ = some .nilIface := h.cel0 1 rfl rfl
  obtain ⟨_, _, z0, h⟩ := h.st0 0 (v := .slice s1.a s1.len s1.cap) (K := fun w' => Hp S w0 w' (tBlk w.heap.size 37 [.slice s1.a s1.len s1.cap, .slice none 0 0] :: tBlk (w.heap.size + 1) 39 [.nilIface] :: (ub :: rest ++ [tSyN s1 p.sys, tFnN s2 p.fns]))) rfl (by simp) rfl (fun w' h => h)
  obtain ⟨_, _, z1, h⟩ := h.st (n := 1) 0 (v := .slice s2.a s2.len s2.cap) (K := fun w' => Hp S w0 w' (tBlk w.heap.size 37 [.slice s1.a s1.len s1.cap, .slice s2.a s2.len s2.cap] :: tBlk (w.heap.size + 1) 39 [.nilIface] :: (ub :: rest ++ [tSyN s1 p.sys, tFnN s2 p.fns]))) rfl (by simp) rfl (fun w' h => h)
  obtain ⟨_, _, z2, h⟩ := h.st0 1 (v := .nilIface) (K := fun w' => Hp S w0 w' (tBlk w.heap.size 37 [.slice s1.a s1.len s1.cap, .slice s2.a s2.len s2.cap] :: tBlk (w.heap.size + 1) 39 [.nilIface] :: (ub :: rest ++ [tSyN s1 p.sys, tFnN s2 p.fns]))) rfl (by simp) rfl (fun w' h => h)
  have z1 : w2.frozen? ⟨w.heap.size, 1, none⟩ = false := by
   simp at z1
   exact z1
  have z2 : w2.frozen? ⟨w.heap.size + 1, 0, none⟩ = false := by simpa using z2
  have hK := hok p hp s1 s2 _ h.cutFst2
  clear hok herr
  dsimp only
  go_wp2
  have e1 : (⟨w.heap.size, 0, none⟩ : Addr).add 1 = ⟨w.heap.size, 1, none⟩ := rfl
  rw [e1] at h hK
  have d0 := h.cel0 (v := .slice s1.a s1.len s1.cap) 0 rfl rfl
  have d1 : World.cell? _ ⟨w.heap.size, 1, none⟩ = _ := h.cel (n := 1) (v := .slice s2.a s2.len s2.cap) 0 rfl rfl
  have d2 := h.cel0 (v := .nilIface) 1 rfl rfl
  generalize ((w2.setCell ⟨w.heap.size, 0, none⟩ (.slice s1.a s1.len s1.cap)).setCell ⟨w.heap.size, 1, none⟩ (.slice s2.a s2.len s2.cap)).setCell ⟨w.heap.size + 1, 0, none⟩ .nilIface = w3 at *
  refine leaves_cons (f := 36) (args := #[.pointer (some ⟨w.heap.size + 1, 0, none⟩)]) (by simp) (by simp [go_sem]) ?_
  refine (caught_idle _ _).mono ?_
  rintro e u' w'' ⟨rfl, rfl, rfl⟩
  refine leaves_cons (f := 35) (args := #[.pointer (some ⟨w.heap.size + 1, 0, none⟩), .pointer (some ⟨w.heap.size, 0, none⟩)]) (by simp [settle]) (by simp [go_sem]) ?_
  refine (zero_idle _ _ _ d2).mono ?_
  rintro e u' w'' ⟨rfl, rfl, rfl⟩
  refine ⟨.tuple #[.agg #[.slice s1.a s1.len s1.cap, .slice s2.a s2.len s2.cap], .nilIface], ?_, _, rfl, hK⟩
  simp [results, Tryz.results15, go_sem, d0, d1, d2]
 ·have h : Hp S w0 w2 ([] ++ [tBlk (w.heap.size + 1 + 1) 84 c] ++ ((ub :: rest) ++ [tBlk w.heap.size 37 [.slice none 0 0, .slice none 0 0], tBlk (w.heap.size + 1) 39 [.nilIface]] ++ [tFault fb x])) := by simpa using h
  have h := h.cutMid
  have h := h.rot
  have h : Hp S w0 w2 (tBlk w.heap.size 37 [.slice none 0 0, .slice none 0 0] :: tBlk (w.heap.size + 1) 39 [.nilIface] :: (ub :: rest ++ [tFault fb x])) := by simpa using h
  have c2 : w2.cell? ⟨w.heap.size + 1, 0, none⟩ = some .nilIface := h.cel0 1 rfl rfl
  obtain ⟨_, _, z2, h⟩ := h.st0 1 (v := .iface 86 (.pointer (some ⟨fb, 0, none⟩))) (K := fun w' => Hp S w0 w' (tBlk w.heap.size 37 [.slice none 0 0, .slice none 0 0] :: tBlk (w.heap.size + 1) 39 [.iface 86 (.pointer (some ⟨fb, 0, none⟩))] :: (ub :: rest ++ [tFault fb x]))) rfl (by simp) rfl (fun w' h => h)
  have d2 := h.cel0 (v := .iface 86 (.pointer (some ⟨fb, 0, none⟩))) 1 rfl rfl
  have c0 := h.cel0 (v := .slice none 0 0) 0 rfl rfl
  have c1 : World.cell? _ ⟨w.heap.size, 1, none⟩ = _ := h.cel (n := 1) (v := .slice none 0 0) 0 rfl rfl
  obtain ⟨_, _, z0, h2⟩ := h.st0 0 (v := .slice none 0 0) (K := fun w' => Hp S w0 w' (tBlk w.heap.size 37 [.slice none 0 0, .slice none 0 0] :: tBlk (w.heap.size + 1) 39 [.iface 86 (.pointer (some ⟨fb, 0, none⟩))] :: (ub :: rest ++ [tFault fb x]))) rfl (by simp) rfl (fun w' h => h)
  obtain ⟨_, _, z1, h3⟩ := h2.st (n := 1) 0 (v := .slice none 0 0) (K := fun w' => Hp S w0 w' (tBlk w.heap.size 37 [.slice none 0 0, .slice none 0 0] :: tBlk (w.heap.size + 1) 39 [.iface 86 (.pointer (some ⟨fb, 0, none⟩))] :: (ub :: rest ++ [tFault fb x]))) rfl (by simp) rfl (fun w' h => h)
  have e1 : (⟨w.heap.size, 0, none⟩ : Addr).add 1 = ⟨w.heap.size, 1, none⟩ := rfl
  rw [e1] at h3 z1
  have z1 : (w2.setCell ⟨w.heap.size + 1, 0, none⟩ (.iface 86 (.pointer (some ⟨fb, 0, none⟩)))).frozen? ⟨w.heap.size, 1, none⟩ = false := by simpa using z1
  have hK := herr x hp fb _ h3.cutFst2
  have d3 := h3.cel0 (v := .slice none 0 0) 0 rfl rfl
  have d4 : World.cell? _ ⟨w.heap.size, 1, none⟩ = _ := h3.cel (n := 1) (v := .slice none 0 0) 0 rfl rfl
  have d5 := h3.cel0 (v := .iface 86 (.pointer (some ⟨fb, 0, none⟩))) 1 rfl rfl
  clear hok herr
  dsimp only
  show Leaves Tryz.prog Tryz.f15 _ _ _ (.panicking (flt fb)) w2
  refine leaves_cons (f := 36) (args := #[.pointer (some ⟨w.heap.size + 1, 0, none⟩)]) (by simp) (by simp [go_sem]) ?_
  refine (caught_fault _ _ _ _ c2 rfl z2).mono ?_
  rintro e u' w'' ⟨rfl, rfl, rfl⟩
  refine leaves_cons (f := 35) (args := #[.pointer (some ⟨w.heap.size + 1, 0, none⟩), .pointer (some ⟨w.heap.size, 0, none⟩)]) (by simp [settle]) (by simp [go_sem]) ?_
  refine (zero_fault _ _ _ _ _ _ d2 c0 rfl c1 rfl z0 z1).mono ?_
  rintro e u' w'' ⟨rfl, rfl, rfl⟩
  refine ⟨.tuple #[.agg #[.slice none 0 0, .slice none 0 0], .iface 86 (.pointer (some ⟨fb, 0, none⟩))], ?_, _, rfl, hK⟩
  simp [results, Tryz.results15, go_sem, d3, d4, d5]
end
section
variable {S : List Nat} {w0 w : World} {its rest : List Thing}
theorem RunRoL_pb {P : Program} {sem : Sem Value} {x : Option Addr} {ok : Bool} {R : Option Addr → Bool → World → Prop} (h : ∀ w', sem.run P w' = .ok (.tuple #[.pointer x, .bool ok]) w') (hR : R x ok w) : RunRoL [.one .p, .one .b] P sem w R := ⟨_, fun w' _ => h w', hR⟩
theorem fault_nil {K : Int → Int → Bool → World → Prop} (hK : K 0 0 true w) : c16 .nilIface w K := by
 refine c16_of ?_
 unfold f16
 refine ⟨true, fun _ _ => by kernel_rfl, ?_⟩
 exact hK
theorem fault_spec (h : Hp S w0 w its) (i : Nat) {fb e : Nat} (hi : its[i]? = some (tFault fb e)) {K : Int → Int → Bool → World → Prop} (hK : ∀ w', Hp S w0 w' its → K e 130 true w') : c16 (.iface 86 (.pointer (some ⟨fb, 0, none⟩))) w K := by
 refine c16_of ?_
 unfold f16
 refine ⟨false, fun _ _ => by kernel_rfl, ?_⟩
 refine RunRoL_pb (x := some ⟨fb, 0, none⟩) (ok := true) (fun _ => by kernel_rfl) ?_
 rw [if_neg (by simp)]
 refine h.dr fun w1 h => ?_
 rw [NN_some]
 refine h.ld0 (k := .i .i64) (x := e) i (by rw [hi]; rfl) rfl ?_
 rw [NN_some]
 refine h.ld (n := 1) (k := .i .i64) (x := 130) i (by rw [hi]; rfl) rfl ?_
 rw [NN_some]
 refine h.ld (n := 1) (k := .i .i64) (x := 130) i (by rw [hi]; rfl) rfl ?_
 exact hK w1 h
def effM (op a : Int) (fs : List RV) : Int × Int :=
 if isOpM op = true then
  (if (row op).tk = -1 then (if 0 ≤ a ∧ a < fs.length then (match fs[a.toNat]? with | some x => (if 0 > x.pa then 0 else x.pa) | none => 0) else 0)
   else if (row op).tk = -2 then (if 0 ≤ a then Int.tmod a 8 else 0) else (row op).tk, (row op).pt)
 else (0, 0)
theorem tk_range (op : Int) : -2 ≤ (row op).tk := by
 cases hi : isOpM op with
 | false => rw [row_no hi]; decide
 | true =>
  obtain ⟨n, rfl, hn⟩ := op_of hi
  have key : ∀ k : Fin 40, -2 ≤ (tab.getD k.val noRw).tk := by decide
  unfold row
  rw [if_pos hi]
  exact key ⟨n + 1, by omega⟩
theorem Effect_spec (h : Hp S w0 w its) (j : Nat) {u : Thing} {op a : Int} {s : Sl} {fs : List RV} (hj : (its[j]?).map Thing.holds = some u.holds) (hu : Hp.Reads u s 4 rtv fs) {K : Int → Int → World → Prop} (hK : ∀ w', Hp S w0 w' its → K (effM op a fs).1 (effM op a fs).2 w') : c9 op a s w K := by
 refine c9_of ?_
 unfold f9
 have hjl : j < its.length := by
  rcases Nat.lt_or_ge j its.length with h1 | h1
  ·exact h1
  ·rw [List.getElem?_eq_none h1] at hj; cases hj
 refine h.nw fun i w1 h => ?_
 refine h.ld0 (k := .i .i64) (x := op) its.length (by rw [List.getElem?_concat_length]; rfl) rfl ?_
 refine isOp_spec ?_
 unfold effM at hK
 cases hi : isOpM op with
 | false =>
  rw [hi] at hK
  exact ifT rfl (hK w1 h.front)
 | true =>
  rw [if_pos hi] at hK
  refine ifF (by decide) ?_
  refine h.ld0 (k := .i .i64) (x := op) its.length (by rw [List.getElem?_concat_length]; rfl) rfl ?_
  refine shape_spec h fun w1 h => ?_
  have hlen := h.lenU (i := j) (by rw [List.getElem?_append_left hjl]; exact hj) hu
  refine h.nw fun s1 w1 h => ?_
  refine h.st0 _ List.getElem?_concat_length (by simp) rfl fun w1 h => ?_
  rw [set_last] at h
  refine h.st (n := 1) _ List.getElem?_concat_length (by simp) rfl fun w1 h => ?_
  rw [set_last] at h
  refine h.st (n := 2) _ List.getElem?_concat_length (by simp) rfl fun w1 h => ?_
  rw [set_last] at h
  refine h.st (n := 3) _ List.getElem?_concat_length (by simp) rfl fun w1 h => ?_
  rw [set_last] at h
  refine h.st (n := 4) _ List.getElem?_concat_length (by simp) rfl fun w1 h => ?_
  rw [set_last] at h
  have h : Hp S w0 w1 (its ++ [tBlk i 23 [.int .i64 op, .int .i64 a]] ++ [tBlk s1 74 [.string (row op).word, .bool (row op).num, .int .i64 (takesOf (row op)), .int .i64 (row op).pt, .int .i64 (byOf (row op))]]) := h
  have hI : ∀ {t : Thing}, ((its ++ [tBlk i 23 [.int .i64 op, .int .i64 a]] ++ [t])[its.length]?).map Thing.holds = some (tBlk i 23 [.int .i64 op, .int .i64 a]).holds := fun {t} => by rw [mid1]; rfl
  have hLs : ∀ {A : List Thing} {b : Nat} {e : TypeId} {c : List Value}, ((A ++ [tBlk b e c])[A.length]?).map Thing.holds = some (tBlk b e c).holds := fun {A b e c} => by rw [List.getElem?_concat_length]; rfl
  have htk := tk_range op
  refine ⟨fun w' => Hp S w0 w' (its ++ [tBlk i 23 [.int .i64 op, .int .i64 a]] ++ [tBlk s1 74 [.string (row op).word, .bool (row op).num, .int .i64 (if (row op).tk = -1 then (if 0 ≤ a ∧ a < fs.length then (match fs[a.toNat]? with | some x => (if 0 > x.pa then 0 else x.pa) | none => 0) else 0) else if (row op).tk = -2 then (if 0 ≤ a then Int.tmod a 8 else 0) else (row op).tk), .int .i64 (row op).pt, .int .i64 (byOf (row op))]]), ?_, ?_⟩
  ·refine ⟨fun t w' => w' = w1 ∧ t = decide ((row op).tk = -1 ∧ 0 ≤ a ∧ a < fs.length), ?_, ?_⟩
   ·refine h.ld (n := 4) (k := .i .i64) (x := byOf (row op)) _ hLs rfl ?_
    by_cases h1 : (row op).tk = -1
    ·refine ifT (by simp [byOf, h1]) ?_
     refine h.ld (n := 1) (k := .i .i64) (x := a) _ hI rfl ?_
     by_cases h2 : 0 ≤ a
     ·refine ifT (by simpa using h2) ?_
      refine h.ld (n := 1) (k := .i .i64) (x := a) _ hI rfl ?_
      exact ⟨rfl, by simp [h1, h2, hlen]⟩
     ·exact ifF (by simpa using h2) ⟨rfl, by simp [h2]⟩
    ·refine ifF ?_ ⟨rfl, by simp [h1]⟩
     unfold byOf
     rw [if_neg h1]
     split <;> simp
   rintro t w2 ⟨hw, rfl⟩
   obtain rfl := hw.symm
   by_cases h1 : (row op).tk = -1 ∧ 0 ≤ a ∧ a < fs.length
   ·refine ifT (by simpa using h1) ?_
    obtain ⟨g1, g2, g3⟩ := h1
    obtain ⟨x, hx⟩ : ∃ x, fs[a.toNat]? = some x := ⟨fs[a.toNat]'(by omega), List.getElem?_eq_getElem (by omega)⟩
    refine h.ld (n := 1) (k := .i .i64) (x := a) _ hI rfl ?_
    obtain ⟨O, hO⟩ := h.see' (i := j) (t := u) (by rw [List.getElem?_append_left (by rw [List.length_append]; omega), List.getElem?_append_left hjl]; exact hj)
    obtain ⟨o, hR⟩ := hu.rd hO
    refine SlR.ix rtv_len hR g2 (x := x) hx fun ad hc => ?_
    refine ldR (k := .i .i64) (x := x.pa) (hc 1 (by omega)) rfl ?_
    refine h.st (n := 2) _ List.getElem?_concat_length (by simp) rfl fun w2 h => ?_
    rw [set_last] at h
    rw [if_pos g1, if_pos ⟨g2, g3⟩, hx]
    exact h
   ·refine ifF (by simpa using h1) ?_
    refine ⟨fun t w' => w' = w1 ∧ t = decide ((row op).tk = -2 ∧ 0 ≤ a), ?_, ?_⟩
    ·refine h.ld (n := 4) (k := .i .i64) (x := byOf (row op)) _ hLs rfl ?_
     by_cases h2 : (row op).tk = -2
     ·refine ifT (by simp [byOf, h2]) ?_
      refine h.ld (n := 1) (k := .i .i64) (x := a) _ hI rfl ?_
      exact ⟨rfl, by simp [h2]⟩
     ·refine ifF ?_ ⟨rfl, by simp [h2]⟩
      unfold byOf
      split
      ·simp
      ·simp [h2]
    rintro t w2 ⟨hw, rfl⟩
    obtain rfl := hw.symm
    by_cases h2 : (row op).tk = -2 ∧ 0 ≤ a
    ·refine ifT (by simpa using h2) ?_
     refine h.ld (n := 1) (k := .i .i64) (x := a) _ hI rfl ?_
     refine ⟨by decide, ?_⟩
     refine h.st (n := 2) _ List.getElem?_concat_length (by simp) rfl fun w2 h => ?_
     rw [set_last] at h
     rw [if_neg (by omega), if_pos h2.1, if_pos h2.2]
     exact h
    ·refine ifF (by simpa using h2) ?_
     have e : (if (row op).tk = -1 then (if 0 ≤ a ∧ a < fs.length then (match fs[a.toNat]? with | some x => (if 0 > x.pa then 0 else x.pa) | none => 0) else 0) else if (row op).tk = -2 then (if 0 ≤ a then Int.tmod a 8 else 0) else (row op).tk) = takesOf (row op) := by
      unfold takesOf
      by_cases k1 : (row op).tk = -1
      ·rw [if_pos k1, if_neg (fun k => h1 ⟨k1, k⟩), if_pos (by omega)]
      ·rw [if_neg k1]
       by_cases k2 : (row op).tk = -2
       ·rw [if_pos k2, if_neg (fun k => h2 ⟨k2, k⟩), if_pos (by omega)]
       ·rw [if_neg k2, if_neg (by omega)]
     rw [e]
     exact h
  ·intro w2 h
   refine h.dr fun w3 h => ?_
   refine h.ld (n := 2) (k := .i .i64) _ hLs rfl ?_
   refine h.ld (n := 3) (k := .i .i64) _ hLs rfl ?_
   exact hK w3 h.front.front
end
end Go.Proofs.YtmfgofbcnlkolaaGreatDoor.F
end

section
namespace Go.Proofs
open Go.Shelf
def Tryz.lays169_ren : Go.Shelf.Ren := ⟨fun | 169 => 56 | n => n, fun | 70 => 110 | 9 => 9 | 0 => 0 | 72 => 112 | 37 => 34 | 127 => 138 | 3 => 3 | 5 => 5 | n => n, fun | n => n⟩
theorem Tryz.lays169 : Go.Proofs.Lays.n169 Tryz.prog Tryz.lays169_ren := {
 mixed := by kernel_rfl
 f169 := Tryz.func56.trans (congrArg some (by kernel_rfl))
 t0 := Tryz.underlying0
 a0 := Tryz.isAgg0
 z0 := Tryz.sizeOf0
 v0 := Tryz.zeroValue0
 t3 := Tryz.underlying3
 a3 := Tryz.isAgg3
 z3 := Tryz.sizeOf3
 v3 := Tryz.zeroValue3
 t9 := Tryz.underlying9
 a9 := Tryz.isAgg9
 z9 := Tryz.sizeOf9
 v9 := Tryz.zeroValue9
 t37 := Tryz.underlying34
 a37 := Tryz.isAgg34
 z37 := Tryz.sizeOf34
 v37 := Tryz.zeroValue34
 t70 := Tryz.underlying110
 a70 := Tryz.isAgg110
 z70 := Tryz.sizeOf110
 v70 := Tryz.zeroValue110
 t72 := Tryz.underlying112
 a72 := Tryz.isAgg112
 z72 := Tryz.sizeOf112
 v72 := Tryz.zeroValue112
 t127 := Tryz.underlying138
 a127 := Tryz.isAgg138
 z127 := Tryz.sizeOf138
 v127 := Tryz.zeroValue138 }
theorem Tryz.Builder_Extra_169 : Builder.Extra Tryz.prog Tryz.lays169_ren := {
 sizeBuilder := by kernel_rfl
 liesBuilder := by kernel_rfl
 t5 := Tryz.underlying5
 a5 := Tryz.isAgg5
 z5 := Tryz.sizeOf5
 v5 := Tryz.zeroValue5
 infoByte := by kernel_rfl
 cellsByte := by kernel_rfl
 sizeByte := by kernel_rfl
 neB5 := by decide }
open Go.RowKit in
theorem Tryz.Builder_String_any (B b : Nat) (l : List UInt8) (w : World) (h : Lib.IsBuilder 112 5 B b (Lib.byteCells l) w) (hBw : B ≤ w.heap.size) :
  Calls Tryz.prog 56 #[.pointer (some ⟨b, 0, none⟩)] w fun e w' => e = .returned (.string ⟨l.toArray⟩) ∧ Below B w w' := Any.Builder_String_any Tryz.lays169 Tryz.Builder_Extra_169 B b l w h hBw
def Tryz.laysM246_ren : Go.Shelf.Ren := ⟨fun | 246 => 103 | 283 => 108 | 284 => 109 | 285 => 110 | 286 => 111 | 129 => 122 | 317 => 121 | 318 => 123 | 319 => 124 | 320 => 125 | 337 => 136 | 338 => 137 | n => n, fun | 2 => 2 | 3 => 3 | 9 => 9 | 4 => 4 | 171 => 155 | 0 => 0 | 53 => 105 | 37 => 34 | 5 => 5 | 173 => 158 | 212 => 165 | 51 => 166 | 20 => 20 | 213 => 167 | 46 => 154 | 232 => 185 | 233 => 186 | n => n, fun | 17 => 1 | 18 => 4 | 19 => 5 | n => n⟩
theorem Tryz.laysM246 : Go.Proofs.LaysM.n246 Tryz.prog Tryz.laysM246_ren := {
 mixed := by kernel_rfl
 f129 := Tryz.func122.trans (congrArg some (by kernel_rfl))
 f246 := Tryz.func103.trans (congrArg some (by kernel_rfl))
 f283 := Tryz.func108.trans (congrArg some (by kernel_rfl))
 f284 := Tryz.func109.trans (congrArg some (by kernel_rfl))
 f285 := Tryz.func110.trans (congrArg some (by kernel_rfl))
 f286 := Tryz.func111.trans (congrArg some (by kernel_rfl))
 f317 := Tryz.func121.trans (congrArg some (by kernel_rfl))
 f318 := Tryz.func123.trans (congrArg some (by kernel_rfl))
 f319 := Tryz.func124.trans (congrArg some (by kernel_rfl))
 f320 := Tryz.func125.trans (congrArg some (by kernel_rfl))
 f337 := Tryz.func136.trans (congrArg some (by kernel_rfl))
 f338 := Tryz.func137.trans (congrArg some (by kernel_rfl))
 t0 := Tryz.underlying0
 a0 := Tryz.isAgg0
 z0 := Tryz.sizeOf0
 v0 := Tryz.zeroValue0
 t2 := Tryz.underlying2
 a2 := Tryz.isAgg2
 z2 := Tryz.sizeOf2
 v2 := Tryz.zeroValue2
 t3 := Tryz.underlying3
 a3 := Tryz.isAgg3
 z3 := Tryz.sizeOf3
 v3 := Tryz.zeroValue3
 t4 := Tryz.underlying4
 a4 := Tryz.isAgg4
 z4 := Tryz.sizeOf4
 v4 := Tryz.zeroValue4
 t5 := Tryz.underlying5
 a5 := Tryz.isAgg5
 z5 := Tryz.sizeOf5
 v5 := Tryz.zeroValue5
 t9 := Tryz.underlying9
 a9 := Tryz.isAgg9
 z9 := Tryz.sizeOf9
 v9 := Tryz.zeroValue9
 t20 := Tryz.underlying20
 a20 := Tryz.isAgg20
 z20 := Tryz.sizeOf20
 v20 := Tryz.zeroValue20
 t37 := Tryz.underlying34
 a37 := Tryz.isAgg34
 z37 := Tryz.sizeOf34
 v37 := Tryz.zeroValue34
 t46 := Tryz.underlying154
 a46 := Tryz.isAgg154
 z46 := Tryz.sizeOf154
 v46 := Tryz.zeroValue154
 t51 := Tryz.underlying166
 a51 := Tryz.isAgg166
 z51 := Tryz.sizeOf166
 v51 := Tryz.zeroValue166
 t53 := Tryz.underlying105
 a53 := Tryz.isAgg105
 z53 := Tryz.sizeOf105
 v53 := Tryz.zeroValue105
 t171 := Tryz.underlying155
 a171 := Tryz.isAgg155
 z171 := Tryz.sizeOf155
 v171 := Tryz.zeroValue155
 t173 := Tryz.underlying158
 a173 := Tryz.isAgg158
 z173 := Tryz.sizeOf158
 v173 := Tryz.zeroValue158
 t212 := Tryz.underlying165
 a212 := Tryz.isAgg165
 z212 := Tryz.sizeOf165
 v212 := Tryz.zeroValue165
 t213 := Tryz.underlying167
 a213 := Tryz.isAgg167
 z213 := Tryz.sizeOf167
 t232 := Tryz.underlying185
 a232 := Tryz.isAgg185
 z232 := Tryz.sizeOf185
 v232 := Tryz.zeroValue185
 t233 := Tryz.underlying186
 a233 := Tryz.isAgg186
 z233 := Tryz.sizeOf186
 v233 := Tryz.zeroValue186
 g17 := by kernel_rfl
 g18 := by kernel_rfl
 g19 := by kernel_rfl
 i0 := by kernel_rfl
 i2 := by kernel_rfl
 i3 := by kernel_rfl
 i4 := by kernel_rfl
 i5 := by kernel_rfl
 i9 := by kernel_rfl
 i20 := by kernel_rfl
 i37 := by kernel_rfl
 i46 := by kernel_rfl
 i51 := by kernel_rfl
 i53 := by kernel_rfl
 i171 := by kernel_rfl
 i173 := by kernel_rfl
 i212 := by kernel_rfl
 i232 := by kernel_rfl
 i233 := by kernel_rfl
 m17 := by kernel_rfl
 m18 := by kernel_rfl
 m19 := by kernel_rfl }
open Go.RowKit Go.Sort Go.Lib in
theorem Tryz.internal_strconv_FormatInt_10 (n : Int) (h0 : -9223372036854775808 ≤ n) (h1 : n ≤ 9223372036854775807) (w : World) (htab : Lib.TabIs Tryz.prog w "internal/strconv.uint64pow10" .u64 Lib.pow10Tab) :
  Calls Tryz.prog 103 #[.int .i64 n, .int .i64 10] w fun e w' => e = .returned (.string ⟨(Lib.itoa n).toArray⟩) ∧ ∃ k os, w' = grow (w.drewN k) os := Any.internal_strconv_FormatInt_10 Tryz.laysM246 n h0 h1 w htab
def Tryz.laysM243_ren : Go.Shelf.Ren := ⟨fun | 243 => 86 | 246 => 103 | 283 => 108 | 284 => 109 | 285 => 110 | 286 => 111 | 129 => 122 | 317 => 121 | 318 => 123 | 319 => 124 | 320 => 125 | 337 => 136 | 338 => 137 | n => n, fun | 3 => 3 | 9 => 9 | 2 => 2 | 4 => 4 | 171 => 155 | 0 => 0 | 53 => 105 | 37 => 34 | 5 => 5 | 173 => 158 | 212 => 165 | 51 => 166 | 20 => 20 | 213 => 167 | 46 => 154 | 232 => 185 | 233 => 186 | n => n, fun | 17 => 1 | 18 => 4 | 19 => 5 | n => n⟩
theorem Tryz.laysM243 : Go.Proofs.LaysM.n243 Tryz.prog Tryz.laysM243_ren := {
 mixed := by kernel_rfl
 f129 := Tryz.func122.trans (congrArg some (by kernel_rfl))
 f243 := Tryz.func86.trans (congrArg some (by kernel_rfl))
 f246 := Tryz.func103.trans (congrArg some (by kernel_rfl))
 f283 := Tryz.func108.trans (congrArg some (by kernel_rfl))
 f284 := Tryz.func109.trans (congrArg some (by kernel_rfl))
 f285 := Tryz.func110.trans (congrArg some (by kernel_rfl))
 f286 := Tryz.func111.trans (congrArg some (by kernel_rfl))
 f317 := Tryz.func121.trans (congrArg some (by kernel_rfl))
 f318 := Tryz.func123.trans (congrArg some (by kernel_rfl))
 f319 := Tryz.func124.trans (congrArg some (by kernel_rfl))
 f320 := Tryz.func125.trans (congrArg some (by kernel_rfl))
 f337 := Tryz.func136.trans (congrArg some (by kernel_rfl))
 f338 := Tryz.func137.trans (congrArg some (by kernel_rfl))
 t0 := Tryz.underlying0
 a0 := Tryz.isAgg0
 z0 := Tryz.sizeOf0
 v0 := Tryz.zeroValue0
 t2 := Tryz.underlying2
 a2 := Tryz.isAgg2
 z2 := Tryz.sizeOf2
 v2 := Tryz.zeroValue2
 t3 := Tryz.underlying3
 a3 := Tryz.isAgg3
 z3 := Tryz.sizeOf3
 v3 := Tryz.zeroValue3
 t4 := Tryz.underlying4
 a4 := Tryz.isAgg4
 z4 := Tryz.sizeOf4
 v4 := Tryz.zeroValue4
 t5 := Tryz.underlying5
 a5 := Tryz.isAgg5
 z5 := Tryz.sizeOf5
 v5 := Tryz.zeroValue5
 t9 := Tryz.underlying9
 a9 := Tryz.isAgg9
 z9 := Tryz.sizeOf9
 v9 := Tryz.zeroValue9
 t20 := Tryz.underlying20
 a20 := Tryz.isAgg20
 z20 := Tryz.sizeOf20
 v20 := Tryz.zeroValue20
 t37 := Tryz.underlying34
 a37 := Tryz.isAgg34
 z37 := Tryz.sizeOf34
 v37 := Tryz.zeroValue34
 t46 := Tryz.underlying154
 a46 := Tryz.isAgg154
 z46 := Tryz.sizeOf154
 v46 := Tryz.zeroValue154
 t51 := Tryz.underlying166
 a51 := Tryz.isAgg166
 z51 := Tryz.sizeOf166
 v51 := Tryz.zeroValue166
 t53 := Tryz.underlying105
 a53 := Tryz.isAgg105
 z53 := Tryz.sizeOf105
 v53 := Tryz.zeroValue105
 t171 := Tryz.underlying155
 a171 := Tryz.isAgg155
 z171 := Tryz.sizeOf155
 v171 := Tryz.zeroValue155
 t173 := Tryz.underlying158
 a173 := Tryz.isAgg158
 z173 := Tryz.sizeOf158
 v173 := Tryz.zeroValue158
 t212 := Tryz.underlying165
 a212 := Tryz.isAgg165
 z212 := Tryz.sizeOf165
 v212 := Tryz.zeroValue165
 t213 := Tryz.underlying167
 a213 := Tryz.isAgg167
 z213 := Tryz.sizeOf167
 t232 := Tryz.underlying185
 a232 := Tryz.isAgg185
 z232 := Tryz.sizeOf185
 v232 := Tryz.zeroValue185
 t233 := Tryz.underlying186
 a233 := Tryz.isAgg186
 z233 := Tryz.sizeOf186
 v233 := Tryz.zeroValue186
 g17 := by kernel_rfl
 g18 := by kernel_rfl
 g19 := by kernel_rfl
 i0 := by kernel_rfl
 i2 := by kernel_rfl
 i3 := by kernel_rfl
 i4 := by kernel_rfl
 i5 := by kernel_rfl
 i9 := by kernel_rfl
 i20 := by kernel_rfl
 i37 := by kernel_rfl
 i46 := by kernel_rfl
 i51 := by kernel_rfl
 i53 := by kernel_rfl
 i171 := by kernel_rfl
 i173 := by kernel_rfl
 i212 := by kernel_rfl
 i232 := by kernel_rfl
 i233 := by kernel_rfl
 m17 := by kernel_rfl
 m18 := by kernel_rfl
 m19 := by kernel_rfl }
open Go.RowKit Go.Sort Go.Lib in
theorem Tryz.internal_strconv_Itoa (n : Int) (h0 : -9223372036854775808 ≤ n) (h1 : n ≤ 9223372036854775807) (w : World) (htab : Lib.TabIs Tryz.prog w "internal/strconv.uint64pow10" .u64 Lib.pow10Tab) :
  Calls Tryz.prog 86 #[.int .i64 n] w fun e w' => e = .returned (.string ⟨(Lib.itoa n).toArray⟩) ∧ ∃ k os, w' = grow (w.drewN k) os := Any.internal_strconv_Itoa Tryz.laysM243 n h0 h1 w htab
def Tryz.laysC245_ren : Go.Shelf.Ren := ⟨fun | 245 => 120 | 279 => 132 | 280 => 133 | 281 => 134 | 282 => 135 | 316 => 141 | 171 => 54 | 205 => 142 | 243 => 86 | 246 => 103 | 283 => 108 | 284 => 109 | 285 => 110 | 286 => 111 | 129 => 122 | 317 => 121 | 318 => 123 | 319 => 124 | 320 => 125 | 337 => 136 | 338 => 137 | n => n, fun | 9 => 9 | 3 => 3 | 75 => 39 | 167 => 173 | 4 => 4 | 168 => 176 | 210 => 183 | 37 => 34 | 0 => 0 | 127 => 138 | 145 => 193 | 143 => 191 | 2 => 2 | 171 => 155 | 53 => 105 | 5 => 5 | 173 => 158 | 212 => 165 | 51 => 166 | 20 => 20 | 213 => 167 | 46 => 154 | 232 => 185 | 233 => 186 | 80 => 116 | n => n, fun | 15 => 2 | 16 => 3 | 17 => 1 | 18 => 4 | 19 => 5 | n => n⟩
def Tryz.laysC174_ren : Go.Shelf.Ren := ⟨fun | 174 => 106 | 247 => 119 | 245 => 120 | 287 => 131 | 279 => 132 | 280 => 133 | 281 => 134 | 282 => 135 | 321 => 139 | 322 => 140 | 316 => 141 | 171 => 54 | 205 => 142 | 243 => 86 | 246 => 103 | 283 => 108 | 284 => 109 | 285 => 110 | 286 => 111 | 129 => 122 | 317 => 121 | 318 => 123 | 319 => 124 | 320 => 125 | 337 => 136 | 338 => 137 | n => n, fun | 9 => 9 | 3 => 3 | 2 => 2 | 75 => 39 | 85 => 152 | 4 => 4 | 167 => 173 | 5 => 5 | 53 => 105 | 175 => 174 | 46 => 154 | 168 => 176 | 37 => 34 | 0 => 0 | 210 => 183 | 21 => 21 | 127 => 138 | 145 => 193 | 143 => 191 | 171 => 155 | 173 => 158 | 212 => 165 | 51 => 166 | 20 => 20 | 213 => 167 | 232 => 185 | 233 => 186 | 80 => 116 | n => n, fun | 15 => 2 | 16 => 3 | 17 => 1 | 18 => 4 | 19 => 5 | n => n⟩
theorem Tryz.laysC174 : Go.Proofs.LaysC.n174 Tryz.prog Tryz.laysC174_ren := {
 mixed := by kernel_rfl
 f129 := Tryz.func122.trans (congrArg some (by kernel_rfl))
 f171 := Tryz.func54.trans (congrArg some (by kernel_rfl))
 f174 := Tryz.func106.trans (congrArg some (by kernel_rfl))
 f205 := Tryz.func142.trans (congrArg some (by kernel_rfl))
 f243 := Tryz.func86.trans (congrArg some (by kernel_rfl))
 f245 := Tryz.func120.trans (congrArg some (by kernel_rfl))
 f246 := Tryz.func103.trans (congrArg some (by kernel_rfl))
 f247 := Tryz.func119.trans (congrArg some (by kernel_rfl))
 f279 := Tryz.func132.trans (congrArg some (by kernel_rfl))
 f280 := Tryz.func133.trans (congrArg some (by kernel_rfl))
 f281 := Tryz.func134.trans (congrArg some (by kernel_rfl))
 f282 := Tryz.func135.trans (congrArg some (by kernel_rfl))
 f283 := Tryz.func108.trans (congrArg some (by kernel_rfl))
 f284 := Tryz.func109.trans (congrArg some (by kernel_rfl))
 f285 := Tryz.func110.trans (congrArg some (by kernel_rfl))
 f286 := Tryz.func111.trans (congrArg some (by kernel_rfl))
 f287 := Tryz.func131.trans (congrArg some (by kernel_rfl))
 f316 := Tryz.func141.trans (congrArg some (by kernel_rfl))
 f317 := Tryz.func121.trans (congrArg some (by kernel_rfl))
 f318 := Tryz.func123.trans (congrArg some (by kernel_rfl))
 f319 := Tryz.func124.trans (congrArg some (by kernel_rfl))
 f320 := Tryz.func125.trans (congrArg some (by kernel_rfl))
 f321 := Tryz.func139.trans (congrArg some (by kernel_rfl))
 f322 := Tryz.func140.trans (congrArg some (by kernel_rfl))
 f337 := Tryz.func136.trans (congrArg some (by kernel_rfl))
 f338 := Tryz.func137.trans (congrArg some (by kernel_rfl))
 t0 := Tryz.underlying0
 a0 := Tryz.isAgg0
 z0 := Tryz.sizeOf0
 v0 := Tryz.zeroValue0
 t2 := Tryz.underlying2
 a2 := Tryz.isAgg2
 z2 := Tryz.sizeOf2
 v2 := Tryz.zeroValue2
 t3 := Tryz.underlying3
 a3 := Tryz.isAgg3
 z3 := Tryz.sizeOf3
 v3 := Tryz.zeroValue3
 t4 := Tryz.underlying4
 a4 := Tryz.isAgg4
 z4 := Tryz.sizeOf4
 v4 := Tryz.zeroValue4
 t5 := Tryz.underlying5
 a5 := Tryz.isAgg5
 z5 := Tryz.sizeOf5
 v5 := Tryz.zeroValue5
 t9 := Tryz.underlying9
 a9 := Tryz.isAgg9
 z9 := Tryz.sizeOf9
 v9 := Tryz.zeroValue9
 t20 := Tryz.underlying20
 a20 := Tryz.isAgg20
 z20 := Tryz.sizeOf20
 v20 := Tryz.zeroValue20
 t21 := Tryz.underlying21
 a21 := Tryz.isAgg21
 z21 := Tryz.sizeOf21
 v21 := Tryz.zeroValue21
 t37 := Tryz.underlying34
 a37 := Tryz.isAgg34
 z37 := Tryz.sizeOf34
 v37 := Tryz.zeroValue34
 t46 := Tryz.underlying154
 a46 := Tryz.isAgg154
 z46 := Tryz.sizeOf154
 v46 := Tryz.zeroValue154
 t51 := Tryz.underlying166
 a51 := Tryz.isAgg166
 z51 := Tryz.sizeOf166
 v51 := Tryz.zeroValue166
 t53 := Tryz.underlying105
 a53 := Tryz.isAgg105
 z53 := Tryz.sizeOf105
 v53 := Tryz.zeroValue105
 t75 := Tryz.underlying39
 a75 := Tryz.isAgg39
 z75 := Tryz.sizeOf39
 v75 := Tryz.zeroValue39
 t85 := Tryz.underlying152
 a85 := Tryz.isAgg152
 z85 := Tryz.sizeOf152
 v85 := Tryz.zeroValue152
 t127 := Tryz.underlying138
 a127 := Tryz.isAgg138
 z127 := Tryz.sizeOf138
 v127 := Tryz.zeroValue138
 t143 := Tryz.underlying191
 a143 := Tryz.isAgg191
 z143 := Tryz.sizeOf191
 v143 := Tryz.zeroValue191
 t145 := Tryz.underlying193
 a145 := Tryz.isAgg193
 z145 := Tryz.sizeOf193
 v145 := Tryz.zeroValue193
 t167 := Tryz.underlying173
 a167 := Tryz.isAgg173
 z167 := Tryz.sizeOf173
 v167 := Tryz.zeroValue173
 t168 := Tryz.underlying176
 a168 := Tryz.isAgg176
 z168 := Tryz.sizeOf176
 v168 := Tryz.zeroValue176
 t171 := Tryz.underlying155
 a171 := Tryz.isAgg155
 z171 := Tryz.sizeOf155
 v171 := Tryz.zeroValue155
 t173 := Tryz.underlying158
 a173 := Tryz.isAgg158
 z173 := Tryz.sizeOf158
 v173 := Tryz.zeroValue158
 t175 := Tryz.underlying174
 a175 := Tryz.isAgg174
 z175 := Tryz.sizeOf174
 v175 := Tryz.zeroValue174
 t210 := Tryz.underlying183
 a210 := Tryz.isAgg183
 z210 := Tryz.sizeOf183
 v210 := Tryz.zeroValue183
 t212 := Tryz.underlying165
 a212 := Tryz.isAgg165
 z212 := Tryz.sizeOf165
 v212 := Tryz.zeroValue165
 t213 := Tryz.underlying167
 a213 := Tryz.isAgg167
 z213 := Tryz.sizeOf167
 t232 := Tryz.underlying185
 a232 := Tryz.isAgg185
 z232 := Tryz.sizeOf185
 v232 := Tryz.zeroValue185
 t233 := Tryz.underlying186
 a233 := Tryz.isAgg186
 z233 := Tryz.sizeOf186
 v233 := Tryz.zeroValue186
 g15 := by kernel_rfl
 g16 := by kernel_rfl
 g17 := by kernel_rfl
 g18 := by kernel_rfl
 g19 := by kernel_rfl
 t80 := Tryz.underlying116
 a80 := Tryz.isAgg116
 z80 := Tryz.sizeOf116
 v80 := Tryz.zeroValue116
 i0 := by kernel_rfl
 i2 := by kernel_rfl
 i3 := by kernel_rfl
 i4 := by kernel_rfl
 i5 := by kernel_rfl
 i9 := by kernel_rfl
 i20 := by kernel_rfl
 i21 := by kernel_rfl
 i37 := by kernel_rfl
 i46 := by kernel_rfl
 i51 := by kernel_rfl
 i53 := by kernel_rfl
 i75 := by kernel_rfl
 i80 := by kernel_rfl
 i85 := by kernel_rfl
 i127 := by kernel_rfl
 i143 := by kernel_rfl
 i145 := by kernel_rfl
 i167 := by kernel_rfl
 i168 := by kernel_rfl
 i171 := by kernel_rfl
 i173 := by kernel_rfl
 i175 := by kernel_rfl
 i210 := by kernel_rfl
 i212 := by kernel_rfl
 i232 := by kernel_rfl
 i233 := by kernel_rfl
 m15 := by kernel_rfl
 m16 := by kernel_rfl
 m17 := by kernel_rfl
 m18 := by kernel_rfl
 m19 := by kernel_rfl
 c0 := by kernel_rfl
 c2 := by kernel_rfl
 c3 := by kernel_rfl
 c4 := by kernel_rfl
 c5 := by kernel_rfl
 c9 := by kernel_rfl
 c20 := by kernel_rfl
 c21 := by kernel_rfl
 c37 := by kernel_rfl
 c46 := by kernel_rfl
 c51 := by kernel_rfl
 c53 := by kernel_rfl
 c75 := by kernel_rfl
 c80 := by kernel_rfl
 c85 := by kernel_rfl
 c127 := by kernel_rfl
 c143 := by kernel_rfl
 c145 := by kernel_rfl
 c167 := by kernel_rfl
 c168 := by kernel_rfl
 c171 := by kernel_rfl
 c173 := by kernel_rfl
 c175 := by kernel_rfl
 c210 := by kernel_rfl
 c212 := by kernel_rfl
 c213 := by kernel_rfl
 c232 := by kernel_rfl
 c233 := by kernel_rfl }
open Go.RowKit in
theorem Tryz.strconv_ParseInt_10_at64_ok (s : ByteArray) (hmax : s.size ≤ 9223372036854775806) (v : Int) (h : Lib.parseIntB 64 s.data.toList = .ok v) (w : World) :
  Calls Tryz.prog 106 #[.string s, .int .i64 10, .int .i64 64] w fun e w' => e = .returned (.tuple #[.int .i64 v, .nilIface]) ∧ (w' = w ∨ ∃ t, w' = Lib.bytesWorld w 5 t) := Any.strconv_ParseInt_10_at64_ok Tryz.laysC174 s hmax v h w
open Go.RowKit in
theorem Tryz.strconv_ParseInt_10_at64_syntax (s : ByteArray) (hlim : s.size ≤ 281474976710656) (h : Lib.parseIntB 64 s.data.toList = Lib.parseIntB 64 []) (ev : Value) (w : World) (hv : w.cell? ⟨2, 0, none⟩ = some ev) (hev : ev = .nilIface ∨ ∃ te pe, ev = .iface te pe) :
  Calls Tryz.prog 106 #[.string s, .int .i64 10, .int .i64 64] w fun e w' => ∃ N, e = .returned (.tuple #[.int .i64 (0), .iface 176 (.pointer (some ⟨N, 0, none⟩))]) ∧ w.heap.size ≤ N ∧ w'.heap[N]? = some (.cells #[.string ⟨#[80, 97, 114, 115, 101, 73, 110, 116]⟩, .string s, ev] 183 (0, 0)) ∧ Below w.heap.size w w' := Any.strconv_ParseInt_10_at64_syntax Tryz.laysC174 s hlim h ev w hv hev
open Go.RowKit in
theorem Tryz.strconv_ParseInt_10_at64_range (s : ByteArray) (hlim : s.size ≤ 281474976710656) (h : Lib.parseIntB 64 s.data.toList = .range) (ev : Value) (w : World) (hv : w.cell? ⟨3, 0, none⟩ = some ev) (hev : ev = .nilIface ∨ ∃ te pe, ev = .iface te pe) :
  Calls Tryz.prog 106 #[.string s, .int .i64 10, .int .i64 64] w fun e w' => ∃ N, e = .returned (.tuple #[.int .i64 (Lib.intSat 64 s.data.toList), .iface 176 (.pointer (some ⟨N, 0, none⟩))]) ∧ w.heap.size ≤ N ∧ w'.heap[N]? = some (.cells #[.string ⟨#[80, 97, 114, 115, 101, 73, 110, 116]⟩, .string s, ev] 183 (0, 0)) ∧ Below w.heap.size w w' := Any.strconv_ParseInt_10_at64_range Tryz.laysC174 s hlim h ev w hv hev
def Tryz.lays219_ren : Go.Shelf.Ren := ⟨fun | 219 => 104 | 217 => 112 | 225 => 113 | 224 => 114 | 267 => 115 | 266 => 126 | 314 => 127 | n => n, fun | 9 => 9 | 3 => 3 | 4 => 4 | 5 => 5 | 46 => 154 | 146 => 169 | 51 => 166 | n => n, fun | 1 => 0 | n => n⟩
def Tryz.lays145_ren : Go.Shelf.Ren := ⟨fun | 145 => 60 | 220 => 88 | 219 => 104 | 217 => 112 | 225 => 113 | 224 => 114 | 267 => 115 | 266 => 126 | 314 => 127 | n => n, fun | 9 => 9 | 4 => 4 | 59 => 119 | 3 => 3 | 5 => 5 | 46 => 154 | 146 => 169 | 51 => 166 | n => n, fun | 1 => 0 | n => n⟩
theorem Tryz.lays145 : Go.Proofs.Lays.n145 Tryz.prog Tryz.lays145_ren := {
 mixed := by kernel_rfl
 f145 := Tryz.func60.trans (congrArg some (by kernel_rfl))
 f217 := Tryz.func112.trans (congrArg some (by kernel_rfl))
 f219 := Tryz.func104.trans (congrArg some (by kernel_rfl))
 f220 := Tryz.func88.trans (congrArg some (by kernel_rfl))
 f224 := Tryz.func114.trans (congrArg some (by kernel_rfl))
 f225 := Tryz.func113.trans (congrArg some (by kernel_rfl))
 f266 := Tryz.func126.trans (congrArg some (by kernel_rfl))
 f267 := Tryz.func115.trans (congrArg some (by kernel_rfl))
 f314 := Tryz.func127.trans (congrArg some (by kernel_rfl))
 t3 := Tryz.underlying3
 a3 := Tryz.isAgg3
 z3 := Tryz.sizeOf3
 v3 := Tryz.zeroValue3
 t4 := Tryz.underlying4
 a4 := Tryz.isAgg4
 z4 := Tryz.sizeOf4
 v4 := Tryz.zeroValue4
 t5 := Tryz.underlying5
 a5 := Tryz.isAgg5
 z5 := Tryz.sizeOf5
 v5 := Tryz.zeroValue5
 t9 := Tryz.underlying9
 a9 := Tryz.isAgg9
 z9 := Tryz.sizeOf9
 v9 := Tryz.zeroValue9
 t46 := Tryz.underlying154
 a46 := Tryz.isAgg154
 z46 := Tryz.sizeOf154
 v46 := Tryz.zeroValue154
 t51 := Tryz.underlying166
 a51 := Tryz.isAgg166
 z51 := Tryz.sizeOf166
 v51 := Tryz.zeroValue166
 t59 := Tryz.underlying119
 a59 := Tryz.isAgg119
 z59 := Tryz.sizeOf119
 v59 := Tryz.zeroValue119
 t146 := Tryz.underlying169
 a146 := Tryz.isAgg169
 z146 := Tryz.sizeOf169
 v146 := Tryz.zeroValue169
 g1 := by kernel_rfl }
open Go.RowKit Go.Lib in
theorem Tryz.strings_Cut (s sep : ByteArray) (m : Int) (w : World) (hs : s.size < 4294967281) (hm : w.cell? ⟨0, 0, none⟩ = some (.int .i64 m)) :
  Calls Tryz.prog 60 #[.string s, .string sep] w fun e w' => e = .returned (.tuple #[.string ⟨(Lib.cut s.data.toList sep.data.toList).1.toArray⟩, .string ⟨(Lib.cut s.data.toList sep.data.toList).2.1.toArray⟩, .bool (Lib.cut s.data.toList sep.data.toList).2.2]) ∧ ∃ n, w' = w.drewN n := Any.strings_Cut Tryz.lays145 s sep m w hs hm
def Tryz.lays221_ren : Go.Shelf.Ren := ⟨fun | 221 => 105 | 268 => 116 | 138 => 117 | 143 => 118 | 195 => 128 | 197 => 129 | 218 => 130 | 219 => 104 | 260 => 138 | 217 => 112 | 225 => 113 | 224 => 114 | 267 => 115 | 266 => 126 | 314 => 127 | n => n, fun | 9 => 9 | 3 => 3 | 31 => 139 | 4 => 4 | 0 => 0 | 105 => 171 | 21 => 21 | 5 => 5 | 46 => 154 | 119 => 187 | 139 => 190 | 138 => 189 | 146 => 169 | 51 => 166 | n => n, fun | 1 => 0 | 3 => 6 | 4 => 7 | n => n⟩
def Tryz.lays146_ren : Go.Shelf.Ren := ⟨fun | 146 => 89 | 221 => 105 | 268 => 116 | 138 => 117 | 143 => 118 | 195 => 128 | 197 => 129 | 218 => 130 | 219 => 104 | 260 => 138 | 217 => 112 | 225 => 113 | 224 => 114 | 267 => 115 | 266 => 126 | 314 => 127 | n => n, fun | 9 => 9 | 31 => 139 | 3 => 3 | 4 => 4 | 0 => 0 | 105 => 171 | 21 => 21 | 5 => 5 | 46 => 154 | 119 => 187 | 139 => 190 | 138 => 189 | 146 => 169 | 51 => 166 | n => n, fun | 1 => 0 | 3 => 6 | 4 => 7 | n => n⟩
theorem Tryz.lays146 : Go.Proofs.Lays.n146 Tryz.prog Tryz.lays146_ren := {
 mixed := by kernel_rfl
 f138 := Tryz.func117.trans (congrArg some (by kernel_rfl))
 f143 := Tryz.func118.trans (congrArg some (by kernel_rfl))
 f146 := Tryz.func89.trans (congrArg some (by kernel_rfl))
 f195 := Tryz.func128.trans (congrArg some (by kernel_rfl))
 f197 := Tryz.func129.trans (congrArg some (by kernel_rfl))
 f217 := Tryz.func112.trans (congrArg some (by kernel_rfl))
 f218 := Tryz.func130.trans (congrArg some (by kernel_rfl))
 f219 := Tryz.func104.trans (congrArg some (by kernel_rfl))
 f221 := Tryz.func105.trans (congrArg some (by kernel_rfl))
 f224 := Tryz.func114.trans (congrArg some (by kernel_rfl))
 f225 := Tryz.func113.trans (congrArg some (by kernel_rfl))
 f260 := Tryz.func138.trans (congrArg some (by kernel_rfl))
 f266 := Tryz.func126.trans (congrArg some (by kernel_rfl))
 f267 := Tryz.func115.trans (congrArg some (by kernel_rfl))
 f268 := Tryz.func116.trans (congrArg some (by kernel_rfl))
 f314 := Tryz.func127.trans (congrArg some (by kernel_rfl))
 t0 := Tryz.underlying0
 a0 := Tryz.isAgg0
 z0 := Tryz.sizeOf0
 v0 := Tryz.zeroValue0
 t3 := Tryz.underlying3
 a3 := Tryz.isAgg3
 z3 := Tryz.sizeOf3
 v3 := Tryz.zeroValue3
 t4 := Tryz.underlying4
 a4 := Tryz.isAgg4
 z4 := Tryz.sizeOf4
 v4 := Tryz.zeroValue4
 t5 := Tryz.underlying5
 a5 := Tryz.isAgg5
 z5 := Tryz.sizeOf5
 v5 := Tryz.zeroValue5
 t9 := Tryz.underlying9
 a9 := Tryz.isAgg9
 z9 := Tryz.sizeOf9
 v9 := Tryz.zeroValue9
 t21 := Tryz.underlying21
 a21 := Tryz.isAgg21
 z21 := Tryz.sizeOf21
 v21 := Tryz.zeroValue21
 t31 := Tryz.underlying139
 a31 := Tryz.isAgg139
 z31 := Tryz.sizeOf139
 v31 := Tryz.zeroValue139
 t46 := Tryz.underlying154
 a46 := Tryz.isAgg154
 z46 := Tryz.sizeOf154
 v46 := Tryz.zeroValue154
 t51 := Tryz.underlying166
 a51 := Tryz.isAgg166
 z51 := Tryz.sizeOf166
 v51 := Tryz.zeroValue166
 t105 := Tryz.underlying171
 a105 := Tryz.isAgg171
 z105 := Tryz.sizeOf171
 v105 := Tryz.zeroValue171
 t119 := Tryz.underlying187
 a119 := Tryz.isAgg187
 z119 := Tryz.sizeOf187
 t138 := Tryz.underlying189
 a138 := Tryz.isAgg189
 z138 := Tryz.sizeOf189
 v138 := Tryz.zeroValue189
 t139 := Tryz.underlying190
 a139 := Tryz.isAgg190
 z139 := Tryz.sizeOf190
 v139 := Tryz.zeroValue190
 t146 := Tryz.underlying169
 a146 := Tryz.isAgg169
 z146 := Tryz.sizeOf169
 v146 := Tryz.zeroValue169
 g1 := by kernel_rfl
 g3 := by kernel_rfl
 g4 := by kernel_rfl }
open Go.RowKit Go.Lib in
theorem Tryz.strings_Split (s sep : ByteArray) (m : Int) (w : World) (hs : s.size < 4294967281) (hm : w.cell? ⟨0, 0, none⟩ = some (.int .i64 m)) (h1 : 1 ≤ sep.size) :
  Calls Tryz.prog 89 #[.string s, .string sep] w fun e w' =>
   e = .returned (.slice (some ⟨w.heap.size, 0, none⟩) (Lib.countB s sep + 1) (Lib.countB s sep + 1)) ∧ w' = w.alloc (.cells ((Lib.splitB sep 0 (Lib.countB s sep) s).map Value.string).toArray 9) := Any.strings_Split Tryz.lays146 (by kernel_rfl) s sep m w hs hm h1
end Go.Proofs
end

section
namespace Go.Proofs.YtmfgofbcnlkolaaGreatDoor.F
open Go Go.Den Go.Proofs
def bv (x : Int) : Value := .int .u8 x
theorem row_fr {S : List Nat} {w w' : World} {B n : Nat} {v : Value} {xs : List Value} (h : w.ownsRow B 5 1 v n xs) (hf : Fr S w w') (hn : ∀ k ∈ v.ownBlock.toList, k ∉ S) : w'.ownsRow B 5 1 v n xs := by
 obtain ⟨h1, h2⟩ := h
 refine ⟨h1, ?_⟩
 rcases h2 with h2 | ⟨g, cap, cur, rfl, a1, a2, a3⟩
 ·exact .inl h2
 ·have hg : g < w.heap.size := (Array.getElem?_eq_some_iff.1 a2).1
  exact .inr ⟨g, cap, cur, rfl, a1, (hf.block g hg (hn g (by simp [Value.ownBlock]))).trans a2, a3⟩
theorem row_lt {w : World} {B n : Nat} {v : Value} {xs : List Value} (h : w.ownsRow B 5 1 v n xs) : ∀ k ∈ v.ownBlock.toList, k < w.heap.size := by
 obtain ⟨h1, h2⟩ := h
 rcases h2 with ⟨rfl, _⟩ | ⟨g, cap, cur, rfl, a1, a2, a3⟩
 ·simp [Value.ownBlock]
 ·intro k hk
  simp [Value.ownBlock] at hk
  subst hk
  exact (Array.getElem?_eq_some_iff.1 a2).1
def tBld (B b : Nat) (l : List Int) : Thing :=
  { holds := fun w O => ∃ (p : Option Addr) (v : Value), (p = none ∨ p = some ⟨b, 0, none⟩) ∧ B ≤ b ∧ w.heap[b]? = some (.cells #[.pointer p, v] 112 (0, 0)) ∧ w.ownsRow B 5 1 v l.length (l.map bv) ∧ v.ownBlock ≠ some b ∧ O = b :: v.ownBlock.toList
    fr := fun {S w w' O} h hf hn => by
      obtain ⟨p, v, h1, h2, h3, h4, h5, rfl⟩ := h
      have hb : b < w.heap.size := (Array.getElem?_eq_some_iff.1 h3).1
      exact ⟨p, v, h1, h2, (hf.block b hb (hn b (by simp))).trans h3, row_fr h4 hf fun k hk => hn k (by simp [hk]), h5, rfl⟩
    lt := fun {w O} h k hk => by
      obtain ⟨p, v, h1, h2, h3, h4, h5, rfl⟩ := h
      rcases List.mem_cons.1 hk with rfl | hk
      · exact (Array.getElem?_eq_some_iff.1 h3).1
      · exact row_lt h4 k hk }
theorem und110 : Tryz.prog.underlying 110 = some (.pointer 112) := by kernel_rfl
theorem und148 : Tryz.prog.underlying 148 = some .unsafePointer := by kernel_rfl
theorem inf112 : ∃ inf : TypeInfo, Tryz.prog.info? 112 = some inf ∧ inf.zero = some (.agg #[.pointer none, .slice none 0 0]) ∧ inf.size = 2 ∧ inf.bytes = 32 := infoP (by kernel_rfl)
theorem und34' : Tryz.prog.underlying 34 = some (.slice 5) := by kernel_rfl
theorem und9' : Tryz.prog.underlying 9 = some .string := by kernel_rfl
theorem bv_strCells (s : ByteArray) : Lib.strCells s = (strL s).map bv := by
 rw [strCells_fm, List.map_eq_flatMap]; rfl
section
variable {S : List Nat} {w0 w : World} {its rest : List Thing}
theorem copyCheck_spec (h : Hp S w0 w its) (i : Nat) {B b : Nat} {l : List Int} (hi : its[i]? = some (tBld B b l)) {K : World → Prop} (hK : ∀ w', Hp S w0 w' its → K w') : c85 (some ⟨b, 0, none⟩) w K := by
 refine c85_of ?_
 unfold f85
 rw [NN_some]
 obtain ⟨O, hO, back⟩ := h.step hi rfl
 obtain ⟨p, v, h1, h2, h3, h4, h5, rfl⟩ := hO
 have hc : w.cell? ⟨b, 0, none⟩ = some (.pointer p) := by simp [World.cell?, h3]
 have hz : w.frozen? ⟨b, 0, none⟩ = false := by simp [World.frozen?, h3]
 have hsh : w.shape? b = some (112, 2) := by simp [World.shape?, h3]
 obtain ⟨inf, i1, i2, i3, i4⟩ := inf112
 refine ⟨p, hc, ?_⟩
 rcases h1 with rfl | rfl
 ·refine ifT rfl ?_
  refine ⟨.pointer (some ⟨b, 0, none⟩), w, Lib.run_to_unsafe w ⟨b, 0, none⟩ und110 und148 i1 (by rw [i3]; decide) hsh (by simp), ?_⟩
  refine ⟨.pointer (some ⟨b, 0, none⟩), w, by kernel_rfl, ?_⟩
  refine ⟨some ⟨b, 0, none⟩, w, Lib.run_from_unsafe w ⟨b, 0, none⟩ und148 und110 i1 hsh (by kernel_rfl), ?_⟩
  dsimp only
  rw [NN_some]
  refine ⟨rfl, by rw [hc]; rfl, hz, ?_⟩
  have e : its.set i (tBld B b l) = its := Hp.set_same' hi
  refine hK _ ?_
  rw [← e]
  refine back (t' := tBld B b l) (O' := b :: v.ownBlock.toList) (Fr.mono (Fr.set 0 _) (by simp)) ?_ (fun k hk => .inl hk) rfl
  refine ⟨some ⟨b, 0, none⟩, v, .inr rfl, h2, ?_, row_fr h4 (Fr.set (w := w) (b := b) 0 (.pointer (some ⟨b, 0, none⟩))) (fun k hk => ?_), h5, rfl⟩
  ·simp [World.setCell, Array.getElem?_modify, h3]
  ·intro e
   simp only [List.mem_singleton] at e
   subst e
   exact h5 (by simpa using hk)
 ·refine ifF (by simp) ?_
  rw [NN_some]
  refine ⟨some ⟨b, 0, none⟩, hc, ?_⟩
  refine ⟨false, fun w' _ => ?_, ifF (by decide) (hK w h)⟩
  have := Lib.run_neq_ptr_same w' ⟨b, 0, none⟩ und110 i1
  unfold binSem
  simp [run_eqGuard_plain (P := Tryz.prog) (w := w') (op := .neq) (t := 110) (x := .tmp 17) (y := .tmp 18) (a := .pointer (some ⟨b, 0, none⟩)) (b := .pointer (some ⟨b, 0, none⟩)) rfl (by simp), this, Kd.inj]
theorem WriteString_spec (h : Hp S w0 w its) (i : Nat) {B b : Nat} {l : List Int} (hi : its[i]? = some (tBld B b l)) (s : ByteArray) (hl : l.length + s.size ≤ 140737488355328) {K : Int → Value → World → Prop} (hK : ∀ w', Hp S w0 w' (its.set i (tBld B b (l ++ strL s))) → K (s.size : Int) .nilIface w') : c53 (some ⟨b, 0, none⟩) s w K := by
 refine c53_of ?_
 unfold f53
 refine copyCheck_spec h i hi fun w h => ?_
 rw [NN_some]
 obtain ⟨O, hO, back⟩ := h.step hi rfl
 obtain ⟨p, v, h1, h2, h3, h4, h5, rfl⟩ := hO
 have hb : b < w.heap.size := (Array.getElem?_eq_some_iff.1 h3).1
 obtain ⟨inf, i1, i2, i3, i4⟩ := inf5
 have hv : ∃ buf : Sl, v = .slice buf.a buf.len buf.cap := by
  rcases h4.2 with ⟨rfl, _⟩ | ⟨g, cap, cur, rfl, _⟩
  ·exact ⟨⟨none, 0, 0⟩, rfl⟩
  ·exact ⟨⟨_, _, _⟩, rfl⟩
 obtain ⟨buf, rfl⟩ := hv
 refine ⟨buf, ?_, ?_⟩
 ·show w.cell? ⟨b, 1, none⟩ = _
  simp [World.cell?, h3, Kd.inj]
 obtain ⟨v', w2, hr, g1, g2, g3⟩ := Lib.run_append_own_string (P := Tryz.prog) w B 34 9 34 5 inf und34' und9' i1 i2 i3 i4 _ _ _ h4 s (by unfold maxLen; omega) hl (by omega)
 have hS : SlF w buf 5 1 u8v l (Value.slice buf.a buf.len buf.cap).ownBlock.toList := by
  obtain ⟨k1, k2⟩ := h4
  rcases k2 with ⟨k2, k3⟩ | ⟨g, cap, cur, k2, a1, a2, a3, a4, a5, a6⟩
  ·simp only [Value.slice.injEq] at k2
   obtain ⟨k2, k4, k5⟩ := k2
   refine ⟨by omega, .inl ⟨k2, k4, k5, by rw [k2]; rfl⟩⟩
  ·simp only [Value.slice.injEq] at k2
   obtain ⟨k2, k4, k5⟩ := k2
   refine ⟨k4.symm, .inr ⟨g, 0, cur.toList, k2, by rw [k2]; rfl, ?_, by omega, ?_, ?_⟩⟩
   ·show w.heap[g]? = some (.cells cur.toList.toArray 5 (0, 0))
    simpa using a2
   ·rw [Array.length_toList]; omega
   ·rw [List.drop_zero, k4, a6, List.map_eq_flatMap]; rfl
 obtain ⟨s2, w2', hr2, o', q1, q2, q3⟩ : Run .sl Tryz.prog (Builtin.append_ #[34, 9] 34 #[.slice buf.a buf.len buf.cap, .string s]) w (fun s' w' => ∃ o', SlF w' s' 5 1 u8v (l ++ strL s) o' ∧ (o' = (Value.slice buf.a buf.len buf.cap).ownBlock.toList ∨ ∃ k, w.heap.size ≤ k ∧ k < w'.heap.size ∧ o' = [k]) ∧ Fr (Value.slice buf.a buf.len buf.cap).ownBlock.toList w w') :=
  SlF.appT und34' und9' i1 i3 i2 i4 hS (by have := hS.1; omega) (fun s' w' o' a1 _ a3 a4 => ⟨o', a1, a3, a4⟩)
 rw [hr] at hr2
 simp only [Result.ok.injEq] at hr2
 obtain ⟨hv', rfl⟩ := hr2
 have hv' : v' = .slice s2.a s2.len s2.cap := hv'
 subst hv'
 refine ⟨s2, w2, hr, ?_⟩
 dsimp only
 rw [NN_some]
 have hb2 : w2.heap[b]? = some (.cells #[.pointer p, .slice buf.a buf.len buf.cap] 112 (0, 0)) := (g2.block b hb fun e => h5 e.symm).trans h3
 have hown : w2.ownsRow B 5 1 (.slice s2.a s2.len s2.cap) (((l ++ strL s).map bv).length) ((l ++ strL s).map bv) := by
  rw [bv_strCells, ← List.map_append] at g1
  have : ((l ++ strL s).map bv).length = l.length + s.size := by simp [strL_len]
  rw [this]
  exact g1
 obtain ⟨z1, v3, z2, z3, z4⟩ := Lib.BuilderAt.put h2 hb2 hown (by decide)
 refine ⟨rfl, ?_, ?_, hK _ (back (t' := tBld B b (l ++ strL s)) (O' := b :: (Value.slice s2.a s2.len s2.cap).ownBlock.toList) ?_ ⟨p, .slice s2.a s2.len s2.cap, h1, h2, ?_, ?_, ?_, rfl⟩ ?_ rfl)⟩
 ·show (w2.cell? ⟨b, 1, none⟩).isSome = true
  simp [World.cell?, hb2]
 ·show w2.frozen? ⟨b, 1, none⟩ = false
  simp [World.frozen?, hb2]
 ·have hf1 : Fr (b :: (Value.slice buf.a buf.len buf.cap).ownBlock.toList) w w2 := Fr.mono q3 (by simp +contextual)
  have hf2 : Fr [b] w2 (w2.setCell ⟨b, 1, none⟩ (.slice s2.a s2.len s2.cap)) := Fr.set 1 _
  exact Fr.trans hf1 hf2 (by simp)
 ·show (w2.setCell ⟨b, 1, none⟩ (.slice s2.a s2.len s2.cap)).heap[b]? = _
  simp [World.setCell, Array.getElem?_modify, hb2]
 ·have hw : (w2.setCell ⟨b, 1, none⟩ (.slice s2.a s2.len s2.cap)).ownsRow B 5 1 (.slice s2.a s2.len s2.cap) (((l ++ strL s).map bv).length) ((l ++ strL s).map bv) := by
   refine row_fr hown (Fr.set (b := b) 1 (.slice s2.a s2.len s2.cap)) ?_
   intro k hk e
   simp only [List.mem_singleton] at e
   subst e
   have := Lib.ownBlock_ne hown hb2 (by decide)
   exact this (by simpa using hk)
  rw [List.length_map] at hw
  exact hw
 ·exact Lib.ownBlock_ne hown hb2 (by decide)
 ·intro k hk
  rcases List.mem_cons.1 hk with rfl | hk
  ·exact .inl (by simp)
  ·have ho : (Value.slice s2.a s2.len s2.cap).ownBlock.toList = o' ∨ (Value.slice s2.a s2.len s2.cap).ownBlock.toList = [] := by
    rcases q1.2 with ⟨e1, _, _, e2⟩ | ⟨g, off, c, e1, e2, _⟩
    ·right; rw [e1]; rfl
    ·left; rw [e1, e2]; rfl
   rcases ho with ho | ho
   ·rw [ho] at hk
    rcases q2 with rfl | ⟨k', r1, r2, rfl⟩
    ·exact .inl (by simp [hk])
    ·simp only [List.mem_singleton] at hk
     subst hk
     exact .inr r1
   ·rw [ho] at hk; cases hk
theorem bld_new (h : Hp S w0 w its) {K : Addr → World → Prop} (hK : ∀ b w', Hp S w0 w' (its ++ [tBld w0.heap.size b []]) → K ⟨b, 0, none⟩ w') : Nw (.cells #[.pointer none, .slice none 0 0] 112) w K := by
 refine hK w.heap.size _ (h.grow (t := tBld w0.heap.size w.heap.size []) (O := [w.heap.size]) (Fr.alloc w _) ⟨none, .slice none 0 0, .inl rfl, h.fr.size, ?_, World.ownsRow_nil _ _ _ _, by simp [Value.ownBlock], rfl⟩ (by simp) rfl)
 exact heap_alloc_new w _
theorem frNil (h : Fr [] w0 w) : Hp [] w0 w [] := ⟨h, fun _ => [], by simp, by simp⟩
theorem String_spec (h : Hp [] w0 w its) (i : Nat) {b : Nat} {l : List Int} (hi : its[i]? = some (tBld w0.heap.size b l)) (hb : Bytes l) {K : ByteArray → World → Prop} (hK : ∀ w', Hp [] w0 w' [] → K (strOf l) w') : c56 (some ⟨b, 0, none⟩) w K := by
 obtain ⟨O, hO⟩ := h.see hi
 obtain ⟨p, v, h1, h2, h3, h4, h5, rfl⟩ := hO
 have hl : Lib.byteCells (strOf l).data.toList = l.map bv := by
  have : Lib.strCells (strOf l) = l.map bv := by rw [bv_strCells, strL_of hb]
  exact this
 have hx : Lib.IsBuilder 112 5 w0.heap.size b (Lib.byteCells (strOf l).data.toList) w := by
  rw [hl]
  have h4 : w.ownsRow w0.heap.size 5 1 v (l.map bv).length (l.map bv) := by rw [List.length_map]; exact h4
  rcases h1 with rfl | rfl
  ·exact .inl ⟨h2, v, h3, h4, h5⟩
  ·exact .inr ⟨h2, v, h3, h4, h5⟩
 refine Calls.mono (Tryz.Builder_String_any w0.heap.size b (strOf l).data.toList w hx h.fr.size) fun e w' ⟨he, hw⟩ => ?_
 subst he
 refine ⟨_, rfl, ?_⟩
 have e : (⟨(strOf l).data.toList.toArray⟩ : ByteArray) = strOf l := by simp
 rw [e]
 refine hK w' (frNil ⟨hw.os.trans h.fr.os, hw.tape.trans h.fr.tape, hw.output.trans h.fr.output, Nat.le_trans h.fr.size hw.size, fun k hk hn => ?_⟩)
 exact (hw.block k hk).trans (h.fr.block k hk hn)
end
abbrev TabW (w : World) : Prop := Lib.TabIs Tryz.prog w "internal/strconv.uint64pow10" .u64 Lib.pow10Tab
theorem tab_fr {w w' : World} (h : TabW w) (hf : Fr [] w w') : TabW w' := by
 unfold TabW Lib.TabIs World.var? at *
 cases hg : Tryz.prog.globalNamed "internal/strconv.uint64pow10" with
 | none => simp [hg] at h
 | some g =>
  simp only [hg, Option.bind_some] at h ⊢
  have hlt : g < w.heap.size := by
   rcases Nat.lt_or_ge g w.heap.size with h' | h'
   ·exact h'
   ·rw [Array.getElem?_eq_none h'] at h; simp at h
  rw [hf.block g hlt (by simp)]
  exact h
theorem strL_append' (a b : ByteArray) : strL (a ++ b) = strL a ++ strL b := by
 unfold strL
 rw [ByteArray.data_append, Array.toList_append, List.map_append]
def dec (n : Int) : ByteArray := ⟨(Lib.itoa n).toArray⟩
def decL (n : Int) : List Int := strL (dec n)
theorem dec_size {n : Int} (h0 : -9223372036854775808 ≤ n) (h1 : n ≤ 9223372036854775807) : (dec n).size ≤ 21 := by
 show (Lib.itoa n).toArray.size ≤ 21
 rw [List.size_toArray]
 unfold Lib.itoa
 split
 ·rw [List.length_cons, Lib.decDigits_length]
  have := Lib.nDigits_le20 n.natAbs (by omega)
  omega
 ·rw [Lib.decDigits_length]
  have := Lib.nDigits_le20 n.toNat (by omega)
  omega
def lineL (x : Ins) : List Int := strL (row x.1).word ++ (if (row x.1).num = true then 32 :: decL x.2 else [])
def headL (r : RT) : List Int := strL r.nm ++ 32 :: (decL r.pa ++ 32 :: (decL r.lo ++ [10]))
def listL (r : RT) : List Int := headL r ++ r.code.flatMap fun x => lineL x ++ [10]
def visM (c : Int) : Bool := decide (33 ≤ c) && decide (c ≤ 126)
def listedM (s : ByteArray) : Bool := (strL s).all visM && decide (s.size ≠ 0) && decide (s.size ≤ 16)
def listM (r : RT) : Bool := listedM r.nm && writtenM r 2000
def listS (r : RT) : ByteArray := if listM r = true then strOf (listL r) else ⟨#[]⟩
theorem word_size (op : Int) : (row op).word.size ≤ 5 := by
 cases hi : isOpM op with
 | false => rw [row_no hi]; decide
 | true =>
  obtain ⟨n, rfl, hn⟩ := op_of hi
  have key : ∀ k : Fin 40, (tab.getD k.val noRw).word.size ≤ 5 := by decide
  unfold row
  rw [if_pos hi]
  exact key ⟨n + 1, by omega⟩
theorem lineL_len {x : Ins} (h0 : -9223372036854775808 ≤ x.2) (h1 : x.2 ≤ 9223372036854775807) : (lineL x).length ≤ 27 := by
 have h2 := word_size x.1
 have h3 := dec_size h0 h1
 unfold lineL decL
 rw [List.length_append, strL_len]
 split
 ·rw [List.length_cons, strL_len]; omega
 ·simp; omega
section
variable {w0 w : World} {its rest : List Thing}
theorem frOfBelow {w w' : World} (h : RowKit.Below w.heap.size w w') : Fr [] w w' := ⟨h.os, h.tape, h.output, h.size, fun k hk _ => h.block k hk⟩
theorem Itoa_spec (h : Hp [] w0 w its) (hT : TabW w0) {n : Int} (h0 : -9223372036854775808 ≤ n) (h1 : n ≤ 9223372036854775807) {K : ByteArray → World → Prop} (hK : ∀ w', Hp [] w0 w' its → K (dec n) w') : c54 n w K := by
 refine c54_of ?_
 unfold f54
 refine Calls.mono (Tryz.internal_strconv_Itoa n h0 h1 w (tab_fr hT h.fr)) fun e w' ⟨he, k, os, hw⟩ => ?_
 subst he hw
 exact ⟨_, rfl, hK _ (h.keep (frOfBelow (Lib.below_grow _ w (Nat.le_refl _) k os)))⟩
theorem Format_spec (h : Hp [] w0 w its) (hT : TabW w0) {n : Int} (h0 : -9223372036854775808 ≤ n) (h1 : n ≤ 9223372036854775807) {K : ByteArray → World → Prop} (hK : ∀ w', Hp [] w0 w' its → K (dec n) w') : c87 n 10 w K := by
 refine c87_of ?_
 unfold f87
 refine Calls.mono (Tryz.internal_strconv_FormatInt_10 n h0 h1 w (tab_fr hT h.fr)) fun e w' ⟨he, k, os, hw⟩ => ?_
 subst he hw
 exact ⟨_, rfl, hK _ (h.keep (frOfBelow (Lib.below_grow _ w (Nat.le_refl _) k os)))⟩
theorem strL_at {s : ByteArray} {k : Nat} (h : k < s.size) : ∃ b : UInt8, s[k]? = some b ∧ (strL s)[k]? = some (b.toNat : Int) := by
 refine ⟨s[k], getElem?_pos s k h, ?_⟩
 unfold strL
 rw [List.getElem?_map, Array.getElem?_toList]
 have : s.data[k]? = some s[k] := by
  rw [Array.getElem?_eq_getElem (by exact h)]; rfl
 rw [this]; rfl
theorem listed_spec {nm : ByteArray} (hn : nm.size ≤ 140737488355328) {K : Bool → World → Prop} (hK : K (listedM nm) w) : c51 nm w K := by
 refine c51_of ?_
 unfold f51
 refine ⟨fun t m w' => ∃ k : Nat, t = k ∧ k ≤ nm.size ∧ m = nm.size - k ∧ w' = w ∧ (strL nm).all visM = ((strL nm).drop k).all visM, ⟨_, 0, rfl, by omega, rfl, rfl, rfl⟩, ?_⟩
 rintro t m w' ⟨k, rfl, hk, rfl, hw, ha⟩
 obtain rfl := hw.symm
 have hl := strL_len nm
 by_cases hend : k = nm.size
 ·refine ifF (by simp; omega) ?_
  rw [List.drop_of_length_le (by omega)] at ha
  have e : cond (!(nm.toList == (⟨#[]⟩ : ByteArray).toList)) (decide ((nm.size : Int) ≤ 16)) false = listedM nm := by
   unfold listedM
   rw [ha, str_beq]
   have : (strL nm = strL ⟨#[]⟩) ↔ nm.size = 0 := by
    rw [show strL (⟨#[]⟩ : ByteArray) = [] from rfl, ← hl]; exact ⟨fun h => by rw [h]; rfl, fun h => List.length_eq_zero_iff.1 h⟩
   by_cases h0 : nm.size = 0
   ·simp [this, h0]
   ·simp [this, h0]; omega
  rw [e]; exact hK
 ·obtain ⟨b, hb, hs⟩ := strL_at (s := nm) (k := k) (by omega)
  refine ifT (by simp; omega) ?_
  rw [drop_cons hs, List.all_cons] at ha
  refine ⟨by omega, b, by rw [Int.toNat_natCast]; exact hb, ?_⟩
  have hno : visM (b.toNat : Int) = false → listedM nm = false := fun h => by unfold listedM; rw [ha, h]; rfl
  by_cases h1 : (b.toNat : Int) < 33
  ·refine ifT (by simpa using h1) ?_
   rw [hno (by unfold visM; simp; omega)] at hK; exact hK
  ·refine ifF (by simpa using h1) ⟨by omega, b, by rw [Int.toNat_natCast]; exact hb, ?_⟩
   by_cases h2 : (b.toNat : Int) > 126
   ·refine ifT (by simpa using h2) ?_
    rw [hno (by unfold visM; simp; omega)] at hK; exact hK
   ·refine ifF (by simpa using h2) ⟨nm.size - (k + 1), by omega, k + 1, ?_, by omega, rfl, rfl, ?_⟩
    ·rw [wr64 (by omega) (by omega)]; omega
    ·rw [ha]
     have : visM (b.toNat : Int) = true := by unfold visM; simp; omega
     rw [this]; rfl
theorem line_spec (h : Hp [] w0 w its) (hT : TabW w0) {x : Ins} (h0 : -9223372036854775808 ≤ x.2) (h1 : x.2 ≤ 9223372036854775807) {K : ByteArray → World → Prop} (hK : ∀ s w', strL s = lineL x → Hp [] w0 w' its → K s w') : c55 x.1 x.2 w K := by
 refine c55_of ?_
 unfold f55
 refine h.nw fun i w1 h => ?_
 refine h.ld0 (k := .i .i64) (x := x.1) its.length (by rw [List.getElem?_concat_length]; rfl) rfl ?_
 refine shape_spec h fun w1 h => ?_
 refine h.nw fun s1 w1 h => ?_
 refine h.st0 _ List.getElem?_concat_length (by simp) rfl fun w1 h => ?_
 rw [set_last] at h
 refine h.st (n := 1) _ List.getElem?_concat_length (by simp) rfl fun w1 h => ?_
 rw [set_last] at h
 refine h.st (n := 2) _ List.getElem?_concat_length (by simp) rfl fun w1 h => ?_
 rw [set_last] at h
 refine h.st (n := 3) _ List.getElem?_concat_length (by simp) rfl fun w1 h => ?_
 rw [set_last] at h
 refine h.st (n := 4) _ List.getElem?_concat_length (by simp) rfl fun w1 h => ?_
 rw [set_last] at h
 have h : Hp [] w0 w1 (its ++ [tBlk i 23 [.int .i64 x.1, .int .i64 x.2]] ++ [tBlk s1 74 [.string (row x.1).word, .bool (row x.1).num, .int .i64 (takesOf (row x.1)), .int .i64 (row x.1).pt, .int .i64 (byOf (row x.1))]]) := h
 have hI : ∀ {t : Thing}, ((its ++ [tBlk i 23 [.int .i64 x.1, .int .i64 x.2]] ++ [t])[its.length]?).map Thing.holds = some (tBlk i 23 [.int .i64 x.1, .int .i64 x.2]).holds := fun {t} => by rw [mid1]; rfl
 have hLs : ∀ {A : List Thing} {b : Nat} {e : TypeId} {c : List Value}, ((A ++ [tBlk b e c])[A.length]?).map Thing.holds = some (tBlk b e c).holds := fun {A b e c} => by rw [List.getElem?_concat_length]; rfl
 have hw5 := word_size x.1
 have hd := dec_size h0 h1
 refine h.ld (n := 1) (k := .b) (x := (row x.1).num) _ hLs rfl ?_
 by_cases hn : (row x.1).num = true
 ·refine ifT hn ?_
  refine h.dr fun w1 h => ?_
  refine h.ld0 (k := .s) (x := (row x.1).word) _ hLs rfl ?_
  refine ⟨?_, ?_⟩
  ·have : (⟨#[32]⟩ : ByteArray).size = 1 := rfl
   omega
  refine h.ld (n := 1) (k := .i .i64) (x := x.2) _ hI rfl ?_
  refine Format_spec h hT h0 h1 fun w2 h => ?_
  refine ⟨h.cel0 _ hLs rfl, ?_, hK _ w2 ?_ h.front.front⟩
  ·have : (⟨#[32]⟩ : ByteArray).size = 1 := rfl
   rw [ByteArray.size_append]
   omega
  ·unfold lineL
   rw [if_pos hn, strL_append', strL_append']
   simp [decL]; rfl
 ·refine ifF hn ?_
  refine h.ld0 (k := .s) (x := (row x.1).word) _ hLs rfl ?_
  exact hK _ w1 (by unfold lineL; rw [if_neg hn, List.append_nil]) h.front.front
end
theorem writtenM_no {r : RT} {left : Int} (h : writtenM r left = true) : codeOk r.code = true ∧ (1 ≤ r.nm.size ∧ r.nm.size ≤ 16) ∧ (0 ≤ r.pa ∧ r.pa ≤ 4 ∧ r.pa ≤ r.lo ∧ r.lo ≤ 32) ∧ 0 ≤ left - r.code.length := by
 obtain ⟨h1, h2⟩ := written_iff.1 h
 obtain ⟨a, b, c⟩ := rtOk_iff.1 h1
 exact ⟨a, b, c, h2⟩
theorem rdRo {α : Type} {s : Sl} {n : Nat} {f : α → List Value} {l : List α} : Hp.Reads (tRd s n f l).ro s n f l := ⟨fun {w O} h => ⟨O, h⟩⟩
section
variable {w0 w : World} {its rest : List Thing}
theorem List_spec {nm : ByteArray} {pa lo : Int} {sl : Sl} {code : List Ins} (hr : ∃ o, SlR w sl 2 insv code o) (hok : RT.Ok ⟨nm, pa, lo, code⟩) (hnm : nm.size ≤ 140737488355328) (hT : TabW w) {K : ByteArray → World → Prop}
  (hK : ∀ w', Hp [] w w' [] → K (listS ⟨nm, pa, lo, code⟩) w') : c25 nm pa lo sl w K := by
 obtain ⟨o, hr⟩ := hr
 have hcl := hok.len
 refine c25_of ?_
 unfold f25
 have h : Hp [] w w [(tRd sl 2 insv code).ro] := (Hp.init w).addRo (O := o) hr (by simp)
 have hlen := h.lenU (u := (tRd sl 2 insv code).ro) 0 rfl (rdRo (n := 2) (f := insv))
 refine h.nw fun rb w1 h => ?_
 refine h.nw fun lb w1 h => ?_
 refine h.st0 2 rfl (by simp) rfl fun w1 h => ?_
 have hno : listM ⟨nm, pa, lo, code⟩ = false → ∀ w', Hp [] w w' [] → K ⟨#[]⟩ w' := fun e w' h => by
  have := hK w' h
  unfold listS at this
  rw [e] at this
  exact this
 refine ⟨fun w' => listM ⟨nm, pa, lo, code⟩ = true ∧ Hp [] w w' [(tRd sl 2 insv code).ro, tBlk rb 30 [.string nm, .int .i64 pa, .int .i64 lo, .slice sl.a sl.len sl.cap]], ?_, ?_⟩
 ·refine h.ld0 (k := .s) (x := nm) 1 rfl rfl ?_
  refine listed_spec hnm ?_
  by_cases h1 : listedM nm = true
  ·refine ifF (by simp [h1]) ?_
   refine h.ld0 (k := .s) (x := nm) 1 rfl rfl ?_
   refine h.ld (n := 1) (k := .i .i64) (x := pa) 1 rfl rfl ?_
   refine h.ld (n := 2) (k := .i .i64) (x := lo) 1 rfl rfl ?_
   refine h.ld (n := 3) (k := .sl) (x := sl) 1 rfl rfl ?_
   refine written_spec h 2 0 (u := (tRd sl 2 insv code).ro) (left := 2000) (by decide) rfl rfl rdRo hcl (by decide) (by decide) fun w2 h => ?_
   by_cases h2 : writtenM ⟨nm, pa, lo, code⟩ 2000 = true
   ·refine ifF (by simp [h2]) ⟨by unfold listM; rw [h1, h2]; rfl, ?_⟩
    have h : Hp [] w w2 ([(tRd sl 2 insv code).ro, tBlk rb 30 [.string nm, .int .i64 pa, .int .i64 lo, .slice sl.a sl.len sl.cap]] ++ [tBlk lb 3 [.int .i64 (2000 - code.length)]]) := h
    exact h.front
   ·refine ifT (by simp [h2]) (hno (by unfold listM; simp [h2]) w2 (frNil h.fr))
  ·exact ifT (by simp [h1]) (hno (by unfold listM; simp [h1]) w1 (frNil h.fr))
 clear h
 rintro w1 ⟨hM, h⟩
 have hyes : ∀ w', Hp [] w w' [] → K (strOf (listL ⟨nm, pa, lo, code⟩)) w' := fun w' h => by
  have := hK w' h
  unfold listS at this
  rw [if_pos hM] at this
  exact this
 have hW : writtenM ⟨nm, pa, lo, code⟩ 2000 = true := by
  unfold listM at hM
  rw [Bool.and_eq_true] at hM
  exact hM.2
 obtain ⟨k1, ⟨k2, k3⟩, ⟨k4, k5, k6, k7⟩, k8⟩ := writtenM_no hW
 dsimp only at k1 k2 k3 k4 k5 k6 k7 k8
 have z1 : (⟨#[32]⟩ : ByteArray).size = 1 := rfl
 have z2 : (⟨#[10]⟩ : ByteArray).size = 1 := rfl
 have d1 := dec_size (n := pa) (by omega) (by omega)
 have d2 := dec_size (n := lo) (by omega) (by omega)
 refine bld_new h fun b w1 h => ?_
 have h : Hp [] w w1 [(tRd sl 2 insv code).ro, tBlk rb 30 [.string nm, .int .i64 pa, .int .i64 lo, .slice sl.a sl.len sl.cap], tBld w.heap.size b []] := h
 refine h.dr fun w1 h => ?_
 refine h.ld0 (k := .s) (x := nm) 1 rfl rfl ⟨by omega, ?_⟩
 refine h.ld (n := 1) (k := .i .i64) (x := pa) 1 rfl rfl ?_
 refine h.ld (n := 2) (k := .i .i64) (x := lo) 1 rfl rfl ?_
 refine Itoa_spec h hT (by omega) (by omega) fun w1 h => ?_
 refine ⟨h.cel (n := 2) 1 rfl rfl, h.cel0 1 rfl rfl, by simp only [ByteArray.size_append]; omega, by simp only [ByteArray.size_append]; omega, ?_⟩
 refine Itoa_spec h hT (by omega) (by omega) fun w1 h => ?_
 refine ⟨h.cel0 1 rfl rfl, by simp only [ByteArray.size_append]; omega, by simp only [ByteArray.size_append]; omega, ?_⟩
 refine WriteString_spec h 2 rfl _ (by simp only [ByteArray.size_append, List.length_nil]; omega) fun w1 h => ?_
 have eh : ([] : List Int) ++ strL (nm ++ ⟨#[32]⟩ ++ dec pa ++ ⟨#[32]⟩ ++ dec lo ++ ⟨#[10]⟩) = headL ⟨nm, pa, lo, code⟩ := by
  simp only [strL_append', List.nil_append]
  show _ = strL nm ++ 32 :: (decL pa ++ 32 :: (decL lo ++ [10]))
  simp [decL]; rfl
 rw [eh] at h
 have h : Hp [] w w1 [(tRd sl 2 insv code).ro, tBlk rb 30 [.string nm, .int .i64 pa, .int .i64 lo, .slice sl.a sl.len sl.cap], tBld w.heap.size b (headL ⟨nm, pa, lo, code⟩)] := h
 have hhl : (headL ⟨nm, pa, lo, code⟩).length ≤ 100 := by
  rw [← eh]
  simp only [List.nil_append, strL_len, ByteArray.size_append]; omega
 refine h.ld (n := 3) (k := .sl) (x := sl) 1 rfl rfl ?_
 refine ⟨fun t m w' => ∃ k : Nat, t = k ∧ k ≤ code.length ∧ m = code.length - k ∧ Hp [] w w' [(tRd sl 2 insv code).ro, tBlk rb 30 [.string nm, .int .i64 pa, .int .i64 lo, .slice sl.a sl.len sl.cap], tBld w.heap.size b (headL ⟨nm, pa, lo, code⟩ ++ (code.take k).flatMap fun x => lineL x ++ [10])], ⟨_, 0, rfl, by omega, rfl, by simpa using h⟩, ?_⟩
 clear h
 rintro t m w2 ⟨k, rfl, hk, rfl, h⟩
 by_cases hend : k = code.length
 ·refine ifF (by simp; omega) ?_
  rw [List.take_of_length_le (by omega)] at h
  refine String_spec h 2 rfl ?_ fun w3 h => hyes w3 h
  have hB : ∀ (x : Ins), Bytes (lineL x) := fun x => by
   unfold lineL
   intro y hy
   rcases List.mem_append.1 hy with hy | hy
   ·exact strL_bytes _ y hy
   ·split at hy
    ·rcases List.mem_cons.1 hy with rfl | hy
     ·decide
     ·exact strL_bytes _ y hy
    ·cases hy
  intro y hy
  rcases List.mem_append.1 hy with hy | hy
  ·rw [← eh] at hy
   exact strL_bytes _ y (by simpa using hy)
  ·obtain ⟨x, _, hx⟩ := List.mem_flatMap.1 hy
   rcases List.mem_append.1 hx with hx | hx
   ·exact hB x y hx
   ·simp only [List.mem_singleton] at hx
    subst hx; decide
 ·obtain ⟨x, hx⟩ : ∃ x, code[k]? = some x := ⟨code[k]'(by omega), List.getElem?_eq_getElem (by omega)⟩
  have hxm := List.mem_of_getElem? hx
  have hrg := hok.rng x hxm
  refine ifT (by simp; omega) ?_
  obtain ⟨O, hO⟩ := h.see (i := 0) rfl
  refine SlR.ix insv_len hO (by omega) (x := x) (by rw [Int.toNat_natCast]; exact hx) fun ad hc => ?_
  refine ldR0 (k := .i .i64) (x := x.1) (hc 0 (by omega)) rfl ?_
  refine ldR (k := .i .i64) (x := x.2) (hc 1 (by omega)) rfl ?_
  refine ins_copy h fun ib w3 h => ?_
  refine h.ld0 (k := .i .i64) (x := x.1) 3 rfl rfl ?_
  refine h.ld (n := 1) (k := .i .i64) (x := x.2) 3 rfl rfl ?_
  refine line_spec h hT hrg.1 hrg.2 fun s w3 hs h => ?_
  have hll := lineL_len hrg.1 hrg.2
  rw [← hs, strL_len] at hll
  refine ⟨by omega, ?_⟩
  have hfl : ((code.take k).flatMap fun x => lineL x ++ [10]).length ≤ 28 * (code.take k).length := flat_len fun y hy => by
   have := hok.rng y (List.mem_of_mem_take hy)
   have := lineL_len this.1 this.2
   rw [List.length_append]; simp; omega
  rw [List.length_take] at hfl
  refine WriteString_spec h 2 rfl _ (by rw [List.length_append, ByteArray.size_append]; omega) fun w4 h => ?_
  refine ⟨code.length - (k + 1), by omega, k + 1, by rw [wr64 (by omega) (by omega)]; omega, by omega, rfl, ?_⟩
  have h : Hp [] w w4 ([(tRd sl 2 insv code).ro, tBlk rb 30 [.string nm, .int .i64 pa, .int .i64 lo, .slice sl.a sl.len sl.cap], tBld w.heap.size b (headL ⟨nm, pa, lo, code⟩ ++ (code.take k).flatMap (fun x => lineL x ++ [10]) ++ strL (s ++ ⟨#[10]⟩))] ++ [tBlk ib 23 [.int .i64 x.1, .int .i64 x.2]]) := h
  have h := h.front
  have e : headL ⟨nm, pa, lo, code⟩ ++ (code.take k).flatMap (fun x => lineL x ++ [10]) ++ strL (s ++ ⟨#[10]⟩) = headL ⟨nm, pa, lo, code⟩ ++ (code.take (k + 1)).flatMap (fun x => lineL x ++ [10]) := by
   rw [List.take_add_one, hx, List.flatMap_append, strL_append', hs, List.append_assoc]
   simp; rfl
  rw [e] at h
  exact h
end
structure Glob (w : World) : Prop where
 tab : TabW w
 m : ∃ m : Int, w.cell? ⟨0, 0, none⟩ = some (.int .i64 m)
 e2 : ∃ ev, w.cell? ⟨2, 0, none⟩ = some ev ∧ (ev = .nilIface ∨ ∃ te pe, ev = .iface te pe)
 e3 : ∃ ev, w.cell? ⟨3, 0, none⟩ = some ev ∧ (ev = .nilIface ∨ ∃ te pe, ev = .iface te pe)
theorem cell_fr {w w' : World} (hf : Fr [] w w') {a : Addr} {v : Value} (h : w.cell? a = some v) : w'.cell? a = some v := by
 have hb := World.block_lt_of_cell? w a h
 rw [← h]
 exact World.cell?_of_block (hf.block _ hb (by simp))
theorem Glob.fr {w w' : World} (h : Glob w) (hf : Fr [] w w') : Glob w' := by
 obtain ⟨m, hm⟩ := h.m
 obtain ⟨e, he, he'⟩ := h.e2
 obtain ⟨f, hf', hf''⟩ := h.e3
 exact ⟨tab_fr h.tab hf, ⟨m, cell_fr hf hm⟩, ⟨e, cell_fr hf he, he'⟩, ⟨f, cell_fr hf hf', hf''⟩⟩
def cutB (s sep : ByteArray) : ByteArray × ByteArray × Bool := (⟨(Lib.cut s.data.toList sep.data.toList).1.toArray⟩, ⟨(Lib.cut s.data.toList sep.data.toList).2.1.toArray⟩, (Lib.cut s.data.toList sep.data.toList).2.2)
def decO (s : ByteArray) : Option Int := match Lib.parseIntB 64 s.data.toList with
 | .ok v => if dec v = s then some v else none
 | _ => none
def nl : ByteArray := ⟨#[10]⟩
def sp : ByteArray := ⟨#[32]⟩
def splitS (s : ByteArray) : List ByteArray := Lib.splitB sp 0 (Lib.countB s sp) s
theorem cut_found {s sep : ByteArray} (h : (cutB s sep).2.2 = true) : (cutB s sep).1.size + sep.size ≤ s.size := by
 unfold cutB Lib.cut at h ⊢
 split at h
 ·rename_i h0
  rw [if_pos h0]
  have hi := Lib.indexB_cases s sep
  have e : Lib.indexB s sep = Lib.index s.data.toList sep.data.toList := rfl
  rw [e] at hi
  rcases hi with hi | ⟨i, hi, hl⟩
  ·omega
  ·rw [hi]
   show (List.toArray _).size + sep.size ≤ s.size
   have : s.data.toList.length = s.size := by rw [Array.length_toList]; rfl
   simp only [List.size_toArray, List.length_take, Int.toNat_natCast]
   omega
 ·cases h
theorem cut_size (s sep : ByteArray) : (cutB s sep).1.size ≤ s.size ∧ (cutB s sep).2.1.size ≤ s.size := by
 unfold cutB Lib.cut
 split
 ·refine ⟨?_, ?_⟩
  ·show (List.toArray _).size ≤ s.data.size
   simp; omega
  ·show (List.toArray _).size ≤ s.data.size
   simp
 ·refine ⟨?_, ?_⟩
  ·show (List.toArray _).size ≤ s.data.size
   simp
  ·show (List.toArray _).size ≤ s.data.size
   simp
theorem parse_range {l : List UInt8} {v : Int} (h : Lib.parseIntB 64 l = .ok v) : -9223372036854775808 ≤ v ∧ v ≤ 9223372036854775807 := by
 cases l with
 | nil => cases h
 | cons c r =>
  simp only [Lib.parseIntB] at h
  split at h
  ·cases h
  ·cases h
  ·rename_i u hu
   split at h
   ·cases h
   ·rename_i h1
    split at h
    ·cases h
    ·rename_i h2
     have p : (2 : Nat) ^ (64 - 1) = 9223372036854775808 := by decide
     rw [p] at h1 h2
     simp only [Lib.NumEnd.ok.injEq] at h
     split at h
     ·rename_i h3
      have : ¬ 9223372036854775808 < u := fun k => h2 ⟨h3, k⟩
      omega
     ·rename_i h3
      have : ¬ 9223372036854775808 ≤ u := fun k => h1 ⟨h3, k⟩
      omega
section
variable {w0 w : World} {its rest : List Thing}
theorem frTrans {w w' : World} (h : Hp [] w0 w its) (hb : RowKit.Below w.heap.size w w') : Hp [] w0 w' its := h.keep (frOfBelow hb)
theorem Cut_spec (h : Hp [] w0 w its) (hG : Glob w0) {s sep : ByteArray} (hs : s.size < 4294967281) {K : ByteArray → ByteArray → Bool → World → Prop} (hK : ∀ w', Hp [] w0 w' its → K (cutB s sep).1 (cutB s sep).2.1 (cutB s sep).2.2 w') : c60 s sep w K := by
 obtain ⟨m, hm⟩ := (hG.fr h.fr).m
 refine Calls.mono (Tryz.strings_Cut s sep m w hs hm) fun e w' ⟨he, n, hw⟩ => ?_
 subst he hw
 exact ⟨_, rfl, hK _ (frTrans h ⟨rfl, rfl, rfl, Nat.le_refl _, fun _ _ => rfl⟩)⟩
abbrev sv (x : ByteArray) : List Value := [.string x]
theorem Split_spec (h : Hp [] w0 w its) (hG : Glob w0) {s : ByteArray} (hs : s.size < 4294967281) {K : Sl → World → Prop} (hK : ∀ sl w', Hp [] w0 w' (its ++ [tSl sl 9 1 sv (splitS s)]) → K sl w') : c89 s ⟨#[32]⟩ w K := by
 obtain ⟨m, hm⟩ := (hG.fr h.fr).m
 refine Calls.mono (Tryz.strings_Split s ⟨#[32]⟩ m w hs hm (by decide)) fun e w' ⟨he, hw⟩ => ?_
 subst he hw
 refine ⟨_, rfl, ?_⟩
 have h := nw_now h ((splitS s).flatMap sv) 9
 have h := h.blkSl (i := its.length) (m := Lib.countB s sp + 1) (l := splitS s) (f := sv) (n := 1) List.getElem?_concat_length rfl (Lib.splitB_all sp (by decide) 0 _ s rfl) (fun x => rfl)
 rw [set_last] at h
 have e : (splitS s).flatMap sv = (splitS s).map Value.string := by rw [List.map_eq_flatMap]
 rw [e] at h
 exact hK _ _ h
theorem decimal_spec (h : Hp [] w0 w its) (hG : Glob w0) {s : ByteArray} (hs : s.size < 4294967281) {K : Int → Bool → World → Prop} (hok : ∀ v, decO s = some v → -9223372036854775808 ≤ v → v ≤ 9223372036854775807 → ∀ w', Hp [] w0 w' its → K v true w') (hno : decO s = none → ∀ x w', Hp [] w0 w' its → K x false w') : c90 s w K := by
 refine c90_of ?_
 unfold f90
 unfold decO at hok hno
 have hG' := hG.fr h.fr
 cases hp : Lib.parseIntB 64 s.data.toList
 case ok v =>
  rw [hp] at hok hno
  dsimp only at hok hno
  obtain ⟨v0, v1⟩ := parse_range hp
  refine Calls.mono (Tryz.strconv_ParseInt_10_at64_ok s (by omega) v hp w) fun e w' ⟨he, hw⟩ => ?_
  subst he
  have h : Hp [] w0 w' its := by
   rcases hw with rfl | ⟨t, rfl⟩
   ·exact h
   ·exact frTrans h (Lib.bytesWorld_below w 5 t)
  refine ⟨_, rfl, ?_⟩
  refine ⟨true, fun _ _ => by kernel_rfl, ?_⟩
  refine ifT rfl ?_
  refine Format_spec h hG.tab v0 v1 fun w2 h => ?_
  rw [str_beq]
  by_cases hd : dec v = s
  ·rw [if_pos hd] at hok
   rw [hd, decide_eq_true rfl]
   exact hok v rfl v0 v1 w2 h
  ·rw [if_neg hd] at hno
   rw [decide_eq_false fun k => hd (strL_inj k)]
   exact hno rfl v w2 h
 case range =>
  rw [hp] at hno
  obtain ⟨ev, h1, h2⟩ := hG'.e3
  refine Calls.mono (Tryz.strconv_ParseInt_10_at64_range s (by omega) hp ev w h1 h2) fun e w' ⟨N, he, _, _, hw⟩ => ?_
  subst he
  refine ⟨_, rfl, ?_⟩
  refine ⟨false, fun _ _ => by kernel_rfl, ?_⟩
  exact ifF (by decide) (hno rfl _ w' (frTrans h hw))
 rw [hp] at hno
 obtain ⟨ev, h1, h2⟩ := hG'.e2
 refine Calls.mono (Tryz.strconv_ParseInt_10_at64_syntax s (by omega) hp ev w h1 h2) fun e w' ⟨N, he, _, _, hw⟩ => ?_
 subst he
 refine ⟨_, rfl, ?_⟩
 refine ⟨false, fun _ _ => by kernel_rfl, ?_⟩
 exact ifF (by decide) (hno rfl _ w' (frTrans h hw))
end
def insR (t : ByteArray) : Option Ins :=
 if numOf (cutB t sp).1 = 0 ∨ (row (numOf (cutB t sp).1)).num ≠ (cutB t sp).2.2 then none
 else if (cutB t sp).2.2 = true then (decO (cutB t sp).2.1).map fun a => (numOf (cutB t sp).1, a) else some (numOf (cutB t sp).1, 0)
def headR (t : ByteArray) : Option (ByteArray × Int × Int) := match splitS t with
 | [a, b, c] => if listedM a = true then (match decO b, decO c with
  | some p, some q => if 0 ≤ p ∧ p ≤ 4 ∧ p ≤ q ∧ q ≤ 32 then some (a, p, q) else none
  | _, _ => none) else none
 | _ => none
theorem split_size (sep : ByteArray) : ∀ (k : Nat) (s x : ByteArray), x ∈ Lib.splitB sep 0 k s → x.size ≤ s.size
 | 0, s, x, h => by
  rw [Lib.splitB_zero] at h
  simp only [List.mem_singleton] at h
  rw [h]; exact Nat.le_refl _
 | k + 1, s, x, h => by
  unfold Lib.splitB at h
  split at h
  ·simp only [List.mem_singleton] at h
   rw [h]; exact Nat.le_refl _
  ·rcases List.mem_cons.1 h with rfl | h
   ·rw [ByteArray.size_extract]; omega
   ·have := split_size sep k _ x h
    rw [ByteArray.size_extract] at this
    omega
section
variable {w0 w : World} {its rest : List Thing}
theorem decimal_u (h : Hp [] w0 w its) (hG : Glob w0) {s : ByteArray} (hs : s.size < 4294967281) {K : Int → Bool → World → Prop} (hK : ∀ v ok w', (ok = true → decO s = some v ∧ -9223372036854775808 ≤ v ∧ v ≤ 9223372036854775807) → (ok = false → decO s = none) → Hp [] w0 w' its → K v ok w') : c90 s w K :=
 decimal_spec h hG hs (fun v hv v0 v1 w' h => hK v true w' (fun _ => ⟨hv, v0, v1⟩) (fun e => by cases e) h) (fun hv x w' h => hK x false w' (fun e => by cases e) (fun _ => hv) h)
theorem readIns_spec (h : Hp [] w0 w its) (hG : Glob w0) {t : ByteArray} (ht : t.size < 4294967281) {K : Int → Int → Bool → World → Prop} (hok : ∀ x, insR t = some x → -9223372036854775808 ≤ x.2 → x.2 ≤ 9223372036854775807 → ∀ w', Hp [] w0 w' its → K x.1 x.2 true w') (hno : insR t = none → ∀ op a w', Hp [] w0 w' its → K op a false w') : c62 t w K := by
 refine c62_of ?_
 unfold f62
 refine h.nw fun A w1 h => ?_
 have hLs : ∀ {A : List Thing} {b : Nat} {e : TypeId} {c : List Value}, ((A ++ [tBlk b e c])[A.length]?).map Thing.holds = some (tBlk b e c).holds := fun {A b e c} => by rw [List.getElem?_concat_length]; rfl
 refine Cut_spec h hG ht fun w1 h => ?_
 refine Number_spec h fun w1 h => ?_
 have hsz := (cut_size t sp).2
 unfold insR at hok hno
 have esp : (⟨#[32]⟩ : ByteArray) = sp := rfl
 rw [esp]
 generalize hc1 : cutB t sp = c at *
 obtain ⟨word, number, more⟩ := c
 dsimp only at hok hno hsz ⊢
 generalize numOf word = op at *
 refine ⟨fun b w' => b = decide (op = 0 ∨ (row op).num ≠ more) ∧ Hp [] w0 w' (its ++ [tBlk A 23 [.int .i64 0, .int .i64 0]]), ?_, ?_⟩
 ·by_cases h0 : op = 0
  ·exact ifT (by simp [h0]) ⟨by simp [h0], h⟩
  ·refine ifF (by simpa using h0) (shape_spec h fun w1 h => ⟨?_, h⟩)
   cases hn : (row op).num <;> cases more <;> simp [h0]
 clear h
 rintro b w1 ⟨rfl, h⟩
 by_cases hb : op = 0 ∨ (row op).num ≠ more
 ·rw [if_pos hb] at hno
  refine ifT (by simpa using hb) ?_
  refine h.st0 _ List.getElem?_concat_length (by simp) rfl fun w1 h => ?_
  rw [set_last] at h
  refine h.st (n := 1) _ List.getElem?_concat_length (by simp) rfl fun w1 h => ?_
  rw [set_last] at h
  refine h.ld0 (k := .i .i64) (x := 0) _ hLs rfl ?_
  refine h.ld (n := 1) (k := .i .i64) (x := 0) _ hLs rfl ?_
  exact hno rfl _ _ w1 h.front
 ·rw [if_neg hb] at hno hok
  refine ifF (by simpa using hb) ?_
  cases more with
  | false =>
   refine ifT rfl ?_
   refine h.st0 _ List.getElem?_concat_length (by simp) rfl fun w1 h => ?_
   rw [set_last] at h
   refine h.st (n := 1) _ List.getElem?_concat_length (by simp) rfl fun w1 h => ?_
   rw [set_last] at h
   refine h.ld0 (k := .i .i64) (x := op) _ hLs rfl ?_
   refine h.ld (n := 1) (k := .i .i64) (x := 0) _ hLs rfl ?_
   exact hok (op, 0) rfl (by show (-9223372036854775808 : Int) ≤ 0; decide) (by show (0 : Int) ≤ 9223372036854775807; decide) w1 h.front
  | true =>
   refine ifF (by decide) ?_
   have fin : ∀ a ok w', Hp [] w0 w' (its ++ [tBlk A 23 [.int .i64 0, .int .i64 0]]) → (∀ w', Hp [] w0 w' its → K op a ok w') → St ⟨A, 0, none⟩ (.int .i64 op) w' fun w => St ((⟨A, 0, none⟩ : Addr).add 1) (.int .i64 a) w fun w => Ld (.i .i64) w ⟨A, 0, none⟩ fun r1 => Ld (.i .i64) w ((⟨A, 0, none⟩ : Addr).add 1) fun r2 => K r1 r2 ok w := by
    intro a ok w' h hk
    refine h.st0 _ List.getElem?_concat_length (by simp) rfl fun w1 h => ?_
    rw [set_last] at h
    refine h.st (n := 1) _ List.getElem?_concat_length (by simp) rfl fun w1 h => ?_
    rw [set_last] at h
    refine h.ld0 (k := .i .i64) (x := op) _ hLs rfl ?_
    refine h.ld (n := 1) (k := .i .i64) (x := a) _ hLs rfl ?_
    exact hk w1 h.front
   refine decimal_spec h hG (by omega) (fun v hv v0 v1 w2 h => fin v true w2 h (hok (op, v) ?_ v0 v1)) (fun hv x w2 h => fin x false w2 h (hno ?_ op x))
   ·rw [if_pos rfl, hv]; rfl
   ·rw [if_pos rfl, hv]; rfl
theorem header_spec (h : Hp [] w0 w its) (hG : Glob w0) {t : ByteArray} (ht : t.size < 4294967281) {K : ByteArray → Int → Int → Sl → Bool → World → Prop} (hok : ∀ nm pa lo, headR t = some (nm, pa, lo) → ∀ w', Hp [] w0 w' its → K nm pa lo ⟨none, 0, 0⟩ true w') (hno : headR t = none → ∀ w', Hp [] w0 w' its → K ⟨#[]⟩ 0 0 ⟨none, 0, 0⟩ false w') : c61 t w K := by
 refine c61_of ?_
 unfold f61
 refine h.nw fun A w1 h => ?_
 refine Split_spec h hG ht fun sl w1 h => ?_
 have hlen := h.len (s := sl) (e := 9) (n := 1) (f := sv) (l := splitS t) (its ++ [tBlk A 30 [.string (⟨#[]⟩ : ByteArray), .int .i64 0, .int .i64 0, .slice none 0 0]]).length (by rw [List.getElem?_concat_length]; rfl)
 have hel : ∀ {w' : World} {i : Nat} {x : ByteArray} {K : ByteArray → Prop}, Hp [] w0 w' (its ++ [tBlk A 30 [.string (⟨#[]⟩ : ByteArray), .int .i64 0, .int .i64 0, .slice none 0 0]] ++ [tSl sl 9 1 sv (splitS t)]) → (splitS t)[i]? = some x → K x → Ix sl.a sl.len (i : Int) 1 fun a => Ld .s w' a fun x => K x := by
  intro w' i x K h hx hK
  refine h.ixr (its ++ [tBlk A 30 [.string (⟨#[]⟩ : ByteArray), .int .i64 0, .int .i64 0, .slice none 0 0]]).length (s := sl) (l := splitS t) (f := sv) (n := 1) (e := 9) (by rw [List.getElem?_concat_length]; rfl) (by omega) (y := x) (by rw [Int.toNat_natCast]; exact hx) (fun _ => rfl) fun ad hc => ?_
  exact ldR0 (k := .s) (x := x) (hc 0 (by omega)) rfl hK
 have fail : ∀ w', Hp [] w0 w' (its ++ [tBlk A 30 [.string (⟨#[]⟩ : ByteArray), .int .i64 0, .int .i64 0, .slice none 0 0]] ++ [tSl sl 9 1 sv (splitS t)]) → headR t = none → (St ⟨A, 0, none⟩ (.string (⟨#[]⟩ : ByteArray)) w' fun (w : World) => St ((⟨A, 0, none⟩ : Addr).add 1) (.int .i64 0) w fun (w : World) => St ((⟨A, 0, none⟩ : Addr).add 2) (.int .i64 0) w fun (w : World) => St ((⟨A, 0, none⟩ : Addr).add 3) (.slice none 0 0) w fun (w : World) =>
   Ld .s w ⟨A, 0, none⟩ fun r_Name => Ld (.i .i64) w ((⟨A, 0, none⟩ : Addr).add 1) fun r_Params => Ld (.i .i64) w ((⟨A, 0, none⟩ : Addr).add 2) fun r_Locals => Ld .sl w ((⟨A, 0, none⟩ : Addr).add 3) fun r_Code => K r_Name r_Params r_Locals r_Code false w) := by
  intro w' h hn
  refine h.st0 its.length mid1 (by simp) rfl fun w1 h => ?_
  rw [List.set_append_left _ _ (by simp), set_last] at h
  refine h.st (n := 1) its.length mid1 (by simp) rfl fun w1 h => ?_
  rw [List.set_append_left _ _ (by simp), set_last] at h
  refine h.st (n := 2) its.length mid1 (by simp) rfl fun w1 h => ?_
  rw [List.set_append_left _ _ (by simp), set_last] at h
  refine h.st (n := 3) its.length mid1 (by simp) rfl fun w1 h => ?_
  rw [List.set_append_left _ _ (by simp), set_last] at h
  refine h.ld0 (k := .s) (x := (⟨#[]⟩ : ByteArray)) its.length (by rw [mid1]; rfl) rfl ?_
  refine h.ld (n := 1) (k := .i .i64) (x := 0) its.length (by rw [mid1]; rfl) rfl ?_
  refine h.ld (n := 2) (k := .i .i64) (x := 0) its.length (by rw [mid1]; rfl) rfl ?_
  refine h.ld (n := 3) (k := .sl) (x := ⟨none, 0, 0⟩) its.length (by rw [mid1]; rfl) rfl ?_
  exact hno hn w1 h.front.front
 have hps : ∀ x ∈ splitS t, x.size ≤ t.size := fun x hx => split_size sp _ t x hx
 refine ⟨fun b w' => Hp [] w0 w' (its ++ [tBlk A 30 [.string (⟨#[]⟩ : ByteArray), .int .i64 0, .int .i64 0, .slice none 0 0]] ++ [tSl sl 9 1 sv (splitS t)]) ∧ (b = true → headR t = none) ∧ (b = false → ∃ x y z, splitS t = [x, y, z] ∧ listedM x = true), ?_, ?_⟩
 ·by_cases h3 : sl.len = 3
  ·obtain ⟨x, y, z, hsp⟩ : ∃ x y z, splitS t = [x, y, z] := by
    have hl3 : (splitS t).length = 3 := by omega
    generalize splitS t = ls at hl3
    match ls, hl3 with
    | [x, y, z], _ => exact ⟨x, y, z, rfl⟩
   refine ifF (by simp [h3]) ?_
   refine hel (i := 0) (x := x) h (by rw [hsp]; rfl) ?_
   refine listed_spec (by have := hps x (by rw [hsp]; simp); omega) ⟨h, fun hb => ?_, fun hb => ⟨x, y, z, hsp, by simpa using hb⟩⟩
   unfold headR
   rw [hsp]
   dsimp only
   rw [if_neg (by simpa using hb)]
  ·refine ifT (by simp; omega) ⟨h, fun _ => ?_, fun hb => by cases hb⟩
   unfold headR
   split
   ·rename_i hsp
    rw [hsp] at hlen
    simp at hlen
    omega
   ·rfl
 clear h
 rintro b w1 ⟨h, hb1, hb2⟩
 cases b with
 | true => exact ifT rfl (fail w1 h (hb1 rfl))
 | false =>
  refine ifF (by decide) ?_
  obtain ⟨x, y, z, hsp, hlx⟩ := hb2 rfl
  have sy := hps y (by rw [hsp]; simp)
  have sz := hps z (by rw [hsp]; simp)
  have hh : headR t = (match decO y, decO z with
   | some p, some q => if 0 ≤ p ∧ p ≤ 4 ∧ p ≤ q ∧ q ≤ 32 then some (x, p, q) else none
   | _, _ => none) := by
   unfold headR
   rw [hsp]
   dsimp only
   rw [if_pos hlx]
  refine hel (i := 1) (x := y) h (by rw [hsp]; rfl) ?_
  refine decimal_u h hG (by omega) fun p one w2 g1 g2 h => ?_
  refine hel (i := 2) (x := z) h (by rw [hsp]; rfl) ?_
  refine decimal_u h hG (by omega) fun q tw w3 k1 k2 h => ?_
  by_cases hg : one = true ∧ tw = true ∧ 0 ≤ p ∧ p ≤ 4 ∧ p ≤ q ∧ q ≤ 32
  ·obtain ⟨rfl, rfl, hr⟩ := hg
   refine ifF (by simp; omega) ?_
   refine hel (i := 0) (x := x) h (by rw [hsp]; rfl) ?_
   refine h.st0 its.length mid1 (by simp) rfl fun w1 h => ?_
   rw [List.set_append_left _ _ (by simp), set_last] at h
   refine h.st (n := 1) its.length mid1 (by simp) rfl fun w1 h => ?_
   rw [List.set_append_left _ _ (by simp), set_last] at h
   refine h.st (n := 2) its.length mid1 (by simp) rfl fun w1 h => ?_
   rw [List.set_append_left _ _ (by simp), set_last] at h
   refine h.st (n := 3) its.length mid1 (by simp) rfl fun w1 h => ?_
   rw [List.set_append_left _ _ (by simp), set_last] at h
   refine h.ld0 (k := .s) (x := x) its.length (by rw [mid1]; rfl) rfl ?_
   refine h.ld (n := 1) (k := .i .i64) (x := p) its.length (by rw [mid1]; rfl) rfl ?_
   refine h.ld (n := 2) (k := .i .i64) (x := q) its.length (by rw [mid1]; rfl) rfl ?_
   refine h.ld (n := 3) (k := .sl) (x := ⟨none, 0, 0⟩) its.length (by rw [mid1]; rfl) rfl ?_
   refine hok x p q ?_ w1 h.front.front
   rw [hh, (g1 rfl).1, (k1 rfl).1]
   dsimp only
   rw [if_pos hr]
  ·refine ifT ?_ (fail w3 h ?_)
   ·cases one with
    | false => rfl
    | true =>
     cases tw with
     | false => rfl
     | true =>
      have : ¬ (0 ≤ p ∧ p ≤ 4 ∧ p ≤ q ∧ q ≤ 32) := fun k => hg ⟨rfl, rfl, k⟩
      simp; omega
   ·rw [hh]
    cases one with
    | false => rw [g2 rfl]
    | true =>
     rw [(g1 rfl).1]
     cases tw with
     | false => rw [k2 rfl]
     | true =>
      rw [(k1 rfl).1]
      dsimp only
      rw [if_neg fun k => hg ⟨rfl, rfl, k⟩]
end
def rt0 : RT := ⟨⟨#[]⟩, 0, 0, []⟩
def rAdd (r : RT) (i : Ins) : RT := ⟨r.nm, r.pa, r.lo, r.code ++ [i]⟩
def readG (s : ByteArray) : Nat → Nat → Option RT → Except Nat RT
 | 0, a, _ => .error a
 | f + 1, a, st =>
  if st.isSome = true ∧ ¬ a < s.size then .ok (st.getD rt0)
  else if (cutB (s.extract a s.size) nl).2.2 = false then .error a
  else match st with
   | none => (match headR (cutB (s.extract a s.size) nl).1 with
    | none => .error a
    | some h => readG s f (a + (cutB (s.extract a s.size) nl).1.size + 1) (some ⟨h.1, h.2.1, h.2.2, []⟩))
   | some r => if r.code.length < 2000 then (match insR (cutB (s.extract a s.size) nl).1 with
    | none => .error a
    | some i => readG s f (a + (cutB (s.extract a s.size) nl).1.size + 1) (some (rAdd r i))) else .error a
def readM (s : ByteArray) : Except Nat RT := readG s (s.size + 2) 0 none
abbrev tR (b : Nat) (r : RT) (sl : Sl) : Thing := tBlk b 30 [.string r.nm, .int .i64 r.pa, .int .i64 r.lo, .slice sl.a sl.len sl.cap]
abbrev tA0 (b : Nat) : Thing := tBlk b 30 [.string (⟨#[]⟩ : ByteArray), .int .i64 0, .int .i64 0, .slice none 0 0]
section
variable {w0 w : World} {its rest : List Thing}
theorem set_mid {α : Type} {l B : List α} {a x : α} : (l ++ [a] ++ B).set l.length x = l ++ [x] ++ B := by
 rw [List.set_append_left _ _ (by simp), set_last]
theorem Read_spec (h : Hp [] w0 w its) (hG : Glob w0) {s : ByteArray} (hs : s.size < 4294967281) {K : ByteArray → Int → Int → Sl → Value → World → Prop}
  (hok : ∀ r, readM s = .ok r → ∀ sl w', Hp [] w0 w' (its ++ [tSl sl 23 2 insv r.code]) → K r.nm r.pa r.lo sl .nilIface w')
  (herr : ∀ e, readM s = .error e → ∀ fb w', Hp [] w0 w' (its ++ [tFault fb e]) → K ⟨#[]⟩ 0 0 ⟨none, 0, 0⟩ (.iface 86 (.pointer (some ⟨fb, 0, none⟩))) w') : c27 s w K := by
 refine c27_of ?_
 unfold f27
 obtain ⟨inf, i1, i2, i3, i4⟩ := inf23
 refine h.nw fun A w1 h => ?_
 refine h.nw fun R w1 h => ?_
 have h := h.nil 23 2 insv
 have h : Hp [] w0 w1 (its ++ [tA0 A] ++ [tR R rt0 ⟨none, 0, 0⟩] ++ [tSl ⟨none, 0, 0⟩ 23 2 insv rt0.code]) := h
 refine ⟨fun at_ first m w' => ∃ (a f : Nat) (st : Option RT) (sl : Sl), at_ = a ∧ a ≤ s.size ∧ first = st.isNone ∧ m = s.size - a ∧ s.size - a + 2 ≤ f ∧ readM s = readG s f a st ∧ Hp [] w0 w' (its ++ [tA0 A] ++ [tR R (st.getD rt0) sl] ++ [tSl sl 23 2 insv (st.getD rt0).code]),
  ⟨_, 0, s.size + 2, none, _, rfl, by omega, rfl, rfl, by omega, rfl, h⟩, ?_⟩
 clear h
 rintro at_ first m w1 ⟨a, f, st, sl, rfl, ha, rfl, rfl, hf, hM, h⟩
 obtain ⟨f, rfl⟩ : ∃ g, f = g + 1 := ⟨f - 1, by omega⟩
 unfold readG at hM
 have hA : ∀ {B : List Thing}, ((its ++ [tA0 A] ++ B)[its.length]?).map Thing.holds = some (tA0 A).holds := fun {B} => by rw [mid1]; rfl
 by_cases hend : st.isSome = true ∧ ¬ a < s.size
 ·rw [if_pos hend] at hM
  obtain ⟨r, rfl⟩ := Option.isSome_iff_exists.1 hend.1
  have h : Hp [] w0 w1 (its ++ [tA0 A] ++ [tR R r sl] ++ [tSl sl 23 2 insv r.code]) := h
  refine ifF (by simp; omega) ?_
  have hR : ((its ++ [tA0 A] ++ [tR R r sl] ++ [tSl sl 23 2 insv r.code])[its.length + 1]?).map Thing.holds = some (tR R r sl).holds := by rw [mid2]; rfl
  refine h.ld0 (k := .s) (x := r.nm) _ hR rfl ?_
  refine h.ld (n := 1) (k := .i .i64) (x := r.pa) _ hR rfl ?_
  refine h.ld (n := 2) (k := .i .i64) (x := r.lo) _ hR rfl ?_
  refine h.ld (n := 3) (k := .sl) (x := sl) _ hR rfl ?_
  have h : Hp [] w0 w1 (its ++ [tA0 A] ++ ([tR R r sl] ++ [tSl sl 23 2 insv r.code])) := by simpa using h
  refine h.st0 its.length mid1 (by simp) rfl fun w1 h => ?_
  rw [set_mid] at h
  refine h.st (n := 1) its.length mid1 (by simp) rfl fun w1 h => ?_
  rw [set_mid] at h
  refine h.st (n := 2) its.length mid1 (by simp) rfl fun w1 h => ?_
  rw [set_mid] at h
  refine h.st (n := 3) its.length mid1 (by simp) rfl fun w1 h => ?_
  rw [set_mid] at h
  refine h.ld0 (k := .s) (x := r.nm) its.length (by rw [mid1]; rfl) rfl ?_
  refine h.ld (n := 1) (k := .i .i64) (x := r.pa) its.length (by rw [mid1]; rfl) rfl ?_
  refine h.ld (n := 2) (k := .i .i64) (x := r.lo) its.length (by rw [mid1]; rfl) rfl ?_
  refine h.ld (n := 3) (k := .sl) (x := sl) its.length (by rw [mid1]; rfl) rfl ?_
  refine hok r hM sl w1 ?_
  refine Hp.dropMid (mid := [tBlk A 30 [.string r.nm, .int .i64 r.pa, .int .i64 r.lo, .slice sl.a sl.len sl.cap]] ++ [tR R r sl]) ?_
  simpa using h
 ·rw [if_neg hend] at hM
  refine ifT ?_ ?_
  ·cases st with
   | none => rfl
   | some r =>
    have : a < s.size := by
     rcases Nat.lt_or_ge a s.size with g | g
     ·exact g
     ·exact absurd ⟨rfl, by omega⟩ hend
    simp [this]
  refine ⟨by omega, by omega, by omega, ?_⟩
  rw [Int.toNat_natCast, Int.toNat_natCast]
  have hes : (s.extract a s.size).size = s.size - a := by rw [ByteArray.size_extract]; omega
  refine Cut_spec h hG (by omega) fun w1 h => ?_
  have esp : (⟨#[10]⟩ : ByteArray) = nl := rfl
  rw [esp]
  have hcf := cut_found (s := s.extract a s.size) (sep := nl)
  have hcs := (cut_size (s.extract a s.size) nl).1
  have hn1 : nl.size = 1 := rfl
  generalize hc : cutB (s.extract a s.size) nl = c at *
  obtain ⟨text, x_, whole⟩ := c
  dsimp only at hM hcf hcs ⊢
  have hlen := h.len (s := sl) (e := 23) (n := 2) (f := insv) (l := (st.getD rt0).code) (its.length + 2) (by rw [last3]; rfl)
  -- it is wrong here
  have wrongX : ∀ (B : List Thing) (w2 : World), Hp [] w0 w2 (its ++ [tA0 A] ++ B) → readM s = .error a → Nw (.cells #[.int .i64 (a : Int), .int .i64 130] 89) w2 fun (a2 : Addr) (w : World) =>
    St ⟨A, 0, none⟩ (.string (⟨#[]⟩ : ByteArray)) w fun (w : World) => St ((⟨A, 0, none⟩ : Addr).add 1) (.int .i64 0) w fun (w : World) => St ((⟨A, 0, none⟩ : Addr).add 2) (.int .i64 0) w fun (w : World) => St ((⟨A, 0, none⟩ : Addr).add 3) (.slice none 0 0) w fun (w : World) =>
    Ld .s w ⟨A, 0, none⟩ fun r1 => Ld (.i .i64) w ((⟨A, 0, none⟩ : Addr).add 1) fun r2 => Ld (.i .i64) w ((⟨A, 0, none⟩ : Addr).add 2) fun r3 => Ld .sl w ((⟨A, 0, none⟩ : Addr).add 3) fun r4 => K r1 r2 r3 r4 (.iface 86 (.pointer (some a2))) w := by
   intro B w2 h he
   refine h.nw fun fb w3 h => ?_
   have h : Hp [] w0 w3 (its ++ [tA0 A] ++ (B ++ [tFault fb a])) := by simpa using h
   refine h.st0 its.length mid1 (by simp) rfl fun w1 h => ?_
   rw [set_mid] at h
   refine h.st (n := 1) its.length mid1 (by simp) rfl fun w1 h => ?_
   rw [set_mid] at h
   refine h.st (n := 2) its.length mid1 (by simp) rfl fun w1 h => ?_
   rw [set_mid] at h
   refine h.st (n := 3) its.length mid1 (by simp) rfl fun w1 h => ?_
   rw [set_mid] at h
   refine h.ld0 (k := .s) (x := (⟨#[]⟩ : ByteArray)) its.length (by rw [mid1]; rfl) rfl ?_
   refine h.ld (n := 1) (k := .i .i64) (x := 0) its.length (by rw [mid1]; rfl) rfl ?_
   refine h.ld (n := 2) (k := .i .i64) (x := 0) its.length (by rw [mid1]; rfl) rfl ?_
   refine h.ld (n := 3) (k := .sl) (x := ⟨none, 0, 0⟩) its.length (by rw [mid1]; rfl) rfl ?_
   refine herr a he fb w1 ?_
   refine Hp.dropMid (mid := [tA0 A] ++ B) ?_
   simpa using h
  refine ⟨fun b w' => b = (whole && (st.isNone || decide ((st.getD rt0).code.length < 2000))) ∧ Hp [] w0 w' (its ++ [tA0 A] ++ [tR R (st.getD rt0) sl] ++ [tSl sl 23 2 insv (st.getD rt0).code]), ?_, ?_⟩
  ·cases whole with
   | false => exact ifF (by decide) ⟨rfl, h⟩
   | true =>
    refine ifT rfl ?_
    cases st with
    | none => exact ifT rfl ⟨rfl, h⟩
    | some r =>
     refine ifF (by simp) ?_
     refine h.ld (n := 3) (k := .sl) (x := sl) (its.length + 1) (by rw [mid2]; rfl) rfl ⟨?_, h⟩
     have : r.code.length = sl.len := hlen
     simp; omega
  clear h
  rintro g w1 ⟨rfl, h⟩
  refine ⟨fun g w' => (g = false ∧ readM s = .error a ∧ ∃ B, Hp [] w0 w' (its ++ [tA0 A] ++ B)) ∨ (g = true ∧ whole = true ∧ ∃ r' sl', readM s = readG s f (a + text.size + 1) (some r') ∧ Hp [] w0 w' (its ++ [tA0 A] ++ [tR R r' sl'] ++ [tSl sl' 23 2 insv r'.code])), ?_, ?_⟩
  ·by_cases hg : (whole && (st.isNone || decide ((st.getD rt0).code.length < 2000))) = true
   ·refine ifF (by simp [hg]) ?_
    rw [Bool.and_eq_true] at hg
    obtain ⟨rfl, hg⟩ := hg
    rw [if_neg (by decide)] at hM
    cases st with
    | none =>
     refine ifT rfl ?_
     dsimp only at hM
     have stores : ∀ (nm : ByteArray) (pa lo : Int) (sl2 : Sl) (w2 : World), Hp [] w0 w2 (its ++ [tA0 A] ++ [tR R rt0 sl] ++ [tSl sl 23 2 insv rt0.code]) → ∀ {G : World → Prop}, (∀ w3, Hp [] w0 w3 (its ++ [tA0 A] ++ [tBlk R 30 [.string nm, .int .i64 pa, .int .i64 lo, .slice sl2.a sl2.len sl2.cap]] ++ [tSl sl 23 2 insv rt0.code]) → G w3) → St ⟨R, 0, none⟩ (.string nm) w2 fun w => St ((⟨R, 0, none⟩ : Addr).add 1) (.int .i64 pa) w fun w => St ((⟨R, 0, none⟩ : Addr).add 2) (.int .i64 lo) w fun w => St ((⟨R, 0, none⟩ : Addr).add 3) (.slice sl2.a sl2.len sl2.cap) w G := by
      intro nm pa lo sl2 w2 h G hG
      refine h.st0 (its ++ [tA0 A]).length mid1 (by simp) rfl fun w1 h => ?_
      rw [set_mid] at h
      refine h.st (n := 1) (its ++ [tA0 A]).length mid1 (by simp) rfl fun w1 h => ?_
      rw [set_mid] at h
      refine h.st (n := 2) (its ++ [tA0 A]).length mid1 (by simp) rfl fun w1 h => ?_
      rw [set_mid] at h
      refine h.st (n := 3) (its ++ [tA0 A]).length mid1 (by simp) rfl fun w1 h => ?_
      rw [set_mid] at h
      exact hG w1 h
     refine header_spec h hG (by omega) (fun nm pa lo hh w2 h => stores _ _ _ _ w2 h fun w3 h => .inr ⟨rfl, rfl, ⟨nm, pa, lo, []⟩, ⟨none, 0, 0⟩, ?_, ?_⟩) (fun hh w2 h => stores _ _ _ _ w2 h fun w3 h => .inl ⟨rfl, ?_, _, by rw [List.append_assoc (its ++ [tA0 A])] at h; exact h⟩)
     ·rw [hM, hh]
     ·have h := h.front.nil 23 2 insv
      exact h
     ·rw [hM, hh]
    | some r =>
     refine ifF (by simp) ?_
     dsimp only at hM
     have hl2 : r.code.length < 2000 := by simpa using hg
     rw [if_pos hl2] at hM
     have hsl : r.code.length = sl.len := hlen
     have h : Hp [] w0 w1 (its ++ [tA0 A] ++ [tR R r sl] ++ [tSl sl 23 2 insv r.code]) := h
     refine h.nw fun I w2 h => ?_
     have fin : ∀ (op x : Int) (w2 : World), Hp [] w0 w2 (its ++ [tA0 A] ++ [tR R r sl] ++ [tSl sl 23 2 insv r.code] ++ [tBlk I 23 [.int .i64 0, .int .i64 0]]) → ∀ {G : World → Prop}, (∀ sl' w3, Hp [] w0 w3 (its ++ [tA0 A] ++ [tR R (rAdd r (op, x)) sl'] ++ [tSl sl' 23 2 insv (rAdd r (op, x)).code]) → G w3) →
       St ⟨I, 0, none⟩ (.int .i64 op) w2 fun w => St ((⟨I, 0, none⟩ : Addr).add 1) (.int .i64 x) w fun w => Ld .sl w ((⟨R, 0, none⟩ : Addr).add 3) fun Code2 => Ld (.i .i64) w ⟨I, 0, none⟩ fun r1 => Ld (.i .i64) w ((⟨I, 0, none⟩ : Addr).add 1) fun r2 =>
        Nw (.cells #[.int .i64 r1, .int .i64 r2] 23) w fun b w => Run .sl Tryz.prog (Builtin.append_ #[28, 28] 28 #[.slice Code2.a Code2.len Code2.cap, .slice (some b) 1 1]) w fun s3 w => St ((⟨R, 0, none⟩ : Addr).add 3) (.slice s3.a s3.len s3.cap) w fun w => G w := by
      intro op x w2 h G hG
      refine h.st0 _ List.getElem?_concat_length (by simp) rfl fun w3 h => ?_
      rw [set_last] at h
      refine h.st (n := 1) _ List.getElem?_concat_length (by simp) rfl fun w3 h => ?_
      rw [set_last] at h
      refine h.ld (n := 3) (k := .sl) (x := sl) (its ++ [tA0 A]).length (by rw [List.append_assoc (its ++ [tA0 A] ++ [tR R r sl]), mid1]; rfl) rfl ?_
      refine h.ld0 (k := .i .i64) (x := op) _ (by rw [List.getElem?_concat_length]; rfl) rfl ?_
      refine h.ld (n := 1) (k := .i .i64) (x := x) _ (by rw [List.getElem?_concat_length]; rfl) rfl ?_
      have h := h.front
      refine h.nwapp (c := insv (op, x)) _ (op, x) List.getElem?_concat_length insv_len und28 i1 i3 i2 rfl rfl (by simp [Value.oneCell']) (by rw [i4]; omega) (by omega) fun s2 w6 h _ _ => ?_
      rw [set_last] at h
      refine h.st (n := 3) (its ++ [tA0 A]).length mid1 (by simp) rfl fun w7 h => ?_
      rw [set_mid] at h
      exact hG s2 w7 h
     refine readIns_spec h hG (by omega) (fun x hx x0 x1 w2 h => fin x.1 x.2 w2 h fun sl' w3 h => .inr ⟨rfl, rfl, rAdd r x, sl', ?_, h⟩) (fun hx op x w2 h => fin op x w2 h fun sl' w3 h => .inl ⟨rfl, ?_, _, by rw [List.append_assoc (its ++ [tA0 A])] at h; exact h⟩)
     ·rw [hM, hx]
     ·rw [hM, hx]
   ·have hg' := Bool.eq_false_iff.2 hg
    refine ifT (by rw [hg']; rfl) (.inl ⟨hg', ?_, _, by rw [List.append_assoc (its ++ [tA0 A])] at h; exact h⟩)
    rw [hM]
    cases whole with
    | false => rfl
    | true =>
     rw [if_neg (by decide)]
     cases st with
     | none => exact absurd rfl hg
     | some r =>
      dsimp only
      rw [if_neg (by simpa using hg)]
  clear h
  rintro g w1 (⟨rfl, he, B, h⟩ | ⟨rfl, rfl, r', sl', he, h⟩)
  ·exact ifT rfl (wrongX B w1 h he)
  ·refine ifF (by decide) ?_
   have := hcf rfl
   refine ⟨s.size - (a + text.size + 1), by omega, a + text.size + 1, f, some r', sl', ?_, by omega, rfl, rfl, by omega, he, h⟩
   rw [wr64 (n := (text.size : Int) + 1) (by omega) (by omega), wr64 (by omega) (by omega)]; omega
end
theorem dec_1 : dec 1 = ⟨#[49]⟩ := by simp [dec, Lib.itoa, Lib.decDigits_one]
theorem dec_2 : dec 2 = ⟨#[50]⟩ := by simp [dec, Lib.itoa, Lib.decDigits_one]
theorem dec_0 : dec 0 = ⟨#[48]⟩ := by simp [dec, Lib.itoa, Lib.decDigits_one]
theorem dec_7 : dec 7 = ⟨#[55]⟩ := by simp [dec, Lib.itoa, Lib.decDigits_one]
theorem dec_m3 : dec (-3) = ⟨#[45, 51]⟩ := by simp [dec, Lib.itoa, Lib.decDigits_one]
theorem decO_of {s : ByteArray} {v : Int} (h : Lib.parseIntB 64 s.data.toList = .ok v) (hd : dec v = s) : decO s = some v := by
 unfold decO; rw [h]; dsimp only; rw [if_pos hd]
theorem decO_no {s : ByteArray} {v : Int} (h : Lib.parseIntB 64 s.data.toList = .ok v) (hd : dec v ≠ s) : decO s = none := by
 unfold decO; rw [h]; dsimp only; rw [if_neg hd]
theorem list_shown : listS ⟨⟨#[102]⟩, 1, 2, [(2, 0), (1, -3), (6, 0), (22, 0)]⟩ = ⟨#[102, 32, 49, 32, 50, 10, 108, 111, 97, 100, 32, 48, 10, 112, 117, 115, 104, 32, 45, 51, 10, 97, 100, 100, 10, 114, 101, 116, 10]⟩ := by
 have e : listL ⟨⟨#[102]⟩, 1, 2, [(2, 0), (1, -3), (6, 0), (22, 0)]⟩ = [102, 32, 49, 32, 50, 10, 108, 111, 97, 100, 32, 48, 10, 112, 117, 115, 104, 32, 45, 51, 10, 97, 100, 100, 10, 114, 101, 116, 10] := by
  unfold listL headL
  simp only [List.flatMap_cons, List.flatMap_nil, lineL, decL, dec_1, dec_2]
  rw [if_pos (by rfl), if_pos (by rfl), if_neg (by decide), if_neg (by decide), dec_0, dec_m3]
  rfl
 unfold listS
 rw [e]
 rfl
theorem head_shown : headR ⟨#[102, 32, 49, 32, 50]⟩ = some (⟨#[102]⟩, 1, 2) := by
 unfold headR
 rw [show splitS ⟨#[102, 32, 49, 32, 50]⟩ = [⟨#[102]⟩, ⟨#[49]⟩, ⟨#[50]⟩] from rfl]
 dsimp only
 rw [if_pos (by rfl), decO_of (s := ⟨#[49]⟩) (v := 1) rfl dec_1, decO_of (s := ⟨#[50]⟩) (v := 2) rfl dec_2]
 rfl
theorem ins_yes : insR ⟨#[112, 117, 115, 104, 32, 55]⟩ = some (1, 7) := by
 unfold insR
 rw [show cutB ⟨#[112, 117, 115, 104, 32, 55]⟩ sp = (⟨#[112, 117, 115, 104]⟩, ⟨#[55]⟩, true) from rfl]
 dsimp only
 rw [show numOf ⟨#[112, 117, 115, 104]⟩ = 1 from rfl, if_neg (by decide), if_pos rfl, decO_of (s := ⟨#[55]⟩) (v := 7) rfl dec_7]
 rfl
theorem ins_no : insR ⟨#[108, 111, 97, 100, 32, 48, 48]⟩ = none := by
 unfold insR
 rw [show cutB ⟨#[108, 111, 97, 100, 32, 48, 48]⟩ sp = (⟨#[108, 111, 97, 100]⟩, ⟨#[48, 48]⟩, true) from rfl]
 dsimp only
 rw [show numOf ⟨#[108, 111, 97, 100]⟩ = 2 from rfl, if_neg (by decide), if_pos rfl, decO_no (s := ⟨#[48, 48]⟩) (v := 0) rfl (by rw [dec_0]; decide)]
 rfl
theorem read_yes : readM ⟨#[102, 32, 49, 32, 50, 10, 112, 117, 115, 104, 32, 55, 10]⟩ = .ok ⟨⟨#[102]⟩, 1, 2, [(1, 7)]⟩ := by
 show readG _ (14 + 1) 0 none = _
 unfold readG
 rw [if_neg (by decide)]
 rw [show cutB ((⟨#[102, 32, 49, 32, 50, 10, 112, 117, 115, 104, 32, 55, 10]⟩ : ByteArray).extract 0 (⟨#[102, 32, 49, 32, 50, 10, 112, 117, 115, 104, 32, 55, 10]⟩ : ByteArray).size) nl = (⟨#[102, 32, 49, 32, 50]⟩, ⟨#[112, 117, 115, 104, 32, 55, 10]⟩, true) from rfl]
 dsimp only
 rw [if_neg (by decide), head_shown]
 show readG _ (13 + 1) 6 (some ⟨⟨#[102]⟩, 1, 2, []⟩) = _
 unfold readG
 rw [if_neg (by decide)]
 rw [show cutB ((⟨#[102, 32, 49, 32, 50, 10, 112, 117, 115, 104, 32, 55, 10]⟩ : ByteArray).extract 6 (⟨#[102, 32, 49, 32, 50, 10, 112, 117, 115, 104, 32, 55, 10]⟩ : ByteArray).size) nl = (⟨#[112, 117, 115, 104, 32, 55]⟩, ⟨#[]⟩, true) from rfl]
 dsimp only
 rw [if_neg (by decide), if_pos (by decide), ins_yes]
 show readG _ (12 + 1) 13 (some ⟨⟨#[102]⟩, 1, 2, [(1, 7)]⟩) = _
 unfold readG
 rw [if_pos (by decide)]
 rfl
theorem read_no : readM ⟨#[102, 32, 49, 32, 50, 10, 108, 111, 97, 100, 32, 48, 48, 10]⟩ = .error 6 := by
 show readG _ (15 + 1) 0 none = _
 unfold readG
 rw [if_neg (by decide)]
 rw [show cutB ((⟨#[102, 32, 49, 32, 50, 10, 108, 111, 97, 100, 32, 48, 48, 10]⟩ : ByteArray).extract 0 (⟨#[102, 32, 49, 32, 50, 10, 108, 111, 97, 100, 32, 48, 48, 10]⟩ : ByteArray).size) nl = (⟨#[102, 32, 49, 32, 50]⟩, ⟨#[108, 111, 97, 100, 32, 48, 48, 10]⟩, true) from rfl]
 dsimp only
 rw [if_neg (by decide), head_shown]
 show readG _ (14 + 1) 6 (some ⟨⟨#[102]⟩, 1, 2, []⟩) = _
 unfold readG
 rw [if_neg (by decide)]
 rw [show cutB ((⟨#[102, 32, 49, 32, 50, 10, 108, 111, 97, 100, 32, 48, 48, 10]⟩ : ByteArray).extract 6 (⟨#[102, 32, 49, 32, 50, 10, 108, 111, 97, 100, 32, 48, 48, 10]⟩ : ByteArray).size) nl = (⟨#[108, 111, 97, 100, 32, 48, 48]⟩, ⟨#[]⟩, true) from rfl]
 dsimp only
 rw [if_neg (by decide), if_pos (by decide), ins_no]
theorem pg_no : pgD [0, 0, 0] = .error 2 := rfl
theorem pg_yes : pgD [0, 1, 1, 102, 0, 0, 1, 22] = .ok ⟨[], [⟨⟨#[102]⟩, 0, 0, [(22, 0)]⟩]⟩ := rfl
section
variable {w0 w : World} {its rest : List Thing}
theorem pg_copy {S : List Nat} (h : Hp S w0 w its) {s1 s2 : Sl} {K : Addr → World → Prop} (hK : ∀ b w', Hp S w0 w' (its ++ [tBlk b 37 [.slice s1.a s1.len s1.cap, .slice s2.a s2.len s2.cap]]) → K ⟨b, 0, none⟩ w') :
  Nw (.cells #[.slice none 0 0, .slice none 0 0] 37) w fun (s : Addr) (w : World) => St s (.slice s1.a s1.len s1.cap) w fun (w : World) => St (s.add 1) (.slice s2.a s2.len s2.cap) w fun (w : World) => K s w := by
 refine h.nw fun b w1 h => ?_
 refine h.st0 its.length List.getElem?_concat_length (by simp) rfl fun w2 h => ?_
 rw [set_last] at h
 refine h.st (n := 1) its.length List.getElem?_concat_length (by simp) rfl fun w2 h => ?_
 rw [set_last] at h
 exact hK b w2 h
theorem shown0 (hG : Glob w) {K : Bool → World → Prop} (hK : ∀ w', Hp [] w w' [] → K true w') : c8 w K := by
 refine c8_of ?_
 unfold f8
 have h : Hp [] w w [] := Hp.init w
 refine h.nwS (l := [(2, 0), (1, -3), (6, 0), (22, 0)]) (f := insv) (n := 2) (m := 4) rfl rfl insv_len fun cb w1 h => ?_
 refine rt_copy h (sl := ⟨some ⟨cb, 0, none⟩, 4, 4⟩) fun rb w1 h => ?_
 have h : Hp [] w w1 [tSl ⟨some ⟨cb, 0, none⟩, 4, 4⟩ 23 2 insv [(2, 0), (1, -3), (6, 0), (22, 0)], tBlk rb 30 [.string ⟨#[102]⟩, .int .i64 1, .int .i64 2, .slice (some ⟨cb, 0, none⟩) 4 4]] := h
 refine h.ld0 (k := .s) (x := ⟨#[102]⟩) 1 rfl rfl ?_
 refine h.ld (n := 1) (k := .i .i64) (x := 1) 1 rfl rfl ?_
 refine h.ld (n := 2) (k := .i .i64) (x := 2) 1 rfl rfl ?_
 refine h.ld (n := 3) (k := .sl) (x := ⟨some ⟨cb, 0, none⟩, 4, 4⟩) 1 rfl rfl ?_
 obtain ⟨O, hO⟩ := h.see (i := 0) rfl
 refine List_spec (code := [(2, 0), (1, -3), (6, 0), (22, 0)]) ⟨O, SlF.toR hO⟩ ⟨by decide, by decide⟩ (by decide) (hG.fr h.fr).tab fun w2 h2 => ?_
 rw [list_shown]
 have h := (h.keep h2.fr).front (a := [])
 clear h2 hO O
 -- Read
 refine Read_spec h hG (by decide) (fun r hr sl1 w2 h => ?_) (fun e he => by rw [read_yes] at he; cases he)
 rw [read_yes] at hr
 cases hr
 refine rt_copy h (sl := sl1) fun xb w2 h => ?_
 have h : Hp [] w w2 [tSl sl1 23 2 insv [(1, 7)], tBlk xb 30 [.string ⟨#[102]⟩, .int .i64 1, .int .i64 2, .slice sl1.a sl1.len sl1.cap]] := h
 refine Read_spec h hG (by decide) (fun r hr => by rw [read_no] at hr; cases hr) (fun e he fb w2 h => ?_)
 rw [read_no] at he
 cases he
 refine rt_copy h (sl := ⟨none, 0, 0⟩) fun xb2 w2 h => ?_
 have h : Hp [] w w2 ([tSl sl1 23 2 insv [(1, 7)], tBlk xb 30 [.string ⟨#[102]⟩, .int .i64 1, .int .i64 2, .slice sl1.a sl1.len sl1.cap], tFault fb 6] ++ [tBlk xb2 30 [.string ⟨#[]⟩, .int .i64 0, .int .i64 0, .slice none 0 0]]) := h
 have h := h.front
 refine fault_spec h 2 rfl fun w2 h => ?_
 have h := h.nil 30 4 rtv
 refine Effect_spec h 3 (u := tSl ⟨none, 0, 0⟩ 30 4 rtv []) rfl Hp.rdSl fun w2 h => ?_
 rw [show (effM 26 26 []).1 = 2 from rfl, show (effM 26 26 []).2 = 0 from rfl]
 have hS0 : RdS w2 ⟨none, 0, 0⟩ ([] : List SY) := ⟨[], [], rfl, by simp, ⟨[], SlR.nil rfl, by simp⟩, by simp⟩
 have hR0 : RdR w2 ⟨none, 0, 0⟩ ([] : List RT) := ⟨[], rfl, ⟨[], SlR.nil rfl⟩, by simp⟩
 refine Encode_spec (p := ⟨[], []⟩) hS0 hR0 ⟨by simp, by simp⟩ (fun _ s2 w3 h2 => ?_) (fun e => by cases e)
 have h := h.r0 (rest := [tB s2 (encPg ⟨[], []⟩)]) rfl h2
 have h : Hp [] w w3 [tSl sl1 23 2 insv [(1, 7)], tBlk xb 30 [.string ⟨#[102]⟩, .int .i64 1, .int .i64 2, .slice sl1.a sl1.len sl1.cap], tFault fb 6, tSl ⟨none, 0, 0⟩ 30 4 rtv [], tB s2 [0, 0]] := h
 clear h2 hS0 hR0
 -- Decode
 refine h.nwS (l := [0, 0, 0]) (f := u8v) (n := 1) (m := 3) rfl rfl u8v_len fun b3 w4 h => ?_
 have h := h.comm
 have hs3 : Src (tSl ⟨some ⟨b3, 0, none⟩, 3, 3⟩ 5 1 u8v [0, 0, 0]) ⟨some ⟨b3, 0, none⟩, 3, 3⟩ [0, 0, 0] := ⟨Hp.rdSl, by unfold Bytes; decide, by decide, rfl, Nat.le_refl _⟩
 refine Decode_spec h hs3 (fun p hp => by rw [pg_no] at hp; cases hp) (fun e he f2 w4 h => ?_)
 rw [pg_no] at he
 cases he
 refine pg_copy h (s1 := ⟨none, 0, 0⟩) (s2 := ⟨none, 0, 0⟩) fun pb w4 h => ?_
 have h : Hp [] w w4 ([tSl ⟨some ⟨b3, 0, none⟩, 3, 3⟩ 5 1 u8v [0, 0, 0], tSl sl1 23 2 insv [(1, 7)], tBlk xb 30 [.string ⟨#[102]⟩, .int .i64 1, .int .i64 2, .slice sl1.a sl1.len sl1.cap], tFault fb 6, tSl ⟨none, 0, 0⟩ 30 4 rtv [], tB s2 [0, 0], tFault f2 2] ++ [tBlk pb 37 [.slice none 0 0, .slice none 0 0]]) := h
 have h := h.front
 refine fault_spec h 6 rfl fun w4 h => ?_
 refine h.nwS (l := [0, 1, 1, 102, 0, 0, 1, 22]) (f := u8v) (n := 1) (m := 8) rfl rfl u8v_len fun b4 w5 h => ?_
 have h := h.comm
 have hs4 : Src (tSl ⟨some ⟨b4, 0, none⟩, 8, 8⟩ 5 1 u8v [0, 1, 1, 102, 0, 0, 1, 22]) ⟨some ⟨b4, 0, none⟩, 8, 8⟩ [0, 1, 1, 102, 0, 0, 1, 22] := ⟨Hp.rdSl, by unfold Bytes; decide, by decide, rfl, Nat.le_refl _⟩
 refine Decode_spec h hs4 (fun p hp q1 q2 w5 h => ?_) (fun e he => by rw [pg_yes] at he; cases he)
 rw [pg_yes] at hp
 cases hp
 refine pg_copy h (s1 := q1) (s2 := q2) fun qb w5 h => ?_
 have h : Hp [] w w5 [tSl ⟨some ⟨b4, 0, none⟩, 8, 8⟩ 5 1 u8v [0, 1, 1, 102, 0, 0, 1, 22], tSl ⟨some ⟨b3, 0, none⟩, 3, 3⟩ 5 1 u8v [0, 0, 0], tSl sl1 23 2 insv [(1, 7)], tBlk xb 30 [.string ⟨#[102]⟩, .int .i64 1, .int .i64 2, .slice sl1.a sl1.len sl1.cap], tFault fb 6, tSl ⟨none, 0, 0⟩ 30 4 rtv [], tB s2 [0, 0], tFault f2 2, tSyN q1 [], tFnN q2 [⟨⟨#[102]⟩, 0, 0, [(22, 0)]⟩], tBlk qb 37 [.slice q1.a q1.len q1.cap, .slice q2.a q2.len q2.cap]] := h
 refine ifT (by simp) ?_
 refine ⟨true, fun _ _ => by kernel_rfl, ifT rfl ?_⟩
 have hl1 := h.len (s := sl1) (e := 23) (n := 2) (f := insv) (l := [(1, 7)]) 2 rfl
 refine h.ld (n := 3) (k := .sl) (x := sl1) 3 rfl rfl ?_
 refine ifT (by rw [← hl1]; rfl) ?_
 refine h.ld (n := 3) (k := .sl) (x := sl1) 3 rfl rfl ?_
 refine h.ixr 2 (s := sl1) (l := [(1, 7)]) (f := insv) (n := 2) (e := 23) (j := 0) rfl (by decide) (y := (1, 7)) rfl insv_len fun ad hc => ?_
 refine ldR (k := .i .i64) (x := 7) (hc 1 (by decide)) rfl ?_
 refine ifT rfl (ifT rfl (ifT rfl (ifT rfl (ifT rfl (ifT rfl ?_)))))
 refine h.rdb 6 (u := tB s2 [0, 0]) rfl Hp.rdSl ⟨#[0, 0]⟩ rfl ?_
 refine ifT (by simp) (ifT rfl (ifT rfl (ifT rfl (ifT rfl ?_))))
 refine ⟨true, fun _ _ => by kernel_rfl, ifT rfl ?_⟩
 have hq := h.nest_see (e := 30) (n := 4) (cells := rtv) (sub := subI) (vis := RV.r) (s := q2) (l := [⟨⟨#[102]⟩, 0, 0, [(22, 0)]⟩]) 9 rfl
 refine h.ld (n := 1) (k := .sl) (x := q2) 10 rfl rfl ?_
 refine ifT (by rw [← hq.1]; rfl) ?_
 refine h.ld (n := 1) (k := .sl) (x := q2) 10 rfl rfl ?_
 obtain ⟨xs, hx, h⟩ := h.nest_open (i := 9) rfl
 obtain ⟨x, rfl⟩ : ∃ x, xs = [x] := List.length_eq_one_iff.1 (by simpa using congrArg List.length hx)
 have hxc : x.code = [(22, 0)] := by
  have : x.r = ⟨⟨#[102]⟩, 0, 0, [(22, 0)]⟩ := by simpa using hx
  exact congrArg RT.code this
 obtain ⟨O, O1, O2, g1, _⟩ := h.see (i := 11) (t := tAll [subI x]) rfl
 have hxl : x.code.length = x.sl.len := g1.1
 refine h.ixr 9 (s := q2) (l := [x]) (f := rtv) (n := 4) (e := 30) (j := 0) rfl (by decide) (y := x) rfl rtv_len fun ad hc => ?_
 refine ldR (k := .sl) (x := x.sl) (hc 3 (by decide)) rfl ?_
 refine ifT (by rw [← hxl, hxc]; rfl) ?_
 refine Name_spec h fun w6 h => ?_
 refine ifT (by rw [str_beq]; rfl) ?_
 refine Number_spec h fun w6 h => ?_
 exact hK w6 (frNil h.fr)
theorem shown_spec (h : Hp [] w0 w its) (hG : Glob w0) {K : Bool → World → Prop} (hK : ∀ w', Hp [] w0 w' its → K true w') : c8 w K :=
 shown0 (hG.fr h.fr) fun w' h2 => hK w' (h.keep h2.fr)
end
end Go.Proofs.YtmfgofbcnlkolaaGreatDoor.F
end

section
namespace Go.Proofs.YtmfgofbcnlkolaaGreatDoor.FW
open F
open Go Go.Den Go.Proofs Go.RowKit
theorem undI3 : Tryz.prog.underlying 3 = some (.int .i64) := by kernel_rfl
theorem cel9 : Tryz.prog.cellsOf 9 = 1 := by kernel_rfl
def pow10s : List Int := [1, 10, 100, 1000, 10000, 100000, 1000000, 10000000, 100000000, 1000000000, 10000000000, 100000000000, 1000000000000, 10000000000000, 100000000000000, 1000000000000000, 10000000000000000, 100000000000000000, 1000000000000000000, 10000000000000000000]
theorem gP : Tryz.prog.globalNamed "internal/strconv.uint64pow10" = some 1 := by kernel_rfl
theorem und39' : (match Tryz.prog.underlying 39 with | some (.interface _) => true | _ => false) = true := by kernel_rfl
theorem und39i : ∃ ms : Array (String × TypeId), Tryz.prog.underlying 39 = some (.interface ms) := by
 have h := und39'
 split at h
 ·exact ⟨_, by assumption⟩
 ·cases h
theorem starE : "*errors.errorString" = "*" ++ "errors.errorString" := by decide
theorem row191 (u : TypeId) (h : Tryz.prog.typeName? 3 u = some "*errors.errorString") : u = 191 :=
 typeName_ptr_named (nm := "errors.errorString") (by rw [← starE]; kernel_rfl) (by kernel_rfl) (by decide) u (by rw [← starE]; exact h)
theorem und191 : Tryz.prog.underlying 191 = some (.pointer 193) := by kernel_rfl
theorem und193 : Tryz.prog.underlying 193 = some (.struct #[⟨"s", 9, 0, false, "", "errors", 0⟩]) := by kernel_rfl
theorem cel193 : Tryz.prog.cellsOf 193 = 1 := by kernel_rfl
theorem gS : Tryz.prog.globalNamed "strconv.ErrSyntax" = some 2 := by kernel_rfl
theorem gR : Tryz.prog.globalNamed "strconv.ErrRange" = some 3 := by kernel_rfl
theorem gST : (Tryz.prog.globals[2]?).map (·.type) = some 39 := by kernel_rfl
theorem gRT : (Tryz.prog.globals[3]?).map (·.type) = some 39 := by kernel_rfl
theorem gPT : (Tryz.prog.globals[1]?).map (·.type) = some 165 := by kernel_rfl
theorem glob_of {w : World} (hs : w.ShapedOpen Tryz.prog) (ht : TabW w) (h2 : ∃ a : Addr, w.var? Tryz.prog "strconv.ErrSyntax" = some #[.iface 191 (.pointer (some a))]) (h3 : ∃ a : Addr, w.var? Tryz.prog "strconv.ErrRange" = some #[.iface 191 (.pointer (some a))]) : Glob w := by
 obtain ⟨a, ha⟩ := h2
 obtain ⟨b, hb⟩ := h3
 exact ⟨ht, cell_of_shapedOpen_int (g := 0) (t := 3) (zero := #[.int .i64 0]) hs (by rw [show Tryz.prog.globals.size = 8 by kernel_rfl]; decide) (by kernel_rfl) rfl (by kernel_rfl) (by kernel_rfl) undI3,
  ⟨.iface 191 (.pointer (some a)), World.var?_cell gS ha 0, .inr ⟨_, _, rfl⟩⟩,
  ⟨.iface 191 (.pointer (some b)), World.var?_cell gR hb 0, .inr ⟨_, _, rfl⟩⟩⟩
end Go.Proofs.YtmfgofbcnlkolaaGreatDoor.FW
end

section
namespace Go.Proofs.YtmfgofbcnlkolaaGreatDoor.F
open Go Go.Den Go.Proofs
theorem insNe {w : World} {x y : Operand} {a b c d : Int} {K : Bool → Prop} (hK : K (!decide ((a, b) = (c, d)))) : RunRo .b Tryz.prog (binSem .neq 23 x y (.agg #[.int .i64 a, .int .i64 b]) (.agg #[.int .i64 c, .int .i64 d])) w K := by
 refine runNe (r := (a == c && (b == d && true))) (by kernel_rfl) (by kernel_rfl) (by kernel_rfl) (by kernel_rfl) ?_
 have e : (a == c && (b == d && true)) = decide ((a, b) = (c, d)) := by
  rw [Bool.eq_iff_iff]; simp
 rw [e]; exact hK
section
variable {S : List Nat} {w0 w : World} {its rest : List Thing}
theorem same_spec (h : Hp S w0 w its) (i j : Nat) {u v : Thing} {s t : Sl} {l m : List Ins} (hi : (its[i]?).map Thing.holds = some u.holds) (hu : Hp.Reads u s 2 insv l) (hj : (its[j]?).map Thing.holds = some v.holds) (hv : Hp.Reads v t 2 insv m) (hl : l.length ≤ 140737488355328)
  {K : Bool → World → Prop} (hK : ∀ w', Hp S w0 w' its → K (decide (l = m)) w') : c65 s t w K := by
 refine c65_of ?_
 unfold f65
 have hls := h.lenU i hi hu
 have hms := h.lenU j hj hv
 by_cases hlen : l.length = m.length
 ·refine ifF (by simp; omega) ?_
  refine ⟨fun k mm w' => ∃ q : Nat, k = q ∧ q ≤ l.length ∧ mm = l.length - q ∧ l.take q = m.take q ∧ Hp S w0 w' its, ⟨_, 0, rfl, by omega, rfl, rfl, h⟩, ?_⟩
  clear h
  rintro k mm w1 ⟨q, rfl, hq, rfl, he, h⟩
  by_cases hend : q = l.length
  ·refine ifF (by simp; omega) ?_
   have e : l = m := by
    rw [List.take_of_length_le (by omega), List.take_of_length_le (by omega)] at he
    exact he
   have := hK w1 h
   rw [decide_eq_true e] at this
   exact this
  ·obtain ⟨x, hx⟩ : ∃ x, l[q]? = some x := ⟨l[q]'(by omega), List.getElem?_eq_getElem (by omega)⟩
   obtain ⟨y, hy⟩ : ∃ y, m[q]? = some y := ⟨m[q]'(by omega), List.getElem?_eq_getElem (by omega)⟩
   refine ifT (by simp; omega) ?_
   refine h.dr fun w1 h => ?_
   obtain ⟨O, hO⟩ := h.see' hi
   obtain ⟨o, hR⟩ := hu.rd hO
   obtain ⟨O2, hO2⟩ := h.see' hj
   obtain ⟨o2, hR2⟩ := hv.rd hO2
   refine SlR.ix insv_len hR (by omega) (x := x) (by rw [Int.toNat_natCast]; exact hx) fun ad hc => ?_
   refine ldR0 (k := .i .i64) (x := x.1) (hc 0 (by omega)) rfl ?_
   refine ldR (k := .i .i64) (x := x.2) (hc 1 (by omega)) rfl ?_
   refine SlR.ix insv_len hR2 (by omega) (x := y) (by rw [Int.toNat_natCast]; exact hy) fun ad hc => ?_
   refine ldR0 (k := .i .i64) (x := y.1) (hc 0 (by omega)) rfl ?_
   refine ldR (k := .i .i64) (x := y.2) (hc 1 (by omega)) rfl ?_
   refine insNe ?_
   by_cases hxy : x = y
   ·subst hxy
    refine ifF (by simp) ⟨l.length - (q + 1), by omega, q + 1, by rw [wr64 (by omega) (by omega)]; omega, by omega, rfl, ?_, h⟩
    rw [List.take_add_one, List.take_add_one, hx, hy, he]
   ·have hne : (!decide ((x.1, x.2) = (y.1, y.2))) = true := by
     rw [decide_eq_false fun e => hxy e]; rfl
    refine ifT hne ?_
    have := hK w1 h
    rw [decide_eq_false fun e => hxy (by rw [e, hy] at hx; exact (Option.some.inj hx).symm)] at this
    exact this
 ·refine ifT (by simp; omega) ?_
  have := hK w h
  rw [decide_eq_false fun e => hlen (by rw [e])] at this
  exact this
theorem setsEq_spec (h : Hp S w0 w its) (i j : Nat) {u v : Thing} {s t : Sl} {l m : List Int} (hi : (its[i]?).map Thing.holds = some u.holds) (hu : Hp.Reads u s 1 iv l) (hj : (its[j]?).map Thing.holds = some v.holds) (hv : Hp.Reads v t 1 iv m) (hl : l.length ≤ 140737488355328)
  {K : Bool → World → Prop} (hK : ∀ w', Hp S w0 w' its → K (decide (l = m)) w') : c41 s t w K := by
 refine c41_of ?_
 unfold f41
 have hls := h.lenU i hi hu
 have hms := h.lenU j hj hv
 by_cases hlen : l.length = m.length
 ·refine ifF (by simp; omega) ?_
  refine ⟨fun k mm w' => ∃ q : Nat, k = q ∧ q ≤ l.length ∧ mm = l.length - q ∧ l.take q = m.take q ∧ Hp S w0 w' its, ⟨_, 0, rfl, by omega, rfl, rfl, h⟩, ?_⟩
  clear h
  rintro k mm w1 ⟨q, rfl, hq, rfl, he, h⟩
  by_cases hend : q = l.length
  ·refine ifF (by simp; omega) ?_
   have e : l = m := by
    rw [List.take_of_length_le (by omega), List.take_of_length_le (by omega)] at he
    exact he
   have := hK w1 h
   rw [decide_eq_true e] at this
   exact this
  ·obtain ⟨x, hx⟩ : ∃ x, l[q]? = some x := ⟨l[q]'(by omega), List.getElem?_eq_getElem (by omega)⟩
   obtain ⟨y, hy⟩ : ∃ y, m[q]? = some y := ⟨m[q]'(by omega), List.getElem?_eq_getElem (by omega)⟩
   refine ifT (by simp; omega) ?_
   refine h.dr fun w1 h => ?_
   obtain ⟨O, hO⟩ := h.see' hi
   obtain ⟨o, hR⟩ := hu.rd hO
   obtain ⟨O2, hO2⟩ := h.see' hj
   obtain ⟨o2, hR2⟩ := hv.rd hO2
   refine SlR.ix iv_len hR (by omega) (x := x) (by rw [Int.toNat_natCast]; exact hx) fun ad hc => ?_
   refine ldR0 (k := .i .i64) (x := x) (hc 0 (by omega)) rfl ?_
   refine SlR.ix iv_len hR2 (by omega) (x := y) (by rw [Int.toNat_natCast]; exact hy) fun ad hc => ?_
   refine ldR0 (k := .i .i64) (x := y) (hc 0 (by omega)) rfl ?_
   by_cases hxy : x = y
   ·subst hxy
    refine ifF (by simp) ⟨l.length - (q + 1), by omega, q + 1, by rw [wr64 (by omega) (by omega)]; omega, by omega, rfl, ?_, h⟩
    rw [List.take_add_one, List.take_add_one, hx, hy, he]
   ·refine ifT (by simpa using hxy) ?_
    have := hK w1 h
    rw [decide_eq_false fun e => hxy (by rw [e, hy] at hx; exact (Option.some.inj hx).symm)] at this
    exact this
 ·refine ifT (by simp; omega) ?_
  have := hK w h
  rw [decide_eq_false fun e => hlen (by rw [e])] at this
  exact this
theorem rt_eq {a b : RT} : a = b ↔ a.code = b.code ∧ a.nm = b.nm ∧ a.pa = b.pa ∧ a.lo = b.lo := by
 obtain ⟨a1, a2, a3, a4⟩ := a
 obtain ⟨b1, b2, b3, b4⟩ := b
 simp only [RT.mk.injEq]
 exact ⟨fun ⟨p, q, r, s⟩ => ⟨s, p, q, r⟩, fun ⟨p, q, r, s⟩ => ⟨q, r, s, p⟩⟩
theorem routines_spec (h : Hp S w0 w its) (i j : Nat) {u v : Thing} {x y : RV} (hi : (its[i]?).map Thing.holds = some u.holds) (hu : Hp.Reads u x.sl 2 insv x.code) (hj : (its[j]?).map Thing.holds = some v.holds) (hv : Hp.Reads v y.sl 2 insv y.code) (hl : x.code.length ≤ 140737488355328)
  {K : Bool → World → Prop} (hK : ∀ (r : Bool) w', (r = true ↔ x.r = y.r) → Hp S w0 w' its → K r w') : c29 x.nm x.pa x.lo x.sl y.nm y.pa y.lo y.sl w K := by
 refine c29_of ?_
 unfold f29
 have hjl : j < its.length := by
  rcases Nat.lt_or_ge j its.length with h1 | h1
  ·exact h1
  ·rw [List.getElem?_eq_none h1] at hj; cases hj
 have hil : i < its.length := by
  rcases Nat.lt_or_ge i its.length with h1 | h1
  ·exact h1
  ·rw [List.getElem?_eq_none h1] at hi; cases hi
 refine h.nw fun a w1 h => ?_
 refine h.nw fun b w1 h => ?_
 have hA : ∀ {t : Thing}, ((its ++ [tBlk a 30 (rtv x)] ++ [t])[its.length]?).map Thing.holds = some (tBlk a 30 (rtv x)).holds := fun {t} => by rw [mid1]; rfl
 have hB : ((its ++ [tBlk a 30 (rtv x)] ++ [tBlk b 30 (rtv y)])[(its ++ [tBlk a 30 (rtv x)]).length]?).map Thing.holds = some (tBlk b 30 (rtv y)).holds := by rw [List.getElem?_concat_length]; rfl
 have h : Hp S w0 w1 (its ++ [tBlk a 30 (rtv x)] ++ [tBlk b 30 (rtv y)]) := h
 refine h.ld (n := 3) (k := .sl) (x := x.sl) _ hA rfl ?_
 refine h.ld (n := 3) (k := .sl) (x := y.sl) _ hB rfl ?_
 refine same_spec h i j (u := u) (v := v) (by rw [List.append_assoc, List.getElem?_append_left hil]; exact hi) hu (by rw [List.append_assoc, List.getElem?_append_left hjl]; exact hj) hv hl fun w1 h => ?_
 have no : ¬ x.r = y.r → K false w1 := fun hn => hK false w1 ⟨(fun e => by cases e), fun e => absurd e hn⟩ h.front.front
 by_cases h1 : x.code = y.code
 ·refine ifT (by simpa using h1) ?_
  refine h.ld0 (k := .s) (x := x.nm) _ hA rfl ?_
  refine h.ld0 (k := .s) (x := y.nm) _ hB rfl ?_
  by_cases h2 : x.nm = y.nm
  ·refine ifT (by rw [h2]; simp) ?_
   refine h.ld (n := 1) (k := .i .i64) (x := x.pa) _ hA rfl ?_
   refine h.ld (n := 1) (k := .i .i64) (x := y.pa) _ hB rfl ?_
   by_cases h3 : x.pa = y.pa
   ·refine ifT (by rw [h3]; simp) ?_
    refine h.ld (n := 2) (k := .i .i64) (x := x.lo) _ hA rfl ?_
    refine h.ld (n := 2) (k := .i .i64) (x := y.lo) _ hB rfl ?_
    refine hK _ w1 ?_ h.front.front
    rw [rt_eq]
    simp [RV.r, h1, h2, h3]
   ·exact ifF (by simpa using h3) (no fun e => h3 (congrArg RT.pa e))
  ·refine ifF ?_ (no fun e => h2 (congrArg RT.nm e))
   rw [str_beq]
   simpa using fun e => h2 (strL_inj e)
 ·exact ifF (by simpa using h1) (no fun e => h1 (congrArg RT.code e))
end
abbrev slv (s : Sl) : List Value := [.slice s.a s.len s.cap]
theorem und50 : Tryz.prog.underlying 50 = some (.slice 28) := by kernel_rfl
theorem inf28 : ∃ inf : TypeInfo, Tryz.prog.info? 28 = some inf ∧ inf.zero = some (.slice none 0 0) ∧ inf.size = 1 ∧ inf.bytes = 24 := infoP (by kernel_rfl)
abbrev y0 : Ins := (-1000, 0)
section
variable {S : List Nat} {w0 w : World} {its rest : List Thing}
end
theorem sy_eq {a b : SY} : a = b ↔ a.A = b.A ∧ a.B = b.B ∧ a.C = b.C ∧ a.D = b.D ∧ a.run = b.run := by
 obtain ⟨a1, a2, a3, a4, a5⟩ := a
 obtain ⟨b1, b2, b3, b4, b5⟩ := b
 simp only [SY.mk.injEq]
theorem map_getE {α β : Type} {f : α → β} {l : List α} {k : Nat} {x : α} (h : l[k]? = some x) : (l.map f)[k]? = some (f x) := by rw [List.getElem?_map, h]; rfl
theorem take_eq_step {α : Type} {l m : List α} {k : Nat} {x y : α} (h : l.take k = m.take k) (hx : l[k]? = some x) (hy : m[k]? = some y) (e : x = y) : l.take (k + 1) = m.take (k + 1) := by
 rw [List.take_add_one, List.take_add_one, hx, hy, h, e]
theorem ne_at {α : Type} {l m : List α} {k : Nat} {x y : α} (hx : l[k]? = some x) (hy : m[k]? = some y) (e : x ≠ y) : l ≠ m := fun h => by
 rw [h, hy] at hx
 exact e (Option.some.inj hx).symm
set_option maxHeartbeats 4000000 in
theorem programs_spec {w : World} {s1 s2 t1 t2 : Sl} {p q : PG} (hs : RdS w s1 p.sys) (hr : RdR w s2 p.fns) (hs' : RdS w t1 q.sys) (hr' : RdR w t2 q.fns) (hok : p.Ok) (hn1 : p.sys.length ≤ 140737488355328) (hn2 : p.fns.length ≤ 140737488355328) {K : Bool → World → Prop}
  (hK : ∀ (r : Bool) w', (r = true ↔ p = q) → Hp [] w w' [] → K r w') : c18 s1 s2 t1 t2 w K := by
 refine c18_of ?_
 unfold f18
 obtain ⟨ss, fs⟩ := p
 obtain ⟨ss', fs'⟩ := q
 obtain ⟨xs, O1, rfl, h1⟩ := hs
 obtain ⟨ys, O2, rfl, h2⟩ := hr.thing
 obtain ⟨xs', O3, rfl, h3⟩ := hs'
 obtain ⟨ys', O4, rfl, h4⟩ := hr'.thing
 rw [List.length_map] at hn1 hn2
 have hS : ∀ x ∈ xs, x.m.Ok := fun x hx => hok.sys _ (List.mem_map_of_mem hx)
 have hF : ∀ y ∈ ys, y.r.Ok := fun y hy => hok.fns _ (List.mem_map_of_mem hy)
 have h : Hp [] w w [(tSys s1 xs).ro, (tRts s2 ys).ro, (tSys t1 xs').ro, (tRts t2 ys').ro] := ((((Hp.init w).addRo h1 (by simp)).addRo h2 (by simp)).addRo h3 (by simp)).addRo h4 (by simp)
 have e1 := h.lenU (u := (tSys s1 xs).ro) 0 rfl sys_reads
 have e2 := h.lenU (u := (tRts s2 ys).ro) 1 rfl rts_reads
 have e3 := h.lenU (u := (tSys t1 xs').ro) 2 rfl sys_reads
 have e4 := h.lenU (u := (tRts t2 ys').ro) 3 rfl rts_reads
 refine h.nw fun ab w1 h => ?_
 refine h.nw fun bb w1 h => ?_
 obtain ⟨its, hits⟩ : ∃ its, its = [(tSys s1 xs).ro, (tRts s2 ys).ro, (tSys t1 xs').ro, (tRts t2 ys').ro, tBlk ab 37 [.slice s1.a s1.len s1.cap, .slice s2.a s2.len s2.cap], tBlk bb 37 [.slice t1.a t1.len t1.cap, .slice t2.a t2.len t2.cap]] := ⟨_, rfl⟩
 have h : Hp [] w w1 its := by rw [hits]; exact h
 have bare : ∀ {w' : World}, Hp [] w w' its → Hp [] w w' [] := fun {w'} h => frNil h.fr
 have no : ∀ {w' : World}, ¬ ((⟨xs.map SV.m, ys.map RV.r⟩ : PG) = ⟨xs'.map SV.m, ys'.map RV.r⟩) → Hp [] w w' its → K false w' := fun {w'} hn h => hK false w' ⟨(fun e => by cases e), fun e => absurd e hn⟩ (bare h)
 have la : ∀ {w' : World} {B : List Thing} {G : Sl → Prop}, Hp [] w w' (its ++ B) → G s1 → Ld .sl w' ⟨ab, 0, none⟩ G := fun {w' B G} h hG => by rw [hits] at h; exact h.ld0 (k := .sl) (x := s1) 4 rfl rfl hG
 have la1 : ∀ {w' : World} {B : List Thing} {G : Sl → Prop}, Hp [] w w' (its ++ B) → G s2 → Ld .sl w' ((⟨ab, 0, none⟩ : Addr).add 1) G := fun {w' B G} h hG => by rw [hits] at h; exact h.ld (n := 1) (k := .sl) (x := s2) 4 rfl rfl hG
 have lb : ∀ {w' : World} {B : List Thing} {G : Sl → Prop}, Hp [] w w' (its ++ B) → G t1 → Ld .sl w' ⟨bb, 0, none⟩ G := fun {w' B G} h hG => by rw [hits] at h; exact h.ld0 (k := .sl) (x := t1) 5 rfl rfl hG
 have lb1 : ∀ {w' : World} {B : List Thing} {G : Sl → Prop}, Hp [] w w' (its ++ B) → G t2 → Ld .sl w' ((⟨bb, 0, none⟩ : Addr).add 1) G := fun {w' B G} h hG => by rw [hits] at h; exact h.ld (n := 1) (k := .sl) (x := t2) 5 rfl rfl hG
 have app0 : ∀ {w' : World}, Hp [] w w' its → Hp [] w w' (its ++ []) := fun h => by rw [List.append_nil]; exact h
 refine ⟨fun w' => xs.length = xs'.length ∧ ys.length = ys'.length ∧ Hp [] w w' its, ?_, ?_⟩
 ·refine la (app0 h) (lb (app0 h) ?_)
  by_cases hl : xs.length = xs'.length
  ·refine ifF (by simp; omega) ?_
   refine la1 (app0 h) (lb1 (app0 h) ?_)
   by_cases hl2 : ys.length = ys'.length
   ·exact ifF (by simp; omega) ⟨hl, hl2, h⟩
   ·exact ifT (by simp; omega) (no (fun e => hl2 (by have := congrArg (fun p : PG => p.fns.length) e; simpa using this)) h)
  ·exact ifT (by simp; omega) (no (fun e => hl (by have := congrArg (fun p : PG => p.sys.length) e; simpa using this)) h)
 clear h
 rintro w2 ⟨hl, hl2, h⟩
 refine ⟨fun i m w' => ∃ k : Nat, i = k ∧ k ≤ xs.length ∧ m = xs.length - k ∧ (xs.map SV.m).take k = (xs'.map SV.m).take k ∧ Hp [] w w' its, ⟨_, 0, rfl, by omega, rfl, rfl, h⟩, ?_⟩
 clear h
 rintro i m w3 ⟨k, rfl, hk, rfl, ht, h⟩
 refine la (app0 h) ?_
 by_cases hend : k = xs.length
 ·refine ifF (by simp; omega) ?_
  have hxx : xs.map SV.m = xs'.map SV.m := by
   rw [List.take_of_length_le (by simp; omega), List.take_of_length_le (by simp; omega)] at ht
   exact ht
  refine ⟨fun i m w' => ∃ k : Nat, i = k ∧ k ≤ ys.length ∧ m = ys.length - k ∧ (ys.map RV.r).take k = (ys'.map RV.r).take k ∧ Hp [] w w' its, ⟨_, 0, rfl, by omega, rfl, rfl, h⟩, ?_⟩
  clear h
  rintro i m w4 ⟨j, rfl, hj, rfl, ht2, h⟩
  refine la1 (app0 h) ?_
  by_cases hend2 : j = ys.length
  ·refine ifF (by simp; omega) ?_
   have hyy : ys.map RV.r = ys'.map RV.r := by
    rw [List.take_of_length_le (by simp; omega), List.take_of_length_le (by simp; omega)] at ht2
    exact ht2
   exact hK true w4 ⟨fun _ => by rw [hxx, hyy], fun _ => rfl⟩ (bare h)
  ·obtain ⟨y, hy⟩ : ∃ y, ys[j]? = some y := ⟨ys[j]'(by omega), List.getElem?_eq_getElem (by omega)⟩
   obtain ⟨z, hz⟩ : ∃ z, ys'[j]? = some z := ⟨ys'[j]'(by omega), List.getElem?_eq_getElem (by omega)⟩
   have hym := List.mem_of_getElem? hy
   have hzm := List.mem_of_getElem? hz
   refine ifT (by simp; omega) ?_
   refine h.dr fun w4 h => ?_
   refine la1 (app0 h) ?_
   refine rts_ld h 1 (by rw [hits]; rfl) hy ?_
   refine lb1 (app0 h) ?_
   refine rts_ld h 3 (by rw [hits]; rfl) hz ?_
   refine routines_spec (x := y) (y := z) h 1 3 (u := (tRts s2 ys).ro) (v := (tRts t2 ys').ro) (by rw [hits]; rfl) (rts_code hym) (by rw [hits]; rfl) (rts_code hzm) (hF y hym).len fun ok w4 hok h => ?_
   by_cases he : y.r = z.r
   ·obtain rfl := hok.2 he
    refine ifF (by decide) ?_
    exact ⟨ys.length - (j + 1), by omega, j + 1, by rw [wr64 (by omega) (by omega)]; omega, by omega, rfl, take_eq_step ht2 (map_getE hy) (map_getE hz) he, h⟩
   ·have : ok = false := by
     cases ok
     ·rfl
     ·exact absurd (hok.1 rfl) he
    subst this
    exact ifT rfl (no (fun e => ne_at (map_getE (f := RV.r) hy) (map_getE hz) he (congrArg PG.fns e)) h)
 ·obtain ⟨x, hx⟩ : ∃ x, xs[k]? = some x := ⟨xs[k]'(by omega), List.getElem?_eq_getElem (by omega)⟩
  obtain ⟨z, hz⟩ : ∃ z, xs'[k]? = some z := ⟨xs'[k]'(by omega), List.getElem?_eq_getElem (by omega)⟩
  have hxm := List.mem_of_getElem? hx
  have hzm := List.mem_of_getElem? hz
  have hxl := (hS x hxm).lens
  refine ifT (by simp; omega) ?_
  refine la (app0 h) ?_
  refine sys_ld h 0 (by rw [hits]; rfl) hx ?_
  refine sys_copy h x fun xb w3 h => ?_
  refine lb h ?_
  refine sys_ld h 2 (by rw [hits]; rfl) hz ?_
  refine sys_copy h z fun yb w3 h => ?_
  have h : Hp [] w w3 (its ++ ([tBlk xb 54 (syv x)] ++ [tBlk yb 54 (syv z)])) := by rw [← List.append_assoc]; exact h
  have g0 : ∀ {w' : World}, Hp [] w w' (its ++ ([tBlk xb 54 (syv x)] ++ [tBlk yb 54 (syv z)])) → Hp [] w w' its := fun h => h.front
  obtain ⟨its2, hits2⟩ : ∃ its2, its2 = its ++ ([tBlk xb 54 (syv x)] ++ [tBlk yb 54 (syv z)]) := ⟨_, rfl⟩
  rw [← hits2] at h g0
  have n6 : its.length = 6 := by rw [hits]; rfl
  have i0 : (its2[0]?).map Thing.holds = some (tSys s1 xs).ro.holds := by rw [hits2, hits]; rfl
  have i2 : (its2[2]?).map Thing.holds = some (tSys t1 xs').ro.holds := by rw [hits2, hits]; rfl
  have i6 : (its2[6]?).map Thing.holds = some (tBlk xb 54 (syv x)).holds := by rw [hits2, hits]; rfl
  have i7 : (its2[7]?).map Thing.holds = some (tBlk yb 54 (syv z)).holds := by rw [hits2, hits]; rfl
  refine ⟨fun one w' => (one = true ↔ x.A = z.A ∧ x.B = z.B ∧ x.C = z.C ∧ x.D = z.D) ∧ Hp [] w w' its2, ?_, ?_⟩
  ·refine h.ld0 (k := .sl) (x := x.a) 6 i6 rfl ?_
   refine h.ld0 (k := .sl) (x := z.a) 7 i7 rfl ?_
   refine setsEq_spec h 0 2 i0 (sys_set hxm (y := (x.a, x.A)) (by simp [SV.sls])) i2 (sys_set hzm (y := (z.a, z.A)) (by simp [SV.sls])) (hxl _ (by simp [SV.m, SY.sets])) fun w3 h => ?_
   by_cases d1 : x.A = z.A
   ·refine ifT (by simpa using d1) ?_
    refine h.ld (n := 1) (k := .sl) (x := x.b) 6 i6 rfl ?_
    refine h.ld (n := 1) (k := .sl) (x := z.b) 7 i7 rfl ?_
    refine setsEq_spec h 0 2 i0 (sys_set hxm (y := (x.b, x.B)) (by simp [SV.sls])) i2 (sys_set hzm (y := (z.b, z.B)) (by simp [SV.sls])) (hxl _ (by simp [SV.m, SY.sets])) fun w3 h => ?_
    by_cases d2 : x.B = z.B
    ·refine ifT (by simpa using d2) ?_
     refine h.ld (n := 2) (k := .sl) (x := x.c) 6 i6 rfl ?_
     refine h.ld (n := 2) (k := .sl) (x := z.c) 7 i7 rfl ?_
     refine setsEq_spec h 0 2 i0 (sys_set hxm (y := (x.c, x.C)) (by simp [SV.sls])) i2 (sys_set hzm (y := (z.c, z.C)) (by simp [SV.sls])) (hxl _ (by simp [SV.m, SY.sets])) fun w3 h => ?_
     by_cases d3 : x.C = z.C
     ·refine ifT (by simpa using d3) ?_
      refine h.ld (n := 3) (k := .sl) (x := x.d) 6 i6 rfl ?_
      refine h.ld (n := 3) (k := .sl) (x := z.d) 7 i7 rfl ?_
      refine setsEq_spec h 0 2 i0 (sys_set hxm (y := (x.d, x.D)) (by simp [SV.sls])) i2 (sys_set hzm (y := (z.d, z.D)) (by simp [SV.sls])) (hxl _ (by simp [SV.m, SY.sets])) fun w3 h => ?_
      exact ⟨by simp [d1, d2, d3], h⟩
     ·exact ifF (by simpa using d3) ⟨by simp [d3], h⟩
    ·exact ifF (by simpa using d2) ⟨by simp [d2], h⟩
   ·exact ifF (by simpa using d1) ⟨by simp [d1], h⟩
  clear h
  rintro one w5 ⟨hone, h⟩
  refine h.lda (n := 4) (m := 0) (k := .s) (x := x.run.nm) 6 i6 rfl ?_
  refine h.lda (n := 4) (m := 1) (k := .i .i64) (x := x.run.pa) 6 i6 rfl ?_
  refine h.lda (n := 4) (m := 2) (k := .i .i64) (x := x.run.lo) 6 i6 rfl ?_
  refine h.lda (n := 4) (m := 3) (k := .sl) (x := x.run.sl) 6 i6 rfl ?_
  refine h.lda (n := 4) (m := 0) (k := .s) (x := z.run.nm) 7 i7 rfl ?_
  refine h.lda (n := 4) (m := 1) (k := .i .i64) (x := z.run.pa) 7 i7 rfl ?_
  refine h.lda (n := 4) (m := 2) (k := .i .i64) (x := z.run.lo) 7 i7 rfl ?_
  refine h.lda (n := 4) (m := 3) (k := .sl) (x := z.run.sl) 7 i7 rfl ?_
  refine routines_spec (x := x.run) (y := z.run) h 0 2 i0 (sys_code hxm) i2 (sys_code hzm) (hS x hxm).run.len fun two w5 h2 h => ?_
  by_cases he : x.m = z.m
  ·have he' := sy_eq.1 he
   obtain rfl := hone.2 ⟨he'.1, he'.2.1, he'.2.2.1, he'.2.2.2.1⟩
   obtain rfl := h2.2 he'.2.2.2.2
   refine ifF (by decide) ?_
   exact ⟨xs.length - (k + 1), by omega, k + 1, by rw [wr64 (by omega) (by omega)]; omega, by omega, rfl, take_eq_step ht (map_getE hx) (map_getE hz) he, g0 h⟩
  ·have hb : cond (!one) true (!two) = true := by
    cases h1 : one
    ·rfl
    ·cases h2' : two
     ·rfl
     ·exfalso
      have a1 := hone.1 h1
      exact he (sy_eq.2 ⟨a1.1, a1.2.1, a1.2.2.1, a1.2.2.2, h2.1 h2'⟩)
   exact ifT hb (no (fun e => ne_at (map_getE (f := SV.m) hx) (map_getE hz) he (congrArg PG.sys e)) (g0 h))
def Stands (l : List Int) (a : Nat) (e : List Int) : Prop := l.drop a = e ++ l.drop (a + e.length)
theorem Stands.app {l : List Int} {a : Nat} {e f : List Int} : Stands l a (e ++ f) ↔ Stands l a e ∧ Stands l (a + e.length) f := by
 unfold Stands
 constructor
 ·intro h
  have h2 : l.drop (a + e.length) = f ++ l.drop (a + (e ++ f).length) := by
   rw [← List.drop_drop, h, List.append_assoc, List.drop_left]
  refine ⟨by rw [h2, ← List.append_assoc]; exact h, ?_⟩
  rw [h2, List.length_append]
  congr 2
  omega
 ·rintro ⟨h1, h2⟩
  rw [h1, h2, List.append_assoc, List.length_append]
  congr 3
  omega
theorem Stands.nil {l : List Int} {a : Nat} : Stands l a [] := by unfold Stands; simp
theorem bnd_inv {α β : Type} {x : DR α} {f : α → Nat → Except Nat β} {z : β} (h : bnd x f = .ok z) : ∃ y n, x = .ok (y, n) ∧ f y n = .ok z := by
 match x with
 | .error e => cases h
 | .ok (y, n) => exact ⟨y, n, rfl, h⟩
theorem stands_getU {l : List Int} {a : Nat} (hb : Bytes l) (hk : (getU (l.drop a)).2 ≠ 0) : Stands l a (putU (getU (l.drop a)).1) ∧ (putU (getU (l.drop a)).1).length = (getU (l.drop a)).2.toNat := by
 have hbd : Bytes (l.drop a) := fun x hx => hb x (List.mem_of_mem_drop hx)
 have h1 := getU_back hbd hk
 obtain ⟨r1, r2, r3, r4, r5, r6⟩ := getU_range hbd
 have h2 : (putU (getU (l.drop a)).1).length = (getU (l.drop a)).2.toNat := by
  rw [h1, List.length_take]; omega
 refine ⟨?_, h2⟩
 unfold Stands
 rw [h2, h1, ← List.drop_drop, List.take_append_drop]
theorem num_of {l : List Int} {least most x : Int} {a a' : Nat} (hb : Bytes l) (h : numD l least most a = .ok (x, a')) : least ≤ x ∧ x ≤ most ∧ 0 ≤ x ∧ Stands l a (putU x) ∧ a' = a + (putU x).length := by
 obtain ⟨h1, h2, h3, _, _, h4, h5, h6⟩ := numD_ok hb h
 obtain ⟨s1, s2⟩ := stands_getU hb h6
 rw [← h4] at s1 s2
 exact ⟨h1, h2, h3, s1, by rw [s2, h5]⟩
theorem int_of {l : List Int} {x : Int} {a a' : Nat} (hb : Bytes l) (h : intD l a = .ok (x, a')) : (-9223372036854775808 ≤ x ∧ x ≤ 9223372036854775807) ∧ Stands l a (putU (zig x)) ∧ a' = a + (putU (zig x)).length := by
 obtain ⟨_, _, h3⟩ := intD_ok hb h
 refine ⟨h3, ?_⟩
 unfold intD at h
 split at h
 ·cases h
 ·rename_i hn
  simp only [Except.ok.injEq, Prod.mk.injEq] at h
  unfold getI at hn h
  dsimp only at hn h
  obtain ⟨s1, s2⟩ := stands_getU hb hn
  obtain ⟨r1, _⟩ := getU_range (l := l.drop a) (fun x hx => hb x (List.mem_of_mem_drop hx))
  have e : (getU (l.drop a)).1 = zig x := by rw [← h.1, zig_zag r1]
  rw [e] at s1 s2
  exact ⟨s1, by rw [s2, ← h.2]⟩
theorem text_of {l : List Int} {s : ByteArray} {a a' : Nat} (hb : Bytes l) (h : textD l a = .ok (s, a')) : (1 ≤ s.size ∧ s.size ≤ 16) ∧ Stands l a (encT s) ∧ a' = a + (encT s).length := by
 obtain ⟨_, _, h3, h4⟩ := textD_ok hb h
 refine ⟨⟨h3, h4⟩, ?_⟩
 have hbd : Bytes (l.drop a) := fun x hx => hb x (List.mem_of_mem_drop hx)
 unfold textD at h
 split at h
 ·cases h
 ·rename_i hn
  simp only [Except.ok.injEq, Prod.mk.injEq] at h
  unfold getT at hn h
  split at hn
  ·simp at hn
  ·rename_i hq
   rw [if_neg hq] at h
   dsimp only at h
   obtain ⟨s1, s2⟩ := stands_getU hb (a := a) (by omega)
   obtain ⟨r1, r2, r3, r4, r5, r6⟩ := getU_range hbd
   have e1 : strL s = ((l.drop a).drop (getU (l.drop a)).2.toNat).take (getU (l.drop a)).1.toNat := by
    rw [← h.1, strL_of (bytes_take (bytes_drop hbd _) _)]
   have e2 : s.size = (getU (l.drop a)).1.toNat := by
    rw [← strL_size, e1, List.length_take, List.length_drop]; omega
   have e3 : ((s.size : Nat) : Int) = (getU (l.drop a)).1 := by omega
   unfold encT
   rw [e3, Stands.app, List.length_append, strL_size, e2]
   refine ⟨⟨s1, ?_⟩, by omega⟩
   unfold Stands
   rw [strL_size, e2, e1, s2, List.drop_drop]
   have := (List.take_append_drop (getU (l.drop a)).1.toNat (l.drop (a + (getU (l.drop a)).2.toNat))).symm
   rw [List.drop_drop] at this
   exact this
def GoodI (x : Ins) : Prop := insOk x = true ∧ -9223372036854775808 ≤ x.2 ∧ x.2 ≤ 9223372036854775807
theorem ins_of {l : List Int} {x : Ins} {a a' : Nat} (hb : Bytes l) (h : insD l a = .ok (x, a')) : GoodI x ∧ Stands l a (encIns x) ∧ a' = a + (encIns x).length := by
 unfold insD at h
 obtain ⟨op, a1, h1, h⟩ := bnd_inv h
 obtain ⟨n1, n2, n3, n4, n5⟩ := num_of hb h1
 have hop : isOpM op = true := by unfold isOpM; rw [decide_eq_true_iff]; omega
 by_cases hn : (row op).num = true
 ·rw [if_pos hn] at h
  obtain ⟨v, a2, h2, h⟩ := bnd_inv h
  obtain ⟨m1, m2, m3⟩ := int_of hb h2
  cases h
  refine ⟨⟨insOk_iff.2 ⟨hop, .inl hn⟩, m1.1, m1.2⟩, ?_⟩
  unfold encIns
  rw [if_pos hn, Stands.app, List.length_append]
  subst n5 m3
  exact ⟨⟨n4, m2⟩, by dsimp only; omega⟩
 ·rw [if_neg hn] at h
  cases h
  refine ⟨⟨insOk_iff.2 ⟨hop, .inr rfl⟩, by show (-9223372036854775808 : Int) ≤ 0; decide, by show (0 : Int) ≤ 9223372036854775807; decide⟩, ?_⟩
  unfold encIns
  rw [if_neg hn, List.append_nil]
  exact ⟨n4, n5⟩
theorem code_of {l : List Int} (hb : Bytes l) : ∀ {k : Nat} {c : List Ins} {a a' : Nat}, codeF l k a = .ok (c, a') → c.length = k ∧ (∀ x ∈ c, GoodI x) ∧ Stands l a (c.flatMap encIns) ∧ a' = a + (c.flatMap encIns).length
 | 0, c, a, a', h => by
  rw [codeF] at h
  cases h
  exact ⟨rfl, by simp, Stands.nil, rfl⟩
 | k + 1, c, a, a', h => by
  rw [codeF] at h
  obtain ⟨x, a1, h1, h⟩ := bnd_inv h
  obtain ⟨r, a2, h2, h⟩ := bnd_inv h
  cases h
  obtain ⟨g1, g2, g3⟩ := ins_of hb h1
  subst g3
  obtain ⟨q1, q2, q3, q4⟩ := code_of hb h2
  subst q4
  refine ⟨by rw [List.length_cons, q1], fun y hy => ?_, ?_, ?_⟩
  ·rcases List.mem_cons.1 hy with rfl | hy
   ·exact g1
   ·exact q2 y hy
  ·rw [List.flatMap_cons, Stands.app]; exact ⟨g2, q3⟩
  ·rw [List.flatMap_cons, List.length_append]; omega
theorem setF_of {l : List Int} (hb : Bytes l) : ∀ {k : Nat} {s : List Int} {last : Int} {a a' : Nat}, setF l k last a = .ok (s, a') → s.length = k ∧ risesF last s = true ∧ Stands l a (s.flatMap putU) ∧ a' = a + (s.flatMap putU).length
 | 0, s, last, a, a', h => by
  rw [setF] at h
  cases h
  exact ⟨rfl, rfl, Stands.nil, rfl⟩
 | k + 1, s, last, a, a', h => by
  rw [setF] at h
  obtain ⟨x, a1, h1, h⟩ := bnd_inv h
  obtain ⟨r, a2, h2, h⟩ := bnd_inv h
  cases h
  obtain ⟨g1, g2, _, g3, g4⟩ := num_of hb h1
  subst g4
  obtain ⟨q1, q2, q3, q4⟩ := setF_of hb h2
  subst q4
  refine ⟨by rw [List.length_cons, q1], ?_, ?_, ?_⟩
  ·unfold risesF
   rw [Bool.and_eq_true, decide_eq_true_iff]
   exact ⟨⟨by omega, g2⟩, q2⟩
  ·rw [List.flatMap_cons, Stands.app]; exact ⟨g3, q3⟩
  ·rw [List.flatMap_cons, List.length_append]; omega
theorem setD_of {l s : List Int} {a a' : Nat} (hb : Bytes l) (h : setD l a = .ok (s, a')) : risesM s = true ∧ Stands l a (encSet s) ∧ a' = a + (encSet s).length := by
 unfold setD at h
 obtain ⟨n, a1, h1, h⟩ := bnd_inv h
 obtain ⟨g1, g2, g3, g4, g5⟩ := num_of hb h1
 subst g5
 obtain ⟨q1, q2, q3, q4⟩ := setF_of hb h
 subst q4
 have e : n = (s.length : Int) := by omega
 subst e
 refine ⟨q2, ?_, ?_⟩
 ·unfold encSet; rw [Stands.app]; exact ⟨g4, q3⟩
 ·unfold encSet; rw [List.length_append]; omega
theorem sets_of {l : List Int} (hb : Bytes l) : ∀ {k : Nat} {c : List (List Int)} {a a' : Nat}, setsF l k a = .ok (c, a') → c.length = k ∧ (∀ x ∈ c, risesM x = true) ∧ Stands l a (c.flatMap encSet) ∧ a' = a + (c.flatMap encSet).length
 | 0, c, a, a', h => by
  rw [setsF] at h
  cases h
  exact ⟨rfl, by simp, Stands.nil, rfl⟩
 | k + 1, c, a, a', h => by
  rw [setsF] at h
  obtain ⟨x, a1, h1, h⟩ := bnd_inv h
  obtain ⟨r, a2, h2, h⟩ := bnd_inv h
  cases h
  obtain ⟨g1, g2, g3⟩ := setD_of hb h1
  subst g3
  obtain ⟨q1, q2, q3, q4⟩ := sets_of hb h2
  subst q4
  refine ⟨by rw [List.length_cons, q1], fun y hy => ?_, ?_, ?_⟩
  ·rcases List.mem_cons.1 hy with rfl | hy
   ·exact g1
   ·exact q2 y hy
  ·rw [List.flatMap_cons, Stands.app]; exact ⟨g2, q3⟩
  ·rw [List.flatMap_cons, List.length_append]; omega
def GoodR (r : RT) : Prop := rtOk r = true ∧ ∀ x ∈ r.code, -9223372036854775808 ≤ x.2 ∧ x.2 ≤ 9223372036854775807
theorem rt_of {l : List Int} {r : RT} {left left' : Int} {a a' : Nat} (hb : Bytes l) (h : rtD l left a = .ok ((r, left'), a')) : GoodR r ∧ (r.code.length : Int) ≤ left ∧ left' = left - r.code.length ∧ Stands l a (encRt r) ∧ a' = a + (encRt r).length := by
 unfold rtD at h
 obtain ⟨nm, a1, h1, h⟩ := bnd_inv h
 obtain ⟨pa, a2, h2, h⟩ := bnd_inv h
 obtain ⟨lo, a3, h3, h⟩ := bnd_inv h
 obtain ⟨n, a4, h4, h⟩ := bnd_inv h
 obtain ⟨code, a5, h5, h⟩ := bnd_inv h
 cases h
 obtain ⟨t1, t2, t3⟩ := text_of hb h1
 obtain ⟨p1, p2, p3, p4, p5⟩ := num_of hb h2
 obtain ⟨q1, q2, q3, q4, q5⟩ := num_of hb h3
 obtain ⟨m1, m2, m3, m4, m5⟩ := num_of hb h4
 obtain ⟨c1, c2, c3, c4⟩ := code_of hb h5
 have e : n = (code.length : Int) := by omega
 subst e
 subst t3 p5 q5 m5 c4
 refine ⟨⟨rtOk_iff.2 ⟨?_, t1, by dsimp only; omega⟩, fun x hx => (c2 x hx).2⟩, m2, rfl, ?_, ?_⟩
 ·unfold codeOk
  exact List.all_eq_true.2 fun x hx => (c2 x hx).1
 ·unfold encRt
  rw [Stands.app, Stands.app, Stands.app, Stands.app]
  simp only [List.length_append, ← Nat.add_assoc]
  exact ⟨⟨⟨⟨t2, p4⟩, q4⟩, m4⟩, c3⟩
 ·unfold encRt
  simp only [List.length_append, ← Nat.add_assoc]
def GoodS (s : SY) : Prop := (∀ x ∈ s.sets, risesM x = true) ∧ GoodR s.run
theorem sums_cons {s : SY} {t : List SY} : codeSum ((s :: t).map SY.run) = s.run.code.length + codeSum (t.map SY.run) := by simp [codeSum]
theorem sumf_cons {s : RT} {t : List RT} : codeSum (s :: t) = s.code.length + codeSum t := by simp [codeSum]
theorem syOf_sets {x : List (List Int)} {r : RT} (h : x.length = 4) : (syOf x r).sets = x := by
 match x, h with
 | [x1, x2, x3, x4], _ => rfl
theorem sys_of {l : List Int} (hb : Bytes l) : ∀ {k : Nat} {c : List SY} {left left' : Int} {a a' : Nat}, sysF l k left a = .ok ((c, left'), a') → c.length = k ∧ (∀ x ∈ c, GoodS x) ∧ left' = left - codeSum (c.map SY.run) ∧ (0 ≤ left → 0 ≤ left') ∧ Stands l a (c.flatMap encSy) ∧ a' = a + (c.flatMap encSy).length
 | 0, c, left, left', a, a', h => by
  rw [sysF] at h
  cases h
  exact ⟨rfl, by simp, by simp [codeSum], id, Stands.nil, rfl⟩
 | k + 1, c, left, left', a, a', h => by
  rw [sysF] at h
  obtain ⟨x, a1, h1, h⟩ := bnd_inv h
  obtain ⟨⟨r, lf⟩, a2, h2, h⟩ := bnd_inv h
  obtain ⟨⟨t, lf2⟩, a3, h3, h⟩ := bnd_inv h
  dsimp only at h h3
  cases h
  obtain ⟨g1, g2, g3, g4⟩ := sets_of hb h1
  obtain ⟨r1, r2, r3, r4, r5⟩ := rt_of hb h2
  obtain ⟨q1, q2, q3, q4, q5, q6⟩ := sys_of hb h3
  subst g4 r5 q6
  have ex : (syOf x r).sets = x := syOf_sets g1
  have er : (syOf x r).run = r := rfl
  refine ⟨by rw [List.length_cons, q1], fun y hy => ?_, ?_, by omega, ?_, ?_⟩
  ·rcases List.mem_cons.1 hy with rfl | hy
   ·exact ⟨by rw [ex]; exact g2, r1⟩
   ·exact q2 y hy
  ·rw [sums_cons, er]; omega
  ·rw [List.flatMap_cons, Stands.app]
   unfold encSy
   rw [ex, er, Stands.app, List.length_append, ← Nat.add_assoc]
   exact ⟨⟨g3, r4⟩, q5⟩
  ·rw [List.flatMap_cons, List.length_append]
   unfold encSy
   rw [ex, er, List.length_append]
   omega
theorem fns_of {l : List Int} (hb : Bytes l) : ∀ {k : Nat} {c : List RT} {left left' : Int} {a a' : Nat}, fnsF l k left a = .ok ((c, left'), a') → c.length = k ∧ (∀ x ∈ c, GoodR x) ∧ left' = left - codeSum c ∧ (0 ≤ left → 0 ≤ left') ∧ Stands l a (c.flatMap encRt) ∧ a' = a + (c.flatMap encRt).length
 | 0, c, left, left', a, a', h => by
  rw [fnsF] at h
  cases h
  exact ⟨rfl, by simp, by simp [codeSum], id, Stands.nil, rfl⟩
 | k + 1, c, left, left', a, a', h => by
  rw [fnsF] at h
  obtain ⟨⟨r, lf⟩, a2, h2, h⟩ := bnd_inv h
  obtain ⟨⟨t, lf2⟩, a3, h3, h⟩ := bnd_inv h
  dsimp only at h h3
  cases h
  obtain ⟨r1, r2, r3, r4, r5⟩ := rt_of hb h2
  obtain ⟨q1, q2, q3, q4, q5, q6⟩ := fns_of hb h3
  subst r5 q6
  refine ⟨by rw [List.length_cons, q1], fun y hy => ?_, ?_, by omega, ?_, ?_⟩
  ·rcases List.mem_cons.1 hy with rfl | hy
   ·exact r1
   ·exact q2 y hy
  ·rw [sumf_cons]; omega
  ·rw [List.flatMap_cons, Stands.app]; exact ⟨r4, q5⟩
  ·rw [List.flatMap_cons, List.length_append]; omega
theorem pg_of {l : List Int} {p : PG} (hb : Bytes l) (h : pgD l = .ok p) : mayM p = true ∧ encPg p = l ∧ p.Ok := by
 unfold pgD at h
 obtain ⟨n, a1, h1, h⟩ := bnd_inv h
 obtain ⟨⟨s, lf⟩, a2, h2, h⟩ := bnd_inv h
 obtain ⟨m, a3, h3, h⟩ := bnd_inv h
 obtain ⟨⟨f, lf2⟩, a4, h4, h⟩ := bnd_inv h
 dsimp only at h h4
 split at h
 ·cases h
 rename_i hend
 cases h
 obtain ⟨n1, n2, n3, n4, n5⟩ := num_of hb h1
 obtain ⟨s1, s2, s3, s4, s5, s6⟩ := sys_of hb h2
 obtain ⟨k1, k2, k3, k4, k5⟩ := num_of hb h3
 obtain ⟨f1, f2, f3, f4, f5, f6⟩ := fns_of hb h4
 have e1 : n = (s.length : Int) := by omega
 have e2 : m = (f.length : Int) := by omega
 subst e1 e2
 subst n5 s6 k5 f6
 have hs : Stands l 0 (encPg ⟨s, f⟩) := by
  unfold encPg
  rw [Stands.app, Stands.app, Stands.app]
  simp only [List.length_append, ← Nat.add_assoc]
  exact ⟨⟨⟨n4, s5⟩, k4⟩, f5⟩
 have hlen : (encPg ⟨s, f⟩).length = 0 + (putU (s.length : Int)).length + (s.flatMap encSy).length + (putU (f.length : Int)).length + (f.flatMap encRt).length := by
  unfold encPg
  simp only [List.length_append]
  omega
 refine ⟨mayM_iff.2 ⟨by show s.length ≤ 16; omega, by show f.length ≤ 16; omega, fun x hx => syOk_iff.2 ⟨(s2 x hx).1, (s2 x hx).2.1⟩, fun x hx => (f2 x hx).1, ?_⟩, ?_, ?_⟩
 ·unfold PG.rts
  rw [sum_append]
  show codeSum (s.map SY.run) + codeSum f ≤ 2000
  have := s4 (by decide)
  have := f4 this
  omega
 ·unfold Stands at hs
  rw [List.drop_zero, List.drop_of_length_le (by omega), List.append_nil] at hs
  exact hs.symm
 ·have hle : ∀ r : RT, GoodR r → r.code.length ≤ 2000 → r.Ok := fun r hr hl => ⟨by omega, hr.2⟩
  have g1 := s4 (by decide)
  have g2 := f4 g1
  have hsum : ∀ {t : List RT} {r : RT}, r ∈ t → r.code.length ≤ codeSum t := fun {t r} hr => by
   unfold codeSum
   induction t with
   | nil => cases hr
   | cons y t ih =>
    rw [List.map_cons, List.sum_cons]
    rcases List.mem_cons.1 hr with rfl | hr
    ·omega
    ·have := ih hr; omega
  refine ⟨fun x hx => ⟨hle _ (s2 x hx).2 ?_, fun t ht => ?_⟩, fun x hx => hle _ (f2 x hx) ?_⟩
  ·have := hsum (List.mem_map.2 ⟨x, hx, rfl⟩ : x.run ∈ s.map SY.run)
   omega
  ·have := risesM_len ((s2 x hx).1 t ht)
   omega
  ·have : x.code.length ≤ codeSum f := hsum hx
   omega
theorem all_at {ts : List Thing} {t : Thing} {w : World} {O : List Nat} (ht : t ∈ ts) (h : (tAll ts).holds w O) : ∃ O', t.holds w O' ∧ ∀ k ∈ O', k ∈ O := by
 obtain ⟨k, hk⟩ := List.mem_iff_getElem?.1 ht
 obtain ⟨O1, _, h1, _, _, h4⟩ := tAll_pick hk h
 exact ⟨O1, h1, fun k hk => (h4 k).2 (.inl hk)⟩
theorem rdR_fn {s : Sl} {l : List RT} {w : World} {O : List Nat} (h : (tFnN s l).holds w O) : RdR w s l := by
 obtain ⟨xs, hx, O1, O2, h1, h2, _⟩ := h
 refine ⟨xs, hx, ⟨O1, SlF.toR h1⟩, fun x hm => ?_⟩
 obtain ⟨O', h3, _⟩ := all_at (t := subI x) (List.mem_map.2 ⟨x, hm, rfl⟩) h2
 exact ⟨O', SlF.toR h3⟩
theorem rdS_sy {s : Sl} {l : List SY} {w : World} {O : List Nat} (h : (tSyN s l).holds w O) : RdS w s l := by
 obtain ⟨xs, hx, O1, O2, h1, h2, _⟩ := h
 have h1' := SlF.toR h1
 refine ⟨xs, List.range w.heap.size, hx, fun k hk => List.mem_range.1 hk, ⟨O1, h1', fun k hk => List.mem_range.2 (h1'.lt k hk)⟩, fun x hm => ?_⟩
 obtain ⟨O', h3, _⟩ := all_at (t := subY x) (List.mem_map.2 ⟨x, hm, rfl⟩) h2
 have set : ∀ y ∈ x.sls, ∃ o, SlR w y.1 1 iv y.2 o ∧ ∀ k ∈ o, k ∈ List.range w.heap.size := fun y hy => by
  obtain ⟨O'', h4, _⟩ := all_at (t := tS y) (List.mem_append_left _ (List.mem_map.2 ⟨y, hy, rfl⟩)) h3
  have h4' := SlF.toR h4
  exact ⟨O'', h4', fun k hk => List.mem_range.2 (h4'.lt k hk)⟩
 obtain ⟨O'', h5, _⟩ := all_at (t := subI x.run) (List.mem_append_right _ (by simp)) h3
 have h5' := SlF.toR h5
 exact ⟨set (x.a, x.A) (by simp [SV.sls]), set (x.b, x.B) (by simp [SV.sls]), set (x.c, x.C) (by simp [SV.sls]), set (x.d, x.D) (by simp [SV.sls]), O'', h5', fun k hk => List.mem_range.2 (h5'.lt k hk)⟩
theorem code_le {t : List RT} {r : RT} (hr : r ∈ t) : r.code.length ≤ codeSum t := by
 unfold codeSum
 induction t with
 | nil => cases hr
 | cons y t ih =>
  rw [List.map_cons, List.sum_cons]
  rcases List.mem_cons.1 hr with rfl | hr
  ·omega
  ·have := ih hr; omega
theorem bytes_app {a b : List Int} (ha : Bytes a) (hb : Bytes b) : Bytes (a ++ b) := fun x hx => (List.mem_append.1 hx).elim (ha x) (hb x)
theorem Src.ro {s : Sl} {l : List Int} {ub : Thing} (h : Src ub s l) : Src ub.ro s l := ⟨⟨fun {w O} k => h.rd.rd (w := w) (O := O) k⟩, h.by_, h.len, h.sl, h.cap⟩
section
variable {S : List Nat} {w0 w : World} {its rest : List Thing}
theorem Decode_u {b : Sl} {ub : Thing} {l : List Int} (h : Hp S w0 w (ub :: rest)) (hs : Src ub b l) {K : Sl → Sl → Value → World → Prop}
  (hK : ∀ s1 s2 v w', (∃ p, pgD l = .ok p ∧ v = .nilIface ∧ Hp S w0 w' (ub :: rest ++ [tSyN s1 p.sys, tFnN s2 p.fns])) ∨ (∃ e fb, pgD l = .error e ∧ v = .iface 86 (.pointer (some ⟨fb, 0, none⟩)) ∧ s1 = ⟨none, 0, 0⟩ ∧ s2 = ⟨none, 0, 0⟩ ∧ Hp S w0 w' (ub :: rest ++ [tFault fb e])) → K s1 s2 v w') : c15 b w K :=
 Decode_spec h hs (fun p hp s1 s2 w' h => hK s1 s2 _ w' (.inl ⟨p, hp, rfl, h⟩)) (fun e he fb w' h => hK _ _ _ w' (.inr ⟨e, fb, he, rfl, rfl, rfl, h⟩))
end
end Go.Proofs.YtmfgofbcnlkolaaGreatDoor.F
end

section
namespace Go.Proofs.YtmfgofbcnlkolaaGreatDoor.FW
open F
open Go Go.Den Go.Proofs Go.RowKit
theorem undU8 : Tryz.prog.underlying 5 = some (.int .u8) := by kernel_rfl
theorem und34s : Tryz.prog.underlying 34 = some (.slice 5) := by kernel_rfl
theorem cel5 : Tryz.prog.cellsOf 5 = 1 := by kernel_rfl
theorem byt5 : Tryz.prog.bytesOf 5 = 1 := by kernel_rfl
theorem dec_byte {w : World} {B m : Nat} {ci : List Value} (hl : ci.length = 1) (h : RdV Tryz.prog w B m 5 ci) : ∃ x : Int, ci = u8v x ∧ (0 ≤ x ∧ x < 256) := by
 obtain ⟨m0, e0, h0⟩ := rd_int undU8 h
 have hm : IntKind.u8.min ≤ m0 ∧ m0 ≤ IntKind.u8.max := by simpa [Lit.wf] using h0
 have h1 : IntKind.u8.min = 0 := by decide
 have h2 : IntKind.u8.max = 255 := by decide
 exact ⟨m0, e0, by omega, by omega⟩
theorem dec_bytes {w : World} {B n : Nat} {cs : List Value} (h : RdV Tryz.prog w B n 34 cs) : ∃ (s : Sl) (l : List Int), cs = [.slice s.a s.len s.cap] ∧ (∃ o, SlR w s 1 u8v l o) ∧ Bytes l ∧ (l.length ≤ 140737488355328 ∧ l.length ≤ B) ∧ s.len ≤ s.cap := by
 obtain ⟨s, l, o, h1, h2, h3, hb, h4, h5⟩ := rd_slice (f := u8v) (G := fun x => 0 ≤ x ∧ x < 256) und34s cel5 (by omega) (fun m ci hl hr => dec_byte hl hr) h
 rw [byt5] at hb
 unfold reachBytes at hb
 exact ⟨s, l, h1, ⟨o, h2⟩, h3, ⟨by omega, h4⟩, h5⟩
end Go.Proofs.YtmfgofbcnlkolaaGreatDoor.FW
end

section
namespace Go.Proofs.YtmfgofbcnlkolaaGreatDoor.F
open Go Go.Den Go.Proofs
abbrev rdD (rb : Nat) (b : Sl) (a : Nat) (bad : Bool) (code : Int) : Thing := tBlk rb 92 [.slice b.a b.len b.cap, .int .i64 a, .bool bad, .int .i64 code]
def Rdr {α : Type} (D : DR α) (a : Nat) (bad : Bool) (x : α) (a' : Nat) (bad' : Bool) : Prop :=
 (bad = false ∧ D = .ok (x, a') ∧ bad' = false) ∨ (bad = false ∧ D = .error a' ∧ bad' = true) ∨ (bad = true ∧ a' = a ∧ bad' = true)
section
variable {S : List Nat} {w0 w : World} {its rest : List Thing}
theorem Rnumber_spec {rb : Nat} {b : Sl} {a : Nat} {bad : Bool} {code : Int} {ub : Thing} {l : List Int} (h : Hp S w0 w (rdD rb b a bad code :: ub :: rest)) (hs : Src ub b l) (ha : a ≤ l.length) {least most : Int} (hl0 : 0 ≤ least) (hl1 : least ≤ 9000000000000000000) (hm : bad = false → 0 ≤ most ∧ most ≤ 9000000000000000000)
  {R : Int → World → Prop}
  (hK : ∀ x a' bad' w', Rdr (numD l least most a) a bad x a' bad' → (bad' = true → x = least ∧ a' = a) → a' ≤ l.length → Hp S w0 w' (rdD rb b a' bad' code :: ub :: rest) → R x w') : c38 (some ⟨rb, 0, none⟩) least most w R := by
 refine c38_of ?_
 unfold f38
 rw [NN_some]
 refine h.ld (n := 2) (k := .b) (x := bad) 0 rfl rfl ?_
 cases bad with
 | true => exact ifT rfl (hK least a true w (.inr (.inr ⟨rfl, rfl, rfl⟩)) (fun _ => ⟨rfl, rfl⟩) ha h)
 | false =>
  obtain ⟨hm0, hm1⟩ := hm rfl
  refine ifF (by decide) ?_
  refine h.dr fun w1 h => ?_
  rw [NN_some]
  refine h.ld0 (k := .sl) (x := b) 0 rfl rfl ?_
  rw [NN_some]
  refine h.ld (n := 1) (k := .i .i64) (x := a) 0 rfl rfl ?_
  refine hs.cut ha fun s q1 q2 q3 q4 => ?_
  refine RGet_spec h 1 (u := ub) rfl q1 q2 q4 ?_
  have hg := getU_range q2
  rw [List.length_drop] at hg
  have hln := hs.len
  have e1 : IntKind.u64.wrap least = least := by rw [w64]; omega
  have e2 : IntKind.u64.wrap most = most := by rw [w64]; omega
  rw [e1, e2]
  by_cases hc : (getU (l.drop a)).2 = 0 ∨ (getU (l.drop a)).1 < least ∨ most < (getU (l.drop a)).1
  ·have hn : numD l least most a = .error a := by unfold numD; rw [if_pos hc]
   refine ifT ?_ ?_
   ·rcases hc with hc | hc | hc
    ·rw [hc]; rfl
    ·by_cases h0 : (getU (l.drop a)).2 = 0
     ·rw [h0]; rfl
     ·simp [h0, hc]
    ·by_cases h0 : (getU (l.drop a)).2 = 0
     ·rw [h0]; rfl
     ·simp [h0, hc]
   ·rw [NN_some]
    refine h.st (n := 2) 0 rfl (by simp) rfl fun w3 h => ?_
    exact hK least a true w3 (.inr (.inl ⟨rfl, hn, rfl⟩)) (fun _ => ⟨rfl, rfl⟩) ha h
  ·have hn : numD l least most a = .ok ((getU (l.drop a)).1, a + (getU (l.drop a)).2.toNat) := by unfold numD; rw [if_neg hc]
   refine ifF ?_ ?_
   ·have g1 : ¬ (getU (l.drop a)).2 = 0 := by omega
    have g2 : ¬ (getU (l.drop a)).1 < least := by omega
    have g3 : ¬ most < (getU (l.drop a)).1 := by omega
    have g4 : ¬ most < least := by omega
    simp [g1, g2, g3, g4]
   rw [NN_some]
   refine h.ld (n := 1) (k := .i .i64) (x := a) 0 rfl rfl ?_
   rw [NN_some]
   refine h.st (n := 1) 0 rfl (by simp) rfl fun w3 h => ?_
   have e3 : IntKind.i64.wrap (getU (l.drop a)).1 = (getU (l.drop a)).1 := wr64 (by omega) (by omega)
   rw [e3]
   refine hK _ _ false w3 (.inl ⟨rfl, hn, rfl⟩) (fun e => by cases e) (by omega) ?_
   have e4 : IntKind.i64.wrap ((a : Int) + (getU (l.drop a)).2) = ((a + (getU (l.drop a)).2.toNat : Nat) : Int) := by rw [wr64 (by omega) (by omega)]; omega
   rw [e4] at h
   exact h
theorem Rset_rd {rb : Nat} {b : Sl} {a : Nat} {bad : Bool} {code : Int} {ub : Thing} {l : List Int} (h : Hp S w0 w (rdD rb b a bad code :: ub :: rest)) (hs : Src ub b l) (ha : a ≤ l.length)
  {R : Sl → World → Prop}
  (hK : ∀ s x a' bad' w', Rdr (setD l a) a bad x a' bad' → a' ≤ l.length → x.length ≤ 13 → Hp S w0 w' (rdD rb b a' bad' code :: ub :: rest ++ [tSl s 3 1 iv x]) → R s w') : c39 (some ⟨rb, 0, none⟩) w R := by
 refine c39_of ?_
 unfold f39
 obtain ⟨inf, i1, i2, i3, i4⟩ := inf3
 refine Rnumber_spec h hs ha (by decide) (by decide) (fun _ => by decide) fun n a1 b1 w1 hn hb1 ha1 h => ?_
 have hnr : 0 ≤ n ∧ n ≤ 12 := by
  rcases hn with ⟨_, h1, _⟩ | ⟨_, _, h1⟩ | ⟨_, _, h1⟩
  ·obtain ⟨n1, n2, n3, _⟩ := numD_ok hs.by_ h1
   omega
  ·have := (hb1 h1).1; omega
  ·have := (hb1 h1).1; omega
 have h := h.nil 3 1 iv
 have h : Hp S w0 w1 (rdD rb b a1 b1 code :: ub :: rest ++ [tSl ⟨none, 0, 0⟩ 3 1 iv []]) := h
 -- where it stands: k read so far, or stuck
 have start : Rdr (setD l a) a bad ([] : List Int) a1 b1 ∨ (bad = false ∧ b1 = false ∧ setD l a = setF l n.toNat 0 a1) := by
  unfold setD
  rcases hn with ⟨h0, h1, h2⟩ | ⟨h0, h1, h2⟩ | ⟨h0, h1, h2⟩
  ·exact .inr ⟨h0, h2, by rw [h1]; rfl⟩
  ·exact .inl (.inr (.inl ⟨h0, by rw [h1]; rfl, h2⟩))
  ·exact .inl (.inr (.inr ⟨h0, h1, h2⟩))
 refine ⟨fun out last i mm w' => ∃ (k a2 : Nat) (b2 : Bool) (o : List Int), i = k ∧ k ≤ n.toNat ∧ mm = n.toNat - k ∧ o.length = k ∧ a2 ≤ l.length ∧ Hp S w0 w' (rdD rb b a2 b2 code :: ub :: rest ++ [tSl out 3 1 iv o]) ∧
   ((b2 = true ∧ Rdr (setD l a) a bad o a2 b2) ∨ (b2 = false ∧ bad = false ∧ 0 ≤ last ∧ last ≤ 12 ∧ setD l a = bnd (setF l (n.toNat - k) last a2) (fun r a => .ok (o ++ r, a)))),
  ⟨n.toNat, 0, a1, b1, [], rfl, by omega, by omega, rfl, ha1, h, ?_⟩, ?_⟩
 ·rcases start with h1 | ⟨h1, h2, h3⟩
  ·cases hb : b1 with
   | true => rw [hb] at h1; exact .inl ⟨rfl, h1⟩
   | false =>
    rw [hb] at h1
    rcases h1 with ⟨q1, q2, _⟩ | ⟨_, _, q⟩ | ⟨_, _, q⟩
    ·refine .inr ⟨rfl, q1, by decide, by decide, ?_⟩
     rcases hn with ⟨_, g1, _⟩ | ⟨_, _, g⟩ | ⟨g, _, _⟩
     ·unfold setD
      rw [g1, bnd_ok, Nat.sub_zero]
      cases setF l n.toNat 0 a1 with
      | error e => rfl
      | ok x => rfl
     ·rw [hb] at g; cases g
     ·rw [q1] at g; cases g
    ·cases q
    ·cases q
  ·refine .inr ⟨h2, h1, by decide, by decide, ?_⟩
   rw [h3, Nat.sub_zero]
   cases setF l n.toNat 0 a1 with
   | error e => rfl
   | ok x => rfl
 clear h start
 rintro out last i mm w2 ⟨k, a2, b2, o, rfl, hk, rfl, hol, ha2, h, hst⟩
 refine ⟨fun w' => b2 = false ∧ k < n.toNat ∧ w' = w2, ?_, ?_⟩
 ·have done : (b2 = true ∨ k = n.toNat) → R out w2 := fun hd => by
   refine hK out o a2 b2 w2 ?_ ha2 (by omega) h
   rcases hst with ⟨_, h2⟩ | ⟨g1, g2, _, _, g3⟩
   ·exact h2
   ·rcases hd with hd | hd
    ·rw [g1] at hd; cases hd
    ·rw [hd, Nat.sub_self] at g3
     refine .inl ⟨g2, ?_, g1⟩
     rw [g3]
     show Except.ok (o ++ [], a2) = _
     rw [List.append_nil]
  by_cases hlt : k < n.toNat
  ·refine ifT (by simp; omega) ?_
   rw [NN_some]
   refine h.ld (n := 2) (k := .b) (x := b2) 0 rfl rfl ?_
   cases b2 with
   | true => exact ifF (by decide) (done (.inl rfl))
   | false => exact ifT rfl ⟨rfl, hlt, rfl⟩
  ·exact ifF (by simp; omega) (done (.inr (by omega)))
 rintro w5 ⟨hb2, hlt, hw⟩
 subst hb2
 rw [hw]
 clear hw w5
 rcases hst with ⟨hb, _⟩ | ⟨_, hbad, hl0, hl1, hF⟩
 ·cases hb
 obtain ⟨q, hq⟩ : ∃ q, n.toNat - k = q + 1 := ⟨n.toNat - k - 1, by omega⟩
 have e1 : IntKind.i64.wrap (last + 1) = last + 1 := wr64 (by omega) (by omega)
 rw [e1]
 have h : Hp S w0 w2 (rdD rb b a2 false code :: ub :: (rest ++ [tSl out 3 1 iv o])) := h
 refine Rnumber_spec h hs ha2 (by omega) (by omega) (fun _ => by decide) fun x a3 b3 w3 hx hbx ha3 h => ?_
 have h : Hp S w0 w3 ((rdD rb b a3 b3 code :: ub :: rest) ++ [tSl out 3 1 iv o]) := h
 have hol2 := h.len (s := out) (e := 3) (n := 1) (f := iv) (l := o) (rdD rb b a3 b3 code :: ub :: rest).length (by rw [List.getElem?_concat_length]; rfl)
 refine h.nwapp (c := [_]) (rdD rb b a3 b3 code :: ub :: rest).length x List.getElem?_concat_length iv_len und52 i1 i3 i2 rfl rfl (by simp [Value.oneCell']) (by rw [i4]; omega) (by omega) fun s2 w4 h _ _ => ?_
 rw [set_last] at h
 refine ⟨n.toNat - (k + 1), by omega, k + 1, a3, b3, o ++ [x], by rw [wr64 (by omega) (by omega)]; omega, by omega, rfl, by simp; omega, ha3, h, ?_⟩
 rw [hq] at hF
 rcases hx with ⟨_, g1, g2⟩ | ⟨_, g1, g2⟩ | ⟨g, _⟩
 ·obtain ⟨x1, x2, x3, _⟩ := numD_ok hs.by_ g1
  refine .inr ⟨g2, hbad, by omega, by omega, ?_⟩
  rw [hF]
  show bnd (bnd (numD l (last + 1) 12 a2) _) _ = _
  rw [g1, bnd_ok]
  have : n.toNat - (k + 1) = q := by omega
  rw [this]
  cases setF l q x a3 with
  | error e => rfl
  | ok r => simp [bnd]
 ·refine .inl ⟨g2, .inr (.inl ⟨hbad, ?_, g2⟩)⟩
  rw [hF]
  show bnd (bnd (numD l (last + 1) 12 a2) _) _ = _
  rw [g1]; rfl
 ·cases g
end
section
variable {S : List Nat} {w0 w : World} {its rest : List Thing}
theorem out_ret (h : Hp S w0 w its) (i j : Nat) (hij : i ≠ j) {A O : Nat} {nm : ByteArray} {pa lo : Int} {sl : Sl} (hi : its[i]? = some (tBlk A 30 [.string ⟨#[]⟩, .int .i64 0, .int .i64 0, .slice none 0 0])) (hj : its[j]? = some (tBlk O 30 [.string nm, .int .i64 pa, .int .i64 lo, .slice sl.a sl.len sl.cap]))
  {R : ByteArray → Int → Int → Sl → World → Prop} (hR : ∀ w' t, Hp S w0 w' (its.set i t) → R nm pa lo sl w') :
  Ld .s w ⟨O, 0, none⟩ fun (out_Name : ByteArray) => Ld (.i .i64) w ((⟨O, 0, none⟩ : Addr).add 1) fun (out_Params : Int) => Ld (.i .i64) w ((⟨O, 0, none⟩ : Addr).add 2) fun (out_Locals : Int) => Ld .sl w ((⟨O, 0, none⟩ : Addr).add 3) fun (out_Code : Sl) =>
   St ⟨A, 0, none⟩ (.string out_Name) w fun (w : World) => St ((⟨A, 0, none⟩ : Addr).add 1) (.int .i64 out_Params) w fun (w : World) => St ((⟨A, 0, none⟩ : Addr).add 2) (.int .i64 out_Locals) w fun (w : World) => St ((⟨A, 0, none⟩ : Addr).add 3) (.slice out_Code.a out_Code.len out_Code.cap) w fun (w : World) =>
   Ld .s w ⟨A, 0, none⟩ fun (r_Name : ByteArray) => Ld (.i .i64) w ((⟨A, 0, none⟩ : Addr).add 1) fun (r_Params : Int) => Ld (.i .i64) w ((⟨A, 0, none⟩ : Addr).add 2) fun (r_Locals : Int) => Ld .sl w ((⟨A, 0, none⟩ : Addr).add 3) fun (r_Code : Sl) => R r_Name r_Params r_Locals r_Code w := by
 have hil := (List.getElem?_eq_some_iff.1 hi).1
 refine h.ld0 (k := .s) (x := nm) j (by rw [hj]; rfl) rfl ?_
 refine h.ld (n := 1) (k := .i .i64) (x := pa) j (by rw [hj]; rfl) rfl ?_
 refine h.ld (n := 2) (k := .i .i64) (x := lo) j (by rw [hj]; rfl) rfl ?_
 refine h.ld (n := 3) (k := .sl) (x := sl) j (by rw [hj]; rfl) rfl ?_
 have gi : ∀ t : Thing, (its.set i t)[i]? = some t := fun t => List.getElem?_set_self hil
 refine h.st0 i hi (by simp) rfl fun w1 h => ?_
 refine h.st (n := 1) i (gi _) (by simp) rfl fun w1 h => ?_
 rw [List.set_set] at h
 refine h.st (n := 2) i (gi _) (by simp) rfl fun w1 h => ?_
 rw [List.set_set] at h
 refine h.st (n := 3) i (gi _) (by simp) rfl fun w1 h => ?_
 rw [List.set_set] at h
 refine h.ld0 (k := .s) (x := nm) i (by rw [gi]; rfl) rfl ?_
 refine h.ld (n := 1) (k := .i .i64) (x := pa) i (by rw [gi]; rfl) rfl ?_
 refine h.ld (n := 2) (k := .i .i64) (x := lo) i (by rw [gi]; rfl) rfl ?_
 refine h.ld (n := 3) (k := .sl) (x := sl) i (by rw [gi]; rfl) rfl ?_
 exact hR w1 _ h
theorem codeF_step {l : List Int} {n k a4 a' a6 : Nat} {o : List Ins} {x : Ins} (hq : k < n) (hF : codeF l n a4 = bnd (codeF l (n - k) a') (fun r a => .ok (o ++ r, a))) (hi : insD l a' = .ok (x, a6)) :
  codeF l n a4 = bnd (codeF l (n - (k + 1)) a6) (fun r a => .ok (o ++ [x] ++ r, a)) := by
 obtain ⟨q, hq⟩ : ∃ q, n - k = q + 1 := ⟨n - k - 1, by omega⟩
 have e : n - (k + 1) = q := by omega
 rw [hF, hq, e]
 show bnd (bnd (insD l a') _) _ = _
 rw [hi, bnd_ok]
 cases codeF l q a6 with
 | error e => rfl
 | ok r => simp [bnd]
theorem codeF_err {l : List Int} {n k a4 a' a6 : Nat} {o : List Ins} (hq : k < n) (hF : codeF l n a4 = bnd (codeF l (n - k) a') (fun r a => .ok (o ++ r, a))) (hi : insD l a' = .error a6) : codeF l n a4 = .error a6 := by
 obtain ⟨q, hq⟩ : ∃ q, n - k = q + 1 := ⟨n - k - 1, by omega⟩
 rw [hF, hq]
 show bnd (bnd (insD l a') _) _ = _
 rw [hi]; rfl
set_option maxHeartbeats 8000000 in
theorem Rroutine_rd {rb : Nat} {b : Sl} {a : Nat} {bad : Bool} {code : Int} {ub : Thing} {l : List Int} (h : Hp S w0 w (rdD rb b a bad code :: ub :: rest)) (hs : Src ub b l) (ha : a ≤ l.length) (hc0 : 0 ≤ code) (hc1 : code ≤ 2000)
  {R : ByteArray → Int → Int → Sl → World → Prop}
  (hK : ∀ nm pa lo sl c a' bad' code' w', Rdr (rtD l (2000 - code) a) a bad ((⟨nm, pa, lo, c⟩ : RT), 2000 - code') a' bad' → a' ≤ l.length → 0 ≤ code' → code' ≤ 2000 → Hp S w0 w' (rdD rb b a' bad' code' :: ub :: rest ++ [tSl sl 23 2 insv c]) → R nm pa lo sl w') : c40 (some ⟨rb, 0, none⟩) w R := by
 refine c40_of ?_
 unfold f40
 obtain ⟨inf, i1, i2, i3, i4⟩ := inf23
 have hln := hs.len
 refine h.nw fun A w1 h => ?_
 refine rt_copy h (nm := ⟨#[]⟩) (pa := 0) (lo := 0) (sl := ⟨none, 0, 0⟩) fun O w1 h => ?_
 obtain ⟨zA, hzA⟩ : ∃ zA : Thing, zA = tBlk A 30 [.string (⟨#[]⟩ : ByteArray), .int .i64 0, .int .i64 0, .slice none 0 0] := ⟨_, rfl⟩
 obtain ⟨zO, hzO⟩ : ∃ zO : ByteArray → Int → Int → Sl → Thing, zO = fun nm pa lo sl => tBlk O 30 [.string nm, .int .i64 pa, .int .i64 lo, .slice sl.a sl.len sl.cap] := ⟨_, rfl⟩
 -- the list: reader, bytes, the rest, the result's place, the routine, its code
 obtain ⟨LS, hLS⟩ : ∃ LS : Nat → Bool → Int → ByteArray → Int → Int → Sl → List Thing, LS = fun a bad code nm pa lo sl => rdD rb b a bad code :: ub :: (rest ++ [zA] ++ [zO nm pa lo sl]) := ⟨_, rfl⟩
 have h : Hp S w0 w1 (LS a bad code ⟨#[]⟩ 0 0 ⟨none, 0, 0⟩) := by rw [hLS, hzA, hzO]; exact h
 have L0 : ∀ a bad code nm pa lo sl B, ((LS a bad code nm pa lo sl ++ B)[0]?).map Thing.holds = some (rdD rb b a bad code).holds := fun a bad code nm pa lo sl B => by rw [hLS]; rfl
 have L0' : ∀ a bad code nm pa lo sl B, (LS a bad code nm pa lo sl ++ B)[0]? = some (rdD rb b a bad code) := fun a bad code nm pa lo sl B => by rw [hLS]; rfl
 have L1 : ∀ a bad code nm pa lo sl B, ((LS a bad code nm pa lo sl ++ B)[1]?).map Thing.holds = some ub.holds := fun a bad code nm pa lo sl B => by rw [hLS]; rfl
 have LA : ∀ a bad code nm pa lo sl B, (LS a bad code nm pa lo sl ++ B)[rest.length + 2]? = some (tBlk A 30 [.string (⟨#[]⟩ : ByteArray), .int .i64 0, .int .i64 0, .slice none 0 0]) := fun a bad code nm pa lo sl B => by
  rw [hLS, ← hzA]; simp
 have LO : ∀ a bad code nm pa lo sl B, (LS a bad code nm pa lo sl ++ B)[rest.length + 3]? = some (tBlk O 30 [.string nm, .int .i64 pa, .int .i64 lo, .slice sl.a sl.len sl.cap]) := fun a bad code nm pa lo sl B => by
  rw [hLS]; simp [hzO]
 have LO' : ∀ a bad code nm pa lo sl B, ((LS a bad code nm pa lo sl ++ B)[rest.length + 3]?).map Thing.holds = some (tBlk O 30 [.string nm, .int .i64 pa, .int .i64 lo, .slice sl.a sl.len sl.cap]).holds := fun a bad code nm pa lo sl B => by rw [LO]; rfl
 have sO : ∀ a bad code nm pa lo sl nm' pa' lo' sl' B, (LS a bad code nm pa lo sl ++ B).set (rest.length + 3) (tBlk O 30 [.string nm', .int .i64 pa', .int .i64 lo', .slice sl'.a sl'.len sl'.cap]) = LS a bad code nm' pa' lo' sl' ++ B := fun a bad code nm pa lo sl nm' pa' lo' sl' B => by
  rw [hLS, hzO]
  simp [List.set_append]
 have s0 : ∀ a bad code nm pa lo sl a' bad' code' B, (LS a bad code nm pa lo sl ++ B).set 0 (rdD rb b a' bad' code') = LS a' bad' code' nm pa lo sl ++ B := fun a bad code nm pa lo sl a' bad' code' B => by rw [hLS]; rfl
 have hLl : ∀ a bad code nm pa lo sl, (LS a bad code nm pa lo sl).length = rest.length + 4 := fun a bad code nm pa lo sl => by rw [hLS]; simp
 have cn : ∀ a bad code nm pa lo sl B, LS a bad code nm pa lo sl ++ B = rdD rb b a bad code :: ub :: (rest ++ [zA] ++ [zO nm pa lo sl] ++ B) := fun a bad code nm pa lo sl B => by rw [hLS]; rfl
 -- handing out
 have ret : ∀ {w' : World} {a' : Nat} {bad' : Bool} {code' : Int} {nm : ByteArray} {pa lo : Int} {sl : Sl} {c : List Ins}, Rdr (rtD l (2000 - code) a) a bad ((⟨nm, pa, lo, c⟩ : RT), 2000 - code') a' bad' → a' ≤ l.length → 0 ≤ code' → code' ≤ 2000 → Hp S w0 w' (LS a' bad' code' nm pa lo sl ++ [tSl sl 23 2 insv c]) →
   Ld .s w' ⟨O, 0, none⟩ fun (out_Name : ByteArray) => Ld (.i .i64) w' ((⟨O, 0, none⟩ : Addr).add 1) fun (out_Params : Int) => Ld (.i .i64) w' ((⟨O, 0, none⟩ : Addr).add 2) fun (out_Locals : Int) => Ld .sl w' ((⟨O, 0, none⟩ : Addr).add 3) fun (out_Code : Sl) =>
   St ⟨A, 0, none⟩ (.string out_Name) w' fun (w : World) => St ((⟨A, 0, none⟩ : Addr).add 1) (.int .i64 out_Params) w fun (w : World) => St ((⟨A, 0, none⟩ : Addr).add 2) (.int .i64 out_Locals) w fun (w : World) => St ((⟨A, 0, none⟩ : Addr).add 3) (.slice out_Code.a out_Code.len out_Code.cap) w fun (w : World) =>
   Ld .s w ⟨A, 0, none⟩ fun (r_Name : ByteArray) => Ld (.i .i64) w ((⟨A, 0, none⟩ : Addr).add 1) fun (r_Params : Int) => Ld (.i .i64) w ((⟨A, 0, none⟩ : Addr).add 2) fun (r_Locals : Int) => Ld .sl w ((⟨A, 0, none⟩ : Addr).add 3) fun (r_Code : Sl) => R r_Name r_Params r_Locals r_Code w := fun {w' a' bad' code' nm pa lo sl c} hr ha' h0 h1 h => by
  refine out_ret h (rest.length + 2) (rest.length + 3) (by omega) (LA _ _ _ _ _ _ _ _) (LO _ _ _ _ _ _ _ _) fun w2 t h => ?_
  have e : (LS a' bad' code' nm pa lo sl ++ [tSl sl 23 2 insv c]).set (rest.length + 2) t = (rdD rb b a' bad' code' :: ub :: rest) ++ [t, zO nm pa lo sl] ++ [tSl sl 23 2 insv c] := by
   rw [hLS]
   simp [List.set_append]
  rw [e] at h
  exact hK nm pa lo sl c a' bad' code' w2 hr ha' h0 h1 h.dropMid
 have h : Hp S w0 w1 (LS a bad code ⟨#[]⟩ 0 0 ⟨none, 0, 0⟩ ++ [tSl ⟨none, 0, 0⟩ 23 2 insv []]) := h.nil 23 2 insv
 rw [NN_some]
 refine h.ld (n := 2) (k := .b) (x := bad) 0 (L0 _ _ _ _ _ _ _ _) rfl ?_
 cases bad with
 | true => exact ifT rfl (ret (.inr (.inr ⟨rfl, rfl, rfl⟩)) ha hc0 hc1 h)
 | false =>
  refine ifF (by decide) ?_
  refine h.dr fun w1 h => ?_
  rw [NN_some]
  refine h.ld0 (k := .sl) (x := b) 0 (L0 _ _ _ _ _ _ _ _) rfl ?_
  rw [NN_some]
  refine h.ld (n := 1) (k := .i .i64) (x := a) 0 (L0 _ _ _ _ _ _ _ _) rfl ?_
  refine hs.cut ha fun s q1 q2 q3 q4 => ?_
  refine RGetText_spec h 1 (u := ub) (L1 _ _ _ _ _ _ _ _) q1 q2 q4 q3 ?_
  have htb := getT_bytes q2
  have hts := strOf_size htb
  by_cases hc : (getT (l.drop a)).2 = 0 ∨ (getT (l.drop a)).1.length < 1 ∨ 16 < (getT (l.drop a)).1.length
  ·have ht : textD l a = .error a := by unfold textD; rw [if_pos hc]
   refine ifT ?_ ?_
   ·rw [hts]
    rcases hc with hc | hc | hc
    ·rw [hc]; rfl
    ·have : ((getT (l.drop a)).1.length : Int) < 1 := by omega
     simp [this]
    ·have : ((getT (l.drop a)).1.length : Int) > 16 := by omega
     simp [this]
   rw [NN_some]
   refine h.st (n := 2) 0 (L0' _ _ _ _ _ _ _ _) (by simp) rfl fun w2 h => ?_
   have h : Hp S w0 w2 (LS a true code ⟨#[]⟩ 0 0 ⟨none, 0, 0⟩ ++ [tSl ⟨none, 0, 0⟩ 23 2 insv []]) := by
    rw [← s0 a false code ⟨#[]⟩ 0 0 ⟨none, 0, 0⟩ a true code]; exact h
   exact ret (.inr (.inl ⟨rfl, by unfold rtD; rw [ht]; rfl, rfl⟩)) ha hc0 hc1 h
  have ht : textD l a = .ok (strOf (getT (l.drop a)).1, a + (getT (l.drop a)).2.toNat) := by unfold textD; rw [if_neg hc]
  have h29 : 0 ≤ (getT (l.drop a)).2 ∧ (getT (l.drop a)).2 ≤ 9000000000000000 := by
   obtain ⟨r1, r2, r3, r4, _⟩ := getU_range q2
   rw [List.length_drop] at r4
   unfold getT
   split
   ·simp
   ·rename_i hq
    rw [List.length_drop] at hq
    dsimp only
    omega
  obtain ⟨t1, t2, t3, t4⟩ := textD_ok hs.by_ ht
  refine ifF ?_ ?_
  ·rw [hts]
   have g1 : ¬ ((getT (l.drop a)).1.length : Int) < 1 := by omega
   have g2 : ¬ ((getT (l.drop a)).1.length : Int) > 16 := by omega
   have g3 : ¬ (getT (l.drop a)).2 = 0 := by omega
   have g4 : ¬ ((getT (l.drop a)).1 = []) := by intro e; rw [e] at hc; simp at hc
   simp [g1, g2, g3, g4]
  rw [NN_some]
  refine h.ld (n := 1) (k := .i .i64) (x := a) 0 (L0 _ _ _ _ _ _ _ _) rfl ?_
  rw [NN_some]
  refine h.st (n := 1) 0 (L0' _ _ _ _ _ _ _ _) (by simp) rfl fun w2 h => ?_
  have e4 : IntKind.i64.wrap ((a : Int) + (getT (l.drop a)).2) = ((a + (getT (l.drop a)).2.toNat : Nat) : Int) := by rw [wr64 (by omega) (by omega)]; omega
  rw [e4] at h
  generalize a + (getT (l.drop a)).2.toNat = a1 at *
  generalize strOf (getT (l.drop a)).1 = nm at *
  have h : Hp S w0 w2 (LS a1 false code ⟨#[]⟩ 0 0 ⟨none, 0, 0⟩ ++ [tSl ⟨none, 0, 0⟩ 23 2 insv []]) := by
   rw [← s0 a false code ⟨#[]⟩ 0 0 ⟨none, 0, 0⟩ a1 false code]; exact h
  refine h.st0 (rest.length + 3) (LO _ _ _ _ _ _ _ _) (by simp) rfl fun w2 h => ?_
  have h : Hp S w0 w2 (LS a1 false code nm 0 0 ⟨none, 0, 0⟩ ++ [tSl ⟨none, 0, 0⟩ 23 2 insv []]) := by
   rw [← sO a1 false code ⟨#[]⟩ 0 0 ⟨none, 0, 0⟩ nm 0 0 ⟨none, 0, 0⟩]; exact h
  rw [cn] at h
  refine Rnumber_spec h hs t2 (by decide) (by decide) (fun _ => by decide) fun pa a2 b2 w3 hpa hpb ha2 h => ?_
  rw [← cn] at h
  refine h.st (n := 1) (rest.length + 3) (LO _ _ _ _ _ _ _ _) (by simp) rfl fun w3 h => ?_
  have h : Hp S w0 w3 (LS a2 b2 code nm pa 0 ⟨none, 0, 0⟩ ++ [tSl ⟨none, 0, 0⟩ 23 2 insv []]) := by
   rw [← sO a2 b2 code nm 0 0 ⟨none, 0, 0⟩ nm pa 0 ⟨none, 0, 0⟩]; exact h
  have hpr : 0 ≤ pa ∧ pa ≤ 4 := by
   rcases hpa with ⟨_, h1, _⟩ | ⟨_, _, h1⟩ | ⟨h1, _⟩
   ·obtain ⟨n1, n2, n3, _⟩ := numD_ok hs.by_ h1; omega
   ·have := (hpb h1).1; omega
   ·cases h1
  refine h.ld (n := 1) (k := .i .i64) (x := pa) (rest.length + 3) (LO' _ _ _ _ _ _ _ _) rfl ?_
  rw [cn] at h
  refine Rnumber_spec h hs ha2 (by omega) (by omega) (fun _ => by decide) fun lo a3 b3 w4 hlo hlb ha3 h => ?_
  rw [← cn] at h
  refine h.st (n := 2) (rest.length + 3) (LO _ _ _ _ _ _ _ _) (by simp) rfl fun w4 h => ?_
  have h : Hp S w0 w4 (LS a3 b3 code nm pa lo ⟨none, 0, 0⟩ ++ [tSl ⟨none, 0, 0⟩ 23 2 insv []]) := by
   rw [← sO a3 b3 code nm pa 0 ⟨none, 0, 0⟩ nm pa lo ⟨none, 0, 0⟩]; exact h
  rw [NN_some]
  refine h.ld (n := 3) (k := .i .i64) (x := code) 0 (L0 _ _ _ _ _ _ _ _) rfl ?_
  have ec : IntKind.i64.wrap (2000 - code) = 2000 - code := wr64 (by omega) (by omega)
  rw [ec]
  rw [cn] at h
  refine Rnumber_spec h hs ha3 (by decide) (by decide) (fun _ => by omega) fun n a4 b4 w5 hn hnb ha4 h => ?_
  rw [← cn] at h
  have hnr : 0 ≤ n ∧ n ≤ 2000 - code := by
   rcases hn with ⟨_, h1, _⟩ | ⟨_, _, h1⟩ | ⟨_, _, h1⟩
   ·obtain ⟨n1, n2, n3, _⟩ := numD_ok hs.by_ h1; omega
   ·have := (hnb h1).1; omega
   ·have := (hnb h1).1; omega
  rw [NN_some]
  refine h.ld (n := 3) (k := .i .i64) (x := code) 0 (L0 _ _ _ _ _ _ _ _) rfl ?_
  rw [NN_some]
  refine h.st (n := 3) 0 (L0' _ _ _ _ _ _ _ _) (by simp) rfl fun w5 h => ?_
  have en : IntKind.i64.wrap (code + n) = code + n := wr64 (by omega) (by omega)
  rw [en]  at h
  have h : Hp S w0 w5 (LS a4 b4 (code + n) nm pa lo ⟨none, 0, 0⟩ ++ [tSl ⟨none, 0, 0⟩ 23 2 insv []]) := by
   rw [← s0 a4 b4 code nm pa lo ⟨none, 0, 0⟩ a4 b4 (code + n)]; exact h
  -- stuck, or all numbers read
  have start : (b4 = true ∧ rtD l (2000 - code) a = .error a4) ∨ (b4 = false ∧ rtD l (2000 - code) a = bnd (codeF l n.toNat a4) fun c a => .ok ((⟨nm, pa, lo, c⟩, 2000 - code - n), a)) := by
   unfold rtD
   rw [ht, bnd_ok]
   rcases hpa with ⟨_, g1, g2⟩ | ⟨_, g1, g2⟩ | ⟨g, _⟩
   ·rw [g1, bnd_ok]
    rcases hlo with ⟨_, k1, k2⟩ | ⟨_, k1, k2⟩ | ⟨k, _⟩
    ·rw [k1, bnd_ok]
     rcases hn with ⟨_, m1, m2⟩ | ⟨_, m1, m2⟩ | ⟨m, _⟩
     ·exact .inr ⟨m2, by rw [m1, bnd_ok]⟩
     ·exact .inl ⟨m2, by rw [m1]; rfl⟩
     ·rw [k2] at m; cases m
    ·rw [k1]
     rcases hn with ⟨m, _⟩ | ⟨m, _⟩ | ⟨_, m1, m2⟩
     ·rw [k2] at m; cases m
     ·rw [k2] at m; cases m
     ·exact .inl ⟨m2, by rw [m1]; rfl⟩
    ·rw [g2] at k; cases k
   ·rw [g1]
    rcases hlo with ⟨k, _⟩ | ⟨k, _⟩ | ⟨_, k1, k2⟩
    ·rw [g2] at k; cases k
    ·rw [g2] at k; cases k
    ·rcases hn with ⟨m, _⟩ | ⟨m, _⟩ | ⟨_, m1, m2⟩
     ·rw [k2] at m; cases m
     ·rw [k2] at m; cases m
     ·exact .inl ⟨m2, by rw [m1, k1]; rfl⟩
   ·cases g
  clear hpa hlo hn hpb hlb hnb
  refine ⟨fun i m w' => ∃ (k a' : Nat) (bd : Bool) (o : List Ins) (sl : Sl), i = k ∧ k ≤ n.toNat ∧ m = n.toNat - k ∧ o.length = k ∧ a' ≤ l.length ∧ Hp S w0 w' (LS a' bd (code + n) nm pa lo sl ++ [tSl sl 23 2 insv o]) ∧
    ((bd = true ∧ rtD l (2000 - code) a = .error a') ∨ (bd = false ∧ rtD l (2000 - code) a = bnd (codeF l n.toNat a4) (fun c a => .ok ((⟨nm, pa, lo, c⟩, 2000 - code - n), a)) ∧ codeF l n.toNat a4 = bnd (codeF l (n.toNat - k) a') (fun r a => .ok (o ++ r, a)))),
   ⟨n.toNat, 0, a4, b4, [], ⟨none, 0, 0⟩, rfl, by omega, by omega, rfl, ha4, h, ?_⟩, ?_⟩
  ·rcases start with h1 | ⟨h1, h2⟩
   ·exact .inl h1
   ·refine .inr ⟨h1, h2, ?_⟩
    rw [Nat.sub_zero]
    cases codeF l n.toNat a4 with
    | error e => rfl
    | ok x => rfl
  clear h start
  rintro i m w6 ⟨k, a5, bd, o, sl, rfl, hk, rfl, hol, ha5, h, hst⟩
  have fin : (bd = true ∨ k = n.toNat) → Rdr (rtD l (2000 - code) a) a false ((⟨nm, pa, lo, o⟩ : RT), 2000 - (code + n)) a5 bd := fun hd => by
   rcases hst with ⟨g1, g2⟩ | ⟨g1, g2, g3⟩
   ·exact .inr (.inl ⟨rfl, g2, g1⟩)
   ·rcases hd with hd | hd
    ·rw [g1] at hd; cases hd
    ·rw [hd, Nat.sub_self] at g3
     refine .inl ⟨rfl, ?_, g1⟩
     rw [g2, g3]
     show Except.ok (((⟨nm, pa, lo, o ++ []⟩ : RT), 2000 - code - n), a5) = _
     rw [List.append_nil]
     congr 3
     omega
  refine ⟨fun w' => bd = false ∧ k < n.toNat ∧ w' = w6, ?_, ?_⟩
  ·by_cases hlt : k < n.toNat
   ·refine ifT (by simp; omega) ?_
    rw [NN_some]
    refine h.ld (n := 2) (k := .b) (x := bd) 0 (L0 _ _ _ _ _ _ _ _) rfl ?_
    cases bd with
    | true => exact ifF (by decide) (ret (fin (.inl rfl)) ha5 (by omega) (by omega) h)
    | false => exact ifT rfl ⟨rfl, hlt, rfl⟩
   ·exact ifF (by simp; omega) (ret (fin (.inr (by omega))) ha5 (by omega) (by omega) h)
  rintro w7 ⟨hb2, hlt, hw⟩
  subst hb2
  rw [hw]
  clear hw w7 fin
  rcases hst with ⟨hb, _⟩ | ⟨_, hF0, hF⟩
  ·cases hb
  rw [cn] at h
  refine Rnumber_spec h hs ha5 (by decide) (by decide) (fun _ => by decide) fun op a6 b6 w7 hop hopb ha6 h => ?_
  rw [← cn] at h
  refine ins_copy h (x := (op, 0)) fun xb w7 h => ?_
  have h : Hp S w0 w7 (LS a6 b6 (code + n) nm pa lo sl ++ ([tSl sl 23 2 insv o] ++ [tBlk xb 23 [.int .i64 op, .int .i64 0]])) := by rw [← List.append_assoc]; exact h
  have LX : ∀ a bad c d x v, ((LS a bad c nm pa lo d ++ ([tSl x 23 2 insv o] ++ [tBlk xb 23 v]))[rest.length + 5]?).map Thing.holds = some (tBlk xb 23 v).holds := fun a bad c d x v => by
   rw [List.getElem?_append_right (by rw [hLl]; omega), hLl]
   rw [show rest.length + 5 - (rest.length + 4) = 1 by omega]; rfl
  have LX' : ∀ a bad c d x v, (LS a bad c nm pa lo d ++ ([tSl x 23 2 insv o] ++ [tBlk xb 23 v]))[rest.length + 5]? = some (tBlk xb 23 v) := fun a bad c d x v => by
   rw [List.getElem?_append_right (by rw [hLl]; omega), hLl]
   rw [show rest.length + 5 - (rest.length + 4) = 1 by omega]; rfl
  have sX : ∀ a bad c d x v v', (LS a bad c nm pa lo d ++ ([tSl x 23 2 insv o] ++ [tBlk xb 23 v])).set (rest.length + 5) (tBlk xb 23 v') = LS a bad c nm pa lo d ++ ([tSl x 23 2 insv o] ++ [tBlk xb 23 v']) := fun a bad c d x v v' => by
   rw [List.set_append_right _ _ (by rw [hLl]; omega), hLl]
   rw [show rest.length + 5 - (rest.length + 4) = 1 by omega]; rfl
  refine h.ld0 (k := .i .i64) (x := op) (rest.length + 5) (LX _ _ _ _ _ _) rfl ?_
  refine HasA_spec h fun w7 h => ?_
  refine ⟨fun w' => ∃ (a7 : Nat) (b7 : Bool) (v : Int), a7 ≤ l.length ∧ ((b7 = false ∧ insD l a5 = .ok ((op, v), a7)) ∨ (b7 = true ∧ insD l a5 = .error a7)) ∧ Hp S w0 w' (LS a7 b7 (code + n) nm pa lo sl ++ ([tSl sl 23 2 insv o] ++ [tBlk xb 23 [.int .i64 op, .int .i64 v]])), ?_, ?_⟩
  ·refine ⟨fun t w' => t = ((row op).num && !b6) ∧ Hp S w0 w' (LS a6 b6 (code + n) nm pa lo sl ++ ([tSl sl 23 2 insv o] ++ [tBlk xb 23 [.int .i64 op, .int .i64 0]])), ?_, ?_⟩
   ·cases hnum : (row op).num with
    | true =>
     refine ifT rfl ?_
     rw [NN_some]
     refine h.ld (n := 2) (k := .b) (x := b6) 0 (L0 _ _ _ _ _ _ _ _) rfl ?_
     exact And.intro (by simp) h
    | false => exact ifF (by decide) ⟨rfl, h⟩
   clear h
   rintro t w8 ⟨rfl, h⟩
   cases b6 with
   | true =>
    refine ifF (by simp) ⟨a6, true, 0, ha6, .inr ⟨rfl, ?_⟩, h⟩
    rcases hop with ⟨_, _, g⟩ | ⟨_, g1, _⟩ | ⟨g, _⟩
    ·cases g
    ·unfold insD; rw [g1]; rfl
    ·cases g
   | false =>
    have hopD : numD l 1 39 a5 = .ok (op, a6) := by
     rcases hop with ⟨_, g1, _⟩ | ⟨_, _, g⟩ | ⟨g, _⟩
     ·exact g1
     ·cases g
     ·cases g
    cases hnum : (row op).num with
    | false =>
     refine ifF (by decide) ⟨a6, false, 0, ha6, .inl ⟨rfl, ?_⟩, h⟩
     unfold insD
     rw [hopD, bnd_ok, if_neg (by rw [hnum]; decide)]
    | true =>
     refine ifT rfl ?_
     refine h.dr fun w8 h => ?_
     rw [NN_some]
     refine h.ld0 (k := .sl) (x := b) 0 (L0 _ _ _ _ _ _ _ _) rfl ?_
     rw [NN_some]
     refine h.ld (n := 1) (k := .i .i64) (x := a6) 0 (L0 _ _ _ _ _ _ _ _) rfl ?_
     refine hs.cut ha6 fun s q1 q2 q3 q4 => ?_
     refine RGetInt_spec h 1 (u := ub) (L1 _ _ _ _ _ _ _ _) q1 q2 q4 ?_
     have hg := getU_range q2
     rw [List.length_drop] at hg
     have hi2 : (getI (l.drop a6)).2 = (getU (l.drop a6)).2 := rfl
     refine ⟨fun w' => ∃ b7 : Bool, ((b7 = false ∧ (getI (l.drop a6)).2 ≠ 0) ∨ (b7 = true ∧ (getI (l.drop a6)).2 = 0)) ∧ Hp S w0 w' (LS a6 b7 (code + n) nm pa lo sl ++ ([tSl sl 23 2 insv o] ++ [tBlk xb 23 [.int .i64 op, .int .i64 0]])), ?_, ?_⟩
     ·by_cases hz : (getI (l.drop a6)).2 = 0
      ·refine ifT (by rw [hz]; rfl) ?_
       rw [NN_some]
       refine h.st (n := 2) 0 (L0' _ _ _ _ _ _ _ _) (by simp) rfl fun w9 h => ?_
       refine ⟨true, .inr ⟨rfl, hz⟩, ?_⟩
       rw [← s0 a6 false (code + n) nm pa lo sl a6 true (code + n)]; exact h
      ·exact ifF (by simpa using hz) ⟨false, .inl ⟨rfl, hz⟩, h⟩
     clear h
     rintro w9 ⟨b7, hb7, h⟩
     rw [NN_some]
     refine h.ld (n := 1) (k := .i .i64) (x := a6) 0 (L0 _ _ _ _ _ _ _ _) rfl ?_
     rw [NN_some]
     have e5 : IntKind.i64.wrap ((a6 : Int) + (getI (l.drop a6)).2) = ((a6 + (getI (l.drop a6)).2.toNat : Nat) : Int) := by rw [wr64 (by omega) (by omega)]; omega
     refine h.st (n := 1) 0 (L0' _ _ _ _ _ _ _ _) (by simp) rfl fun w9 h => ?_
     rw [e5] at h
     have h : Hp S w0 w9 (LS (a6 + (getI (l.drop a6)).2.toNat) b7 (code + n) nm pa lo sl ++ ([tSl sl 23 2 insv o] ++ [tBlk xb 23 [.int .i64 op, .int .i64 0]])) := by
      rw [← s0 a6 b7 (code + n) nm pa lo sl (a6 + (getI (l.drop a6)).2.toNat) b7 (code + n)]; exact h
     refine h.st (n := 1) (rest.length + 5) (LX' _ _ _ _ _ _) (by simp) rfl fun w9 h => ?_
     have h : Hp S w0 w9 (LS (a6 + (getI (l.drop a6)).2.toNat) b7 (code + n) nm pa lo sl ++ ([tSl sl 23 2 insv o] ++ [tBlk xb 23 [.int .i64 op, .int .i64 (getI (l.drop a6)).1]])) := by
      rw [← sX (a6 + (getI (l.drop a6)).2.toNat) b7 (code + n) sl sl [.int .i64 op, .int .i64 0]]; exact h
     refine ⟨_, b7, _, by omega, ?_, h⟩
     have hD : insD l a5 = bnd (intD l a6) fun x a => .ok ((op, x), a) := by
      unfold insD
      rw [hopD, bnd_ok, if_pos hnum]
     rw [hD]
     unfold intD
     rcases hb7 with ⟨g1, g2⟩ | ⟨g1, g2⟩
     ·exact .inl ⟨g1, by rw [if_neg g2]; rfl⟩
     ·refine .inr ⟨g1, ?_⟩
      rw [if_pos g2, g2]
      rfl
  clear h hop hopb
  rintro w8 ⟨a7, b7, v, ha7, hins, h⟩
  refine h.ld (n := 3) (k := .sl) (x := sl) (rest.length + 3) (LO' _ _ _ _ _ _ _ _) rfl ?_
  refine h.ld0 (k := .i .i64) (x := op) (rest.length + 5) (LX _ _ _ _ _ _) rfl ?_
  refine h.ld (n := 1) (k := .i .i64) (x := v) (rest.length + 5) (LX _ _ _ _ _ _) rfl ?_
  have g4 : (LS a7 b7 (code + n) nm pa lo sl ++ ([tSl sl 23 2 insv o] ++ [tBlk xb 23 [.int .i64 op, .int .i64 v]]))[rest.length + 4]? = some (tSl sl 23 2 insv o) := by
   rw [List.getElem?_append_right (by rw [hLl]; omega), hLl, Nat.sub_self]; rfl
  have hsl := h.len (s := sl) (e := 23) (n := 2) (f := insv) (l := o) (rest.length + 4) (by rw [g4]; rfl)
  refine h.nwapp (rest.length + 4) ((op, v) : Ins) g4 insv_len und28 i1 i3 i2 rfl rfl (by simp [Value.oneCell']) (by rw [i4]; omega) (by omega) fun s4 w9 h _ _ => ?_
  have e6 : (LS a7 b7 (code + n) nm pa lo sl ++ ([tSl sl 23 2 insv o] ++ [tBlk xb 23 [.int .i64 op, .int .i64 v]])).set (rest.length + 4) (tSl s4 23 2 insv (o ++ [(op, v)])) = LS a7 b7 (code + n) nm pa lo sl ++ [tSl s4 23 2 insv (o ++ [(op, v)])] ++ [tBlk xb 23 [.int .i64 op, .int .i64 v]] := by
   rw [List.set_append_right _ _ (by rw [hLl]; omega), hLl, Nat.sub_self]; simp
  rw [e6] at h
  have h := h.front
  refine h.st (n := 3) (rest.length + 3) (LO _ _ _ _ _ _ _ _) (by simp) rfl fun w9 h => ?_
  have h : Hp S w0 w9 (LS a7 b7 (code + n) nm pa lo s4 ++ [tSl s4 23 2 insv (o ++ [(op, v)])]) := by
   rw [← sO a7 b7 (code + n) nm pa lo sl nm pa lo s4]; exact h
  refine ⟨n.toNat - (k + 1), by omega, k + 1, a7, b7, o ++ [(op, v)], s4, by rw [wr64 (by omega) (by omega)]; omega, by omega, rfl, by simp; omega, ha7, h, ?_⟩
  rcases hins with ⟨g1, g2⟩ | ⟨g1, g2⟩
  ·exact .inr ⟨g1, hF0, codeF_step hlt hF g2⟩
  ·exact .inl ⟨g1, by rw [hF0, codeF_err hlt hF g2]; rfl⟩
end
abbrev STD (rb : Nat) (b : Sl) (ub : Thing) (rest : List Thing) (A P : Nat) (a : Nat) (bad : Bool) (code : Int) (ss : Sl) (sy : List SY) (fs : Sl) (fn : List RT) : List Thing :=
 rdD rb b a bad code :: ub :: ([tBlk A 37 [.slice none 0 0, .slice none 0 0], tBlk P 37 [.slice ss.a ss.len ss.cap, .slice fs.a fs.len fs.cap], tSyN ss sy, tFnN fs fn] ++ rest)
def TF (l : List Int) (s : List SY) (f : List RT × Int) (a : Nat) : Except Nat PG := if a < l.length then .error a else .ok ⟨s, f.1⟩
def TS (l : List Int) (s : List SY × Int) (a : Nat) : Except Nat PG := bnd (numD l 0 16 a) fun m a => bnd (fnsF l m.toNat s.2 a) (TF l s.1)
theorem pgD_eq (l : List Int) : pgD l = bnd (numD l 0 16 0) fun n a => bnd (sysF l n.toNat 2000 a) (TS l) := rfl
section
variable {S : List Nat} {w0 w : World} {its rest : List Thing}
theorem sys_zero (h : Hp S w0 w its) {K : Addr → World → Prop} (hK : ∀ b w', Hp S w0 w' (its ++ [tBlk b 54 (c8v nil4)]) → K ⟨b, 0, none⟩ w') :
  Nw (.cells #[.slice none 0 0, .slice none 0 0, .slice none 0 0, .slice none 0 0, .string (⟨#[]⟩ : ByteArray), .int .i64 0, .int .i64 0, .slice none 0 0] 54) w fun (s : Addr) (w : World) =>
   St s (.slice none 0 0) w fun (w : World) => St (s.add 1) (.slice none 0 0) w fun (w : World) => St (s.add 2) (.slice none 0 0) w fun (w : World) => St (s.add 3) (.slice none 0 0) w fun (w : World) =>
   St (s.add 4) (.string (⟨#[]⟩ : ByteArray)) w fun (w : World) => St (s.add 5) (.int .i64 0) w fun (w : World) => St (s.add 6) (.int .i64 0) w fun (w : World) => St (s.add 7) (.slice none 0 0) w fun (w : World) => K s w :=
 sys_copy h ⟨⟨none, 0, 0⟩, ⟨none, 0, 0⟩, ⟨none, 0, 0⟩, ⟨none, 0, 0⟩, [], [], [], [], ⟨⟨#[]⟩, 0, 0, ⟨none, 0, 0⟩, []⟩⟩ hK
theorem one_set {rb sb : Nat} {b : Sl} {a a0 : Nat} {bad : Bool} {code : Int} {ub : Thing} {l : List Int} {ys : List SI} {j : Nat} {X : List Thing} (hj : j < 4) (hys : ys.length = 4) (h : Hp S w0 w (rdD rb b a bad code :: ub :: X ++ [tBlk sb 54 (c8v ys)] ++ ys.map tS)) (hs : Src ub b l) (ha : a ≤ l.length)
  (hst : (bad = true ∧ setsF l 4 a0 = .error a) ∨ (bad = false ∧ setsF l 4 a0 = bnd (setsF l (4 - j) a) (fun r x => .ok ((ys.take j).map (·.2) ++ r, x)))) {R : World → Prop}
  (hR : ∀ (ys' : List SI) a' bad' w', ys'.length = 4 → a' ≤ l.length → Hp S w0 w' (rdD rb b a' bad' code :: ub :: X ++ [tBlk sb 54 (c8v ys')] ++ ys'.map tS) →
   ((bad' = true ∧ setsF l 4 a0 = .error a') ∨ (bad' = false ∧ setsF l 4 a0 = bnd (setsF l (4 - (j + 1)) a') (fun r x => .ok ((ys'.take (j + 1)).map (·.2) ++ r, x)))) → R w') :
  c39 (some ⟨rb, 0, none⟩) w fun (r : Sl) (w : World) => St ((⟨sb, 0, none⟩ : Addr).add j) (.slice r.a r.len r.cap) w fun (w : World) => R w := by
 have h : Hp S w0 w (rdD rb b a bad code :: ub :: (X ++ [tBlk sb 54 (c8v ys)] ++ ys.map tS)) := h
 refine Rset_rd h hs ha fun s x a2 b2 w2 hx hax hxl h => ?_
 have h : Hp S w0 w2 ((rdD rb b a2 b2 code :: ub :: X ++ [tBlk sb 54 (c8v ys)] ++ ys.map tS) ++ [] ++ [tS (s, x)]) := by simpa [tS] using h
 have h := h.into (i := (rdD rb b a2 b2 code :: ub :: X ++ [tBlk sb 54 (c8v ys)]).length + j) (by simp only [List.length_append, List.length_map]; omega)
 rw [List.set_append_right _ _ (by omega), Nat.add_sub_cancel_left, ← List.map_set] at h
 refine h.st (n := j) (rdD rb b a2 b2 code :: ub :: X).length mid1 (by simp [c8v]; omega) rfl fun w3 h => ?_
 rw [List.set_append_left _ _ (by simp), set_last, c8v_set (by omega) (s, x)] at h
 refine hR (ys.set j (s, x)) a2 b2 w3 (by simpa using hys) hax h ?_
 rcases hst with ⟨g1, g2⟩ | ⟨g1, g2⟩
 ·rcases hx with ⟨k, _⟩ | ⟨k, _⟩ | ⟨_, k1, k2⟩
  ·rw [g1] at k; cases k
  ·rw [g1] at k; cases k
  ·exact .inl ⟨k2, by rw [g2, k1]⟩
 ·obtain ⟨q, hq⟩ : ∃ q, 4 - j = q + 1 := ⟨3 - j, by omega⟩
  have hq2 : 4 - (j + 1) = q := by omega
  rcases hx with ⟨_, k1, k2⟩ | ⟨_, k1, k2⟩ | ⟨k, _⟩
  ·refine .inr ⟨k2, ?_⟩
   rw [g2, hq, hq2, take_set_succ (by omega)]
   show bnd (bnd (setD l a) _) _ = _
   rw [k1, bnd_ok]
   cases setsF l q a2 with
   | error e => rfl
   | ok r => simp [bnd]
  ·refine .inl ⟨k2, ?_⟩
   rw [g2, hq]
   show bnd (bnd (setD l a) _) _ = _
   rw [k1]; rfl
  ·rw [g1] at k; cases k
set_option maxHeartbeats 8000000 in
theorem RDecode_spec {b : Sl} {ub : Thing} {l : List Int} (h : Hp S w0 w (ub :: rest)) (hs : Src ub b l)
  {K : Sl → Sl → Int → Int → World → Prop}
  (hok : ∀ p, pgD l = .ok p → ∀ s1 s2 w', Hp S w0 w' (ub :: rest ++ [tSyN s1 p.sys, tFnN s2 p.fns]) → K s1 s2 0 0 w')
  (herr : ∀ e : Nat, pgD l = .error e → ∀ w', Hp S w0 w' (ub :: rest) → K ⟨none, 0, 0⟩ ⟨none, 0, 0⟩ e 130 w') : c17 b w K := by
 refine c17_of ?_
 unfold f17
 obtain ⟨inf, i1, i2, i3, i4⟩ := inf54
 obtain ⟨inf', j1, j2, j3, j4⟩ := inf30
 have hln := hs.len
 refine h.nw fun A w1 h => ?_
 refine h.nw fun rb w1 h => ?_
 refine pg_copy h (s1 := ⟨none, 0, 0⟩) (s2 := ⟨none, 0, 0⟩) fun P w1 h => ?_
 have h := (h.nest_nil 54 8 syv subY SV.m).nest_nil 30 4 rtv subI RV.r
 have h : Hp S w0 w1 (([ub] ++ rest ++ [tBlk A 37 [.slice none 0 0, .slice none 0 0]]) ++ [rdD rb b (0 : Nat) false 0] ++ [tBlk P 37 [.slice none 0 0, .slice none 0 0], tSyN ⟨none, 0, 0⟩ [], tFnN ⟨none, 0, 0⟩ []]) := by
  simp only [List.append_assoc, List.cons_append, List.nil_append] at h ⊢
  exact h
 have h := h.rot
 have h : Hp S w0 w1 ([rdD rb b (0 : Nat) false 0, ub] ++ rest ++ [tBlk A 37 [.slice none 0 0, .slice none 0 0], tBlk P 37 [.slice none 0 0, .slice none 0 0], tSyN ⟨none, 0, 0⟩ [], tFnN ⟨none, 0, 0⟩ []]) := by
  simp only [List.append_assoc, List.cons_append, List.nil_append] at h ⊢
  exact h
 have h := h.swap2
 have h : Hp S w0 w1 (STD rb b ub rest A P 0 false 0 ⟨none, 0, 0⟩ [] ⟨none, 0, 0⟩ []) := by
  simp only [List.append_assoc, List.cons_append, List.nil_append] at h ⊢
  exact h
 refine Rnumber_spec h hs (by omega) (by decide) (by decide) (fun _ => by decide) fun n a1 b1 w2 hn hnb ha1 h => ?_
 have h : Hp S w0 w2 (STD rb b ub rest A P a1 b1 0 ⟨none, 0, 0⟩ [] ⟨none, 0, 0⟩ []) := h
 have hnr : 0 ≤ n ∧ n ≤ 16 := by
  rcases hn with ⟨_, h1, _⟩ | ⟨_, _, h1⟩ | ⟨h1, _⟩
  ·obtain ⟨n1, n2, n3, _⟩ := numD_ok hs.by_ h1; omega
  ·have := (hnb h1).1; omega
  ·cases h1
 have start : (b1 = true ∧ pgD l = .error a1) ∨ (b1 = false ∧ pgD l = bnd (sysF l n.toNat 2000 a1) (TS l)) := by
  rw [pgD_eq]
  rcases hn with ⟨_, g1, g2⟩ | ⟨_, g1, g2⟩ | ⟨g, _⟩
  ·exact .inr ⟨g2, by rw [g1, bnd_ok]⟩
  ·exact .inl ⟨g2, by rw [g1]; rfl⟩
  ·cases g
 clear hn hnb
 -- all that stands behind the systems
 refine ⟨fun w' => ∃ (a' : Nat) (bd : Bool) (code : Int) (sy : List SY) (ss : Sl), a' ≤ l.length ∧ 0 ≤ code ∧ code ≤ 2000 ∧ Hp S w0 w' (STD rb b ub rest A P a' bd code ss sy ⟨none, 0, 0⟩ []) ∧
   ((bd = true ∧ pgD l = .error a') ∨ (bd = false ∧ pgD l = TS l (sy, 2000 - code) a')), ?_, ?_⟩
 ·refine ⟨fun i m w' => ∃ (k a' : Nat) (bd : Bool) (code : Int) (sy : List SY) (ss : Sl), i = k ∧ k ≤ n.toNat ∧ m = n.toNat - k ∧ sy.length = k ∧ a' ≤ l.length ∧ 0 ≤ code ∧ code ≤ 2000 ∧ Hp S w0 w' (STD rb b ub rest A P a' bd code ss sy ⟨none, 0, 0⟩ []) ∧
    ((bd = true ∧ pgD l = .error a') ∨ (bd = false ∧ pgD l = bnd (bnd (sysF l (n.toNat - k) (2000 - code) a') (fun r x => .ok ((sy ++ r.1, r.2), x))) (TS l))),
   ⟨n.toNat, 0, a1, b1, 0, [], ⟨none, 0, 0⟩, rfl, by omega, by omega, rfl, ha1, by decide, by decide, h, ?_⟩, ?_⟩
  ·rcases start with h1 | ⟨h1, h2⟩
   ·exact .inl h1
   ·refine .inr ⟨h1, ?_⟩
    rw [h2, Nat.sub_zero, show (2000 : Int) - 0 = 2000 by decide]
    congr 1
    cases sysF l n.toNat 2000 a1 with
    | error e => rfl
    | ok x => rfl
  clear h start
  rintro i m w3 ⟨k, a2, bd, code, sy, ss, rfl, hk, rfl, hsy, ha2, hc0, hc1, h, hst⟩
  refine ⟨fun w' => bd = false ∧ k < n.toNat ∧ w' = w3, ?_, ?_⟩
  ·by_cases hlt : k < n.toNat
   ·refine ifT (by simp; omega) ?_
    refine h.ld (n := 2) (k := .b) (x := bd) 0 rfl rfl ?_
    cases bd with
    | true =>
     refine ifF (by decide) ?_
     rcases hst with ⟨_, h2⟩ | ⟨g, _⟩
     ·exact ⟨a2, true, code, sy, ss, ha2, hc0, hc1, h, .inl ⟨rfl, h2⟩⟩
     ·cases g
    | false => exact ifT rfl ⟨rfl, hlt, rfl⟩
   ·refine ifF (by simp; omega) ⟨a2, bd, code, sy, ss, ha2, hc0, hc1, h, ?_⟩
    rcases hst with h1 | ⟨g1, g2⟩
    ·exact .inl h1
    ·refine .inr ⟨g1, ?_⟩
     have e : n.toNat - k = 0 := by omega
     rw [g2, e]
     show TS l (sy ++ [], 2000 - code) a2 = _
     rw [List.append_nil]
  rintro w7 ⟨hb2, hlt, hw⟩
  subst hb2
  rw [hw]
  clear hw w7
  rcases hst with ⟨hb, _⟩ | ⟨_, hF⟩
  ·cases hb
  obtain ⟨q, hq⟩ : ∃ q, n.toNat - k = q + 1 := ⟨n.toNat - k - 1, by omega⟩
  rw [hq] at hF
  refine sys_zero h fun sb w4 h => ?_
  have h := (((h.nil 3 1 iv).nil 3 1 iv).nil 3 1 iv).nil 3 1 iv
  obtain ⟨X, hX⟩ : ∃ X, X = [tBlk A 37 [.slice none 0 0, .slice none 0 0], tBlk P 37 [.slice ss.a ss.len ss.cap, .slice none 0 0], tSyN ss sy, tFnN ⟨none, 0, 0⟩ []] ++ rest := ⟨_, rfl⟩
  have h : Hp S w0 w4 (rdD rb b a2 false code :: ub :: X ++ [tBlk sb 54 (c8v nil4)] ++ nil4.map tS) := by rw [hX]; simpa [nil4, tS] using h
  have e0 : (⟨sb, 0, none⟩ : Addr) = (⟨sb, 0, none⟩ : Addr).add 0 := rfl
  have h4 : setsF l 4 a2 = bnd (setsF l (4 - 0) a2) (fun r x => .ok ((nil4.take 0).map (·.2) ++ r, x)) := by
   cases setsF l 4 a2 with
   | error e => rfl
   | ok x => rfl
  refine one_set (j := 0) (by decide) rfl h hs ha2 (.inr ⟨rfl, h4⟩) fun y0 a3 b3 w4 hy0 ha3 h t0 => ?_
  refine one_set (j := 1) (by decide) hy0 h hs ha3 t0 fun y1 a4 b4 w4 hy1 ha4 h t1 => ?_
  refine one_set (j := 2) (by decide) hy1 h hs ha4 t1 fun y2 a5 b5 w4 hy2 ha5 h t2 => ?_
  refine one_set (j := 3) (by decide) hy2 h hs ha5 t2 fun ys a6 b6 w4 hys ha6 h t3 => ?_
  clear t0 t1 t2 h4
  have t3 : (b6 = true ∧ setsF l 4 a2 = .error a6) ∨ (b6 = false ∧ setsF l 4 a2 = .ok (ys.map (·.2), a6)) := by
   rcases t3 with g | ⟨g1, g2⟩
   ·exact .inl g
   ·refine .inr ⟨g1, ?_⟩
    rw [g2, List.take_of_length_le (by omega)]
    show bnd (.ok ([], a6)) _ = _
    simp [bnd]
  have h : Hp S w0 w4 (rdD rb b a6 b6 code :: ub :: (X ++ [tBlk sb 54 (c8v ys)] ++ ys.map tS)) := h
  refine Rroutine_rd h hs ha6 hc0 hc1 fun nm pa lo sl c a7 b7 code' w6 hr ha7 hd0 hd1 h => ?_
  obtain ⟨y0, y1, y2, y3, rfl⟩ : ∃ y0 y1 y2 y3, ys = [y0, y1, y2, y3] := by
   match ys, hys with
   | [y0, y1, y2, y3], _ => exact ⟨y0, y1, y2, y3, rfl⟩
  obtain ⟨x, hx⟩ : ∃ x : SV, x = ⟨y0.1, y1.1, y2.1, y3.1, y0.2, y1.2, y2.2, y3.2, ⟨nm, pa, lo, sl, c⟩⟩ := ⟨_, rfl⟩
  have h : Hp S w0 w6 ((STD rb b ub rest A P a7 b7 code' ss sy ⟨none, 0, 0⟩ [] ++ [tBlk sb 54 (c8v [y0, y1, y2, y3])]) ++ (x.sls.map tS ++ [subI x.run])) := by
   rw [hX] at h
   rw [hx]
   simpa [SV.sls, subI] using h
  have h := h.gather _ rfl
  have h : Hp S w0 w6 (STD rb b ub rest A P a7 b7 code' ss sy ⟨none, 0, 0⟩ [] ++ [tBlk sb 54 (c8v [y0, y1, y2, y3])] ++ [subY x]) := h
  refine h.st (n := 4) (STD rb b ub rest A P a7 b7 code' ss sy ⟨none, 0, 0⟩ []).length mid1 (by simp [c8v]) rfl fun w6 h => ?_
  rw [List.set_append_left _ _ (by simp), set_last] at h
  rw [Addr.add_add_any, Addr.add_add_any, Addr.add_add_any]
  refine h.st (n := 5) (STD rb b ub rest A P a7 b7 code' ss sy ⟨none, 0, 0⟩ []).length mid1 (by simp [c8v]) rfl fun w6 h => ?_
  rw [List.set_append_left _ _ (by simp), set_last] at h
  refine h.st (n := 6) (STD rb b ub rest A P a7 b7 code' ss sy ⟨none, 0, 0⟩ []).length mid1 (by simp [c8v]) rfl fun w6 h => ?_
  rw [List.set_append_left _ _ (by simp), set_last] at h
  refine h.st (n := 7) (STD rb b ub rest A P a7 b7 code' ss sy ⟨none, 0, 0⟩ []).length mid1 (by simp [c8v]) rfl fun w6 h => ?_
  rw [List.set_append_left _ _ (by simp), set_last] at h
  have h : Hp S w0 w6 (STD rb b ub rest A P a7 b7 code' ss sy ⟨none, 0, 0⟩ [] ++ [tBlk sb 54 (syv x)] ++ [subY x]) := by
   rw [hx] at h ⊢
   exact h
  refine h.ld0 (k := .sl) (x := ss) 3 rfl rfl ?_
  have hb0 : ((STD rb b ub rest A P a7 b7 code' ss sy ⟨none, 0, 0⟩ [] ++ [tBlk sb 54 (syv x)] ++ [subY x])[(STD rb b ub rest A P a7 b7 code' ss sy ⟨none, 0, 0⟩ []).length]?).map Thing.holds = some (tBlk sb 54 (syv x)).holds := by rw [mid1]; rfl
  refine h.ld0 (k := .sl) (x := x.a) _ hb0 rfl ?_
  refine h.ld (n := 1) (k := .sl) (x := x.b) _ hb0 rfl ?_
  refine h.ld (n := 2) (k := .sl) (x := x.c) _ hb0 rfl ?_
  refine h.ld (n := 3) (k := .sl) (x := x.d) _ hb0 rfl ?_
  refine h.ld (n := 4) (k := .s) (x := x.run.nm) _ hb0 rfl ?_
  refine h.ld (n := 5) (k := .i .i64) (x := x.run.pa) _ hb0 rfl ?_
  refine h.ld (n := 6) (k := .i .i64) (x := x.run.lo) _ hb0 rfl ?_
  refine h.ld (n := 7) (k := .sl) (x := x.run.sl) _ hb0 rfl ?_
  have hsee := h.nest_see (e := 54) (n := 8) (cells := syv) (sub := subY) (vis := SV.m) (s := ss) (l := sy) 4 rfl
  refine h.nest_app (c := syv x) 4 ((STD rb b ub rest A P a7 b7 code' ss sy ⟨none, 0, 0⟩ []).length + 1) (by simp) x rfl last2 (subY_own x) syv_len und35 i1 i3 i2 rfl rfl (by simp [Value.oneCell']) (by rw [i4]; omega) (by omega) fun s2 w8 h _ => ?_
  rw [set_two (by simp)] at h
  have h := h.front.front
  refine h.st0 3 rfl (by simp) rfl fun w9 h => ?_
  refine ⟨n.toNat - (k + 1), by omega, k + 1, a7, b7, code', sy ++ [x.m], s2, by rw [wr64 (by omega) (by omega)]; omega, by omega, rfl, by simp; omega, ha7, hd0, hd1, h, ?_⟩
  have hq2 : n.toNat - (k + 1) = q := by omega
  have hE : sysF l (q + 1) (2000 - code) a2 = bnd (setsF l 4 a2) fun x a => bnd (rtD l (2000 - code) a) fun r a => bnd (sysF l q r.2 a) fun t a => .ok ((syOf x r.1 :: t.1, t.2), a) := rfl
  rw [hE] at hF
  rcases t3 with ⟨g1, g2⟩ | ⟨g1, g2⟩
  ·rcases hr with ⟨g, _⟩ | ⟨g, _⟩ | ⟨_, r1, r2⟩
   ·rw [g1] at g; cases g
   ·rw [g1] at g; cases g
   ·exact .inl ⟨r2, by rw [hF, g2, r1]; rfl⟩
  ·rw [g2, bnd_ok] at hF
   rcases hr with ⟨_, r1, r2⟩ | ⟨_, r1, r2⟩ | ⟨g, _⟩
   ·refine .inr ⟨r2, ?_⟩
    rw [hF, r1, bnd_ok, hq2]
    have ex : syOf ([y0, y1, y2, y3].map (·.2)) ⟨nm, pa, lo, c⟩ = x.m := by rw [hx]; rfl
    congr 1
    show bnd (bnd (sysF l q (2000 - code') a7) _) _ = _
    rw [ex]
    cases sysF l q (2000 - code') a7 with
    | error e => rfl
    | ok r => simp [bnd]
   ·exact .inl ⟨r2, by rw [hF, r1]; rfl⟩
   ·rw [g1] at g; cases g
 clear h start
 rintro w3 ⟨a2, b2, code, sy, ss, ha2, hc0, hc1, h, hst⟩
 refine Rnumber_spec h hs ha2 (by decide) (by decide) (fun _ => by decide) fun m a3 b3 w4 hm hmb ha3 h => ?_
 have h : Hp S w0 w4 (STD rb b ub rest A P a3 b3 code ss sy ⟨none, 0, 0⟩ []) := h
 have hmr : 0 ≤ m ∧ m ≤ 16 := by
  rcases hm with ⟨_, h1, _⟩ | ⟨_, _, h1⟩ | ⟨_, _, h1⟩
  ·obtain ⟨n1, n2, n3, _⟩ := numD_ok hs.by_ h1; omega
  ·have := (hmb h1).1; omega
  ·have := (hmb h1).1; omega
 have start : (b3 = true ∧ pgD l = .error a3) ∨ (b3 = false ∧ pgD l = bnd (fnsF l m.toNat (2000 - code) a3) (TF l sy)) := by
  rcases hst with ⟨k1, k2⟩ | ⟨k1, k2⟩
  ·rcases hm with ⟨g, _⟩ | ⟨g, _⟩ | ⟨_, g1, g2⟩
   ·rw [k1] at g; cases g
   ·rw [k1] at g; cases g
   ·exact .inl ⟨g2, by rw [k2, g1]⟩
  ·rw [k2]
   unfold TS
   rcases hm with ⟨_, g1, g2⟩ | ⟨_, g1, g2⟩ | ⟨g, _⟩
   ·exact .inr ⟨g2, by rw [g1, bnd_ok]⟩
   ·exact .inl ⟨g2, by rw [g1]; rfl⟩
   ·rw [k1] at g; cases g
 clear hm hmb hst
 refine ⟨fun w' => ∃ (a' : Nat) (bd : Bool) (code' : Int) (fn : List RT) (fs : Sl), a' ≤ l.length ∧ Hp S w0 w' (STD rb b ub rest A P a' bd code' ss sy fs fn) ∧
   ((bd = true ∧ pgD l = .error a') ∨ (bd = false ∧ pgD l = TF l sy (fn, 2000 - code') a')), ?_, ?_⟩
 ·refine ⟨fun i mm w' => ∃ (k a' : Nat) (bd : Bool) (code' : Int) (fn : List RT) (fs : Sl), i = k ∧ k ≤ m.toNat ∧ mm = m.toNat - k ∧ fn.length = k ∧ a' ≤ l.length ∧ 0 ≤ code' ∧ code' ≤ 2000 ∧ Hp S w0 w' (STD rb b ub rest A P a' bd code' ss sy fs fn) ∧
    ((bd = true ∧ pgD l = .error a') ∨ (bd = false ∧ pgD l = bnd (bnd (fnsF l (m.toNat - k) (2000 - code') a') (fun r x => .ok ((fn ++ r.1, r.2), x))) (TF l sy))),
   ⟨m.toNat, 0, a3, b3, code, [], ⟨none, 0, 0⟩, rfl, by omega, by omega, rfl, ha3, hc0, hc1, h, ?_⟩, ?_⟩
  ·rcases start with h1 | ⟨h1, h2⟩
   ·exact .inl h1
   ·refine .inr ⟨h1, ?_⟩
    rw [h2, Nat.sub_zero]
    congr 1
    cases fnsF l m.toNat (2000 - code) a3 with
    | error e => rfl
    | ok x => rfl
  clear h start
  rintro i mm w5 ⟨k, a4, bd, code', fn, fs, rfl, hk, rfl, hfn, ha4, hd0, hd1, h, hst⟩
  refine ⟨fun w' => bd = false ∧ k < m.toNat ∧ w' = w5, ?_, ?_⟩
  ·by_cases hlt : k < m.toNat
   ·refine ifT (by simp; omega) ?_
    refine h.ld (n := 2) (k := .b) (x := bd) 0 rfl rfl ?_
    cases bd with
    | true =>
     refine ifF (by decide) ?_
     rcases hst with ⟨_, h2⟩ | ⟨g, _⟩
     ·exact ⟨a4, true, code', fn, fs, ha4, h, .inl ⟨rfl, h2⟩⟩
     ·cases g
    | false => exact ifT rfl ⟨rfl, hlt, rfl⟩
   ·refine ifF (by simp; omega) ⟨a4, bd, code', fn, fs, ha4, h, ?_⟩
    rcases hst with h1 | ⟨g1, g2⟩
    ·exact .inl h1
    ·refine .inr ⟨g1, ?_⟩
     have e : m.toNat - k = 0 := by omega
     rw [g2, e]
     show TF l sy (fn ++ [], 2000 - code') a4 = _
     rw [List.append_nil]
  rintro w7 ⟨hb2, hlt, hw⟩
  subst hb2
  rw [hw]
  clear hw w7
  rcases hst with ⟨hb, _⟩ | ⟨_, hF⟩
  ·cases hb
  obtain ⟨q, hq⟩ : ∃ q, m.toNat - k = q + 1 := ⟨m.toNat - k - 1, by omega⟩
  rw [hq] at hF
  refine h.dr fun w6 h => ?_
  refine h.ld (n := 1) (k := .sl) (x := fs) 3 rfl rfl ?_
  refine Rroutine_rd h hs ha4 hd0 hd1 fun nm pa lo sl c a5 b5 code2 w7 hr ha5 he0 he1 h => ?_
  refine ⟨h.cel (n := 1) 3 rfl rfl, ?_⟩
  have hsee := h.nest_see (e := 30) (n := 4) (cells := rtv) (sub := subI) (vis := RV.r) (s := fs) (l := fn) 5 rfl
  have h : Hp S w0 w7 (STD rb b ub rest A P a5 b5 code2 ss sy fs fn ++ [subI ⟨nm, pa, lo, sl, c⟩]) := h
  refine h.nest_app (c := rtv ⟨nm, pa, lo, sl, c⟩) 5 (STD rb b ub rest A P a5 b5 code2 ss sy fs fn).length (by simp) ⟨nm, pa, lo, sl, c⟩ rfl List.getElem?_concat_length rfl rtv_len und24 j1 j3 j2 rfl rfl (by simp [Value.oneCell']) (by rw [j4]; omega) (by omega) fun s2 w8 h _ => ?_
  rw [List.set_append_left _ _ (by simp)] at h
  rw [List.set_append_right _ _ (by simp)] at h
  have h := h.front
  refine h.st (n := 1) 3 rfl (by simp) rfl fun w9 h => ?_
  have h : Hp S w0 w9 (STD rb b ub rest A P a5 b5 code2 ss sy s2 (fn ++ [(⟨nm, pa, lo, c⟩ : RT)])) := h
  refine ⟨m.toNat - (k + 1), by omega, k + 1, a5, b5, code2, fn ++ [(⟨nm, pa, lo, c⟩ : RT)], s2, by rw [wr64 (by omega) (by omega)]; omega, by omega, rfl, by simp; omega, ha5, he0, he1, h, ?_⟩
  have hq2 : m.toNat - (k + 1) = q := by omega
  have hE : fnsF l (q + 1) (2000 - code') a4 = bnd (rtD l (2000 - code') a4) fun r a => bnd (fnsF l q r.2 a) fun t a => .ok ((r.1 :: t.1, t.2), a) := rfl
  rw [hE] at hF
  rcases hr with ⟨_, r1, r2⟩ | ⟨_, r1, r2⟩ | ⟨g, _⟩
  ·refine .inr ⟨r2, ?_⟩
   rw [hF, r1, bnd_ok, hq2]
   congr 1
   show bnd (bnd (fnsF l q (2000 - code2) a5) _) _ = _
   cases fnsF l q (2000 - code2) a5 with
   | error e => rfl
   | ok r => simp [bnd]
  ·exact .inl ⟨r2, by rw [hF, r1]; rfl⟩
  ·cases g
 clear h start
 rintro w5 ⟨a4, b4, code', fn, fs, ha4, h, hst⟩
 have hbl := hs.sl
 refine ⟨fun t w' => (t = true ↔ (b4 = true ∨ a4 < l.length)) ∧ Hp S w0 w' (STD rb b ub rest A P a4 b4 code' ss sy fs fn), ?_, ?_⟩
 ·refine h.ld (n := 2) (k := .b) (x := b4) 0 rfl rfl ?_
  cases b4 with
  | true => exact ifT rfl ⟨by simp, h⟩
  | false =>
   refine ifF (by decide) ?_
   refine h.ld (n := 1) (k := .i .i64) (x := a4) 0 rfl rfl ?_
   refine And.intro ?_ h
   simp
   omega
 clear h
 rintro t w6 ⟨ht, h⟩
 have drop : ∀ {w' : World} {x y : Thing}, Hp S w0 w' ([rdD rb b a4 b4 code', ub, x, y, tSyN ss sy, tFnN fs fn] ++ rest) → Hp S w0 w' (ub :: rest ++ [tSyN ss sy, tFnN fs fn]) := fun {w' x y} h => by
  have h : Hp S w0 w' ([] ++ [rdD rb b a4 b4 code'] ++ ([ub] ++ [x, y] ++ ([tSyN ss sy, tFnN fs fn] ++ rest))) := h
  have h := h.cutMid
  have h : Hp S w0 w' ([ub] ++ [x, y] ++ ([tSyN ss sy, tFnN fs fn] ++ rest)) := h
  have h := h.cutMid
  have h : Hp S w0 w' ([ub] ++ [tSyN ss sy, tFnN fs fn] ++ rest) := by simpa using h
  simpa using h.swap2
 cases t with
 | true =>
  refine ifT rfl ?_
  refine h.dr fun w6 h => ?_
  refine h.ld (n := 1) (k := .i .i64) (x := a4) 0 rfl rfl ?_
  refine h.st0 2 rfl (by simp) rfl fun w7 h => ?_
  refine h.st (n := 1) 2 rfl (by simp) rfl fun w7 h => ?_
  refine ⟨h.cel (n := 1) 0 rfl rfl, ?_⟩
  refine h.ld0 (k := .sl) (x := ⟨none, 0, 0⟩) 2 rfl rfl ?_
  refine h.ld (n := 1) (k := .sl) (x := ⟨none, 0, 0⟩) 2 rfl rfl ?_
  refine herr a4 ?_ w7 (drop h).front
  rcases hst with ⟨_, g⟩ | ⟨g1, g2⟩
  ·exact g
  ·rcases ht.1 rfl with k | k
   ·rw [g1] at k; cases k
   ·rw [g2]; unfold TF; rw [if_pos k]
 | false =>
  refine ifF (by decide) ?_
  have hnb : b4 = false ∧ ¬ a4 < l.length := by
   constructor
   ·cases hb : b4 with
    | false => rfl
    | true => exact absurd (ht.2 (.inl hb)) (by decide)
   ·exact fun k => absurd (ht.2 (.inr k)) (by decide)
  refine h.ld0 (k := .sl) (x := ss) 3 rfl rfl ?_
  refine h.ld (n := 1) (k := .sl) (x := fs) 3 rfl rfl ?_
  refine h.st0 2 rfl (by simp) rfl fun w7 h => ?_
  refine h.st (n := 1) 2 rfl (by simp) rfl fun w7 h => ?_
  refine h.ld0 (k := .sl) (x := ss) 2 rfl rfl ?_
  refine h.ld (n := 1) (k := .sl) (x := fs) 2 rfl rfl ?_
  refine hok ⟨sy, fn⟩ ?_ ss fs w7 (drop h)
  rcases hst with ⟨g, _⟩ | ⟨_, g2⟩
  ·rw [hnb.1] at g; cases g
  ·rw [g2]; unfold TF; rw [if_neg hnb.2]
end
theorem und51 : Tryz.prog.underlying 51 = some (.slice 52) := by kernel_rfl
theorem inf52 : ∃ inf : TypeInfo, Tryz.prog.info? 52 = some inf ∧ inf.zero = some (.slice none 0 0) ∧ inf.size = 1 ∧ inf.bytes = 24 := infoP (by kernel_rfl)
abbrev SC := Sl × List Ins
abbrev siv (y : SI) : List Value := slv y.1
abbrev scv (y : SC) : List Value := slv y.1
abbrev subC (y : SC) : Thing := tSl y.1 23 2 insv y.2
abbrev tCs (s : Sl) (l : List SC) : Thing := tNest 28 1 scv subC id s l
abbrev tIs (s : Sl) (l : List SI) : Thing := tNest 52 1 siv tS id s l
def padI : List Int := List.replicate 80 (-7)
def RelI (r m : Sl) (n : Nat) : Prop := (∀ ls : List Int, ls.length = n + 80 → Hp.Reads (tSl m 3 1 iv ls) r 1 iv (ls.take n)) ∧ r.len = n
def RelC (r m : Sl) (n : Nat) : Prop := (∀ ls : List Ins, ls.length = n + 80 → Hp.Reads (tSl m 23 2 insv ls) r 2 insv (ls.take n)) ∧ r.len = n
section
variable {S : List Nat} {w0 w : World} {its rest : List Thing}
end
structure QS where
 x : SV
 q : SV
 z : Sl
 pw : List (SI × Sl)
structure QS.Ok (y : QS) : Prop where
 m : y.q.m = y.x.m
 sls : ∀ t ∈ y.q.sls, ∃ u ∈ y.pw, RelI t.1 u.1.1 t.2.length ∧ u.1.2 = t.2 ++ padI
 pws : ∀ u ∈ y.pw, ∃ t ∈ y.x.sls, u.2 = t.1 ∧ u.1.2 = t.2 ++ padI
 code : RelC y.q.run.sl y.z y.x.run.code.length
 len : y.pw.length = 4
structure QR where
 x : RV
 q : RV
 z : Sl
structure QR.Ok (y : QR) : Prop where
 m : y.q.r = y.x.r
 code : RelC y.q.sl y.z y.x.code.length
def QS.c (y : QS) : SC := (y.z, y.x.run.code)
def QR.c (y : QR) : SC := (y.z, y.x.code)
abbrev n3 : Sl := ⟨none, 0, 0⟩
structure Small (xs : List SV) (ys : List RV) : Prop where
 n : xs.length ≤ 1048576
 m : ys.length ≤ 1048576
 sys : ∀ x ∈ xs, x.m.Ok ∧ x.run.code.length ≤ 8796093022208 ∧ ∀ y ∈ x.sls, y.2.length ≤ 17592186044416
 fns : ∀ y ∈ ys, y.r.Ok ∧ y.code.length ≤ 8796093022208
section
variable {w0 w : World} {its rest : List Thing}
end
end Go.Proofs.YtmfgofbcnlkolaaGreatDoor.F
end

section
namespace Go.Den
open Go
section
variable {α : Type} {f : α → List Value} {n : Nat} {e : TypeId}
theorem fm_map {β : Type} {g : β → List Value} {l : List α} {l' : List β} (h : l.map f = l'.map g) : l.flatMap f = l'.flatMap g := by
 rw [List.flatMap_def, List.flatMap_def, h]
theorem SlF.conv {β : Type} {g : β → List Value} {w : World} {s : Sl} {l : List α} {l' : List β} {o : List Nat} (hm : l.map f = l'.map g) (h : SlF w s e n f l o) : SlF w s e n g l' o := by
 have hl : l.length = l'.length := by have := congrArg List.length hm; simpa using this
 obtain ⟨h1, h2⟩ := h
 refine ⟨by omega, ?_⟩
 rw [fm_map hm] at h2
 exact h2
theorem map_set_same {β : Type} {g : α → β} {l : List α} {k : Nat} {z z' : α} (hk : l[k]? = some z) (hc : g z' = g z) : (l.set k z').map g = l.map g := by
 rw [List.map_set, hc]
 apply List.ext_getElem?
 intro j
 rw [List.getElem?_set]
 split
 ·rename_i e
  subst e
  have hlt := (List.getElem?_eq_some_iff.1 hk).1
  rw [if_pos (by simpa using hlt), List.getElem?_map, hk]
  rfl
 ·rfl
end
def tHole {X : Type} (e : TypeId) (n : Nat) (cells : X → List Value) (sub : X → Thing) (s : Sl) (l : List X) (k : Nat) : Thing :=
 tStar (tSl s e n cells l) (tAll ((l.map sub).set k tEmp))
theorem tAll_at {ts : List Thing} {t : Thing} {w : World} {O : List Nat} (ht : t ∈ ts) (h : (tAll ts).holds w O) : ∃ O', t.holds w O' ∧ ∀ k ∈ O', k ∈ O := by
 obtain ⟨k, hk⟩ := List.mem_iff_getElem?.1 ht
 obtain ⟨O1, _, h1, _, _, h4⟩ := tAll_pick hk h
 exact ⟨O1, h1, fun k hk => (h4 k).2 (.inl hk)⟩
namespace Hp
section
variable {S : List Nat} {w0 w : World} {its : List Thing}
variable {X : Type} {e : TypeId} {n : Nat} {cells : X → List Value} {sub : X → Thing} {s : Sl} {l : List X}
theorem nestRd : Reads (tNest e n cells sub id s l) s n cells l := ⟨fun {w O} h => by
 obtain ⟨xs, hx, O1, O2, h1, h2, h3, h4⟩ := h
 rw [List.map_id] at hx
 subst hx
 exact ⟨O1, SlF.toR h1⟩⟩
theorem nestSub {z : X} (hz : z ∈ l) {r : Sl} {α : Type} {f : α → List Value} {m : Nat} {c : List α} (hs : Reads (sub z) r m f c) : Reads (tNest e n cells sub id s l) r m f c := ⟨fun {w O} h => by
 obtain ⟨xs, hx, O1, O2, h1, h2, h3, h4⟩ := h
 rw [List.map_id] at hx
 subst hx
 obtain ⟨O', h5, _⟩ := tAll_at (List.mem_map.2 ⟨z, hz, rfl⟩) h2
 exact hs.rd h5⟩
theorem hole (h : Hp S w0 w its) {i k : Nat} {z : X} (hi : its[i]? = some (tNest e n cells sub id s l)) (hk : l[k]? = some z) (ho : (sub z).own = true) : Hp S w0 w (its.set i (tHole e n cells sub s l k) ++ [sub z]) := by
 have h1 := h.weak (t' := tStar (tHole e n cells sub s l k) (sub z)) hi rfl (fun w O hO => by
  obtain ⟨xs, hx, O1, O2, g1, g2, g3, g4⟩ := hO
  rw [List.map_id] at hx
  subst hx
  obtain ⟨P1, P2, q1, q2, q3, q4⟩ := tAll_pick (k := k) (t := sub z) (by rw [List.getElem?_map, hk]; rfl) g2
  refine ⟨O1 ++ P2, P1, ⟨O1, P2, g1, q2, fun x hx hy => g3 x hx ((q4 x).2 (.inr hy)), fun x => List.mem_append⟩, q1, fun x hx hy => ?_, fun x => ?_⟩
  ·rcases List.mem_append.1 hx with hx | hx
   ·exact g3 x hx ((q4 x).2 (.inl hy))
   ·exact q3 x hy hx
  ·rw [g4, q4, List.mem_append]
   constructor
   ·rintro (h | h | h)
    ·exact .inl (.inl h)
    ·exact .inr h
    ·exact .inl (.inr h)
   ·rintro ((h | h) | h)
    ·exact .inl h
    ·exact .inr (.inr h)
    ·exact .inr (.inl h)) rfl
 have hlt := (List.getElem?_eq_some_iff.1 hi).1
 have h2 := h1.split (i := i) (a := tHole e n cells sub s l k) (b := sub z) (by simp [hlt]) rfl ho
 simpa using h2
theorem unhole (h : Hp S w0 w its) {i m k : Nat} {z z' : X} (him : i ≠ m) (hi : its[i]? = some (tHole e n cells sub s l k)) (hm : its[m]? = some (sub z')) (hk : l[k]? = some z) (hc : cells z' = cells z) (ho : (sub z').own = true) :
  Hp S w0 w ((its.set i (tNest e n cells sub id s (l.set k z'))).set m tEmp) :=
 h.join him hi hm rfl ho rfl fun w O1 O2 h1 h2 hd => by
  obtain ⟨P1, P2, g1, g2, g3, g4⟩ := h1
  have hlt := (List.getElem?_eq_some_iff.1 hk).1
  have q := tAll_put (k := k) (t := sub z') (by rw [List.getElem?_set_self (by simpa using hlt)]) h2 g2 (fun x hx hy => hd x ((g4 x).2 (.inr hy)) hx)
  rw [List.set_set] at q
  refine ⟨l.set k z', List.map_id _, P1, O2 ++ P2, g1.conv (map_set_same hk hc).symm, ?_, fun x hx hy => ?_, fun x => ?_⟩
  ·rw [List.map_set]; exact q
  ·rcases List.mem_append.1 hy with hy | hy
   ·exact hd x ((g4 x).2 (.inl hx)) hy
   ·exact g3 x hx hy
  ·rw [List.mem_append, List.mem_append, g4]
   constructor
   ·rintro ((h | h) | h)
    ·exact .inl h
    ·exact .inr (.inr h)
    ·exact .inr (.inl h)
   ·rintro (h | h | h)
    ·exact .inl (.inl h)
    ·exact .inr h
    ·exact .inl (.inr h)
end
end Hp
section
variable {α : Type} {n : Nat} {f : α → List Value} {e : TypeId}
def tBagP (n : Nat) (f : α → List Value) (P : Sl → α → Prop) : Thing :=
  { holds := fun w O => (∀ k ∈ O, k < w.heap.size) ∧ ∀ s y, P s y → s.len ≤ 1000000000000000 ∧ ∃ o, SlR w s n f (List.replicate s.len y) o ∧ ∀ k ∈ o, k ∈ O
    fr := fun {S w w' O} h hf hn => ⟨fun k hk => by have := h.1 k hk; have := hf.size; omega, fun s y hP => by
      obtain ⟨h1, o, h2, h3⟩ := h.2 s y hP
      exact ⟨h1, o, h2.fr hf (fun k hk => hn k (h3 k hk)), h3⟩⟩
    lt := fun h => h.1 }
def mkE (mk : Nat → α) (i : Nat) (x : Sl × List α) : Sl × List α := (x.1, List.replicate x.2.length (mk i))
def mkd (mk : Nat → α) (j : Nat) (es : List (Sl × List α)) : List (Sl × List α) := es.mapIdx fun i x => if i < j then mkE mk i x else x
theorem mkd_zero {mk : Nat → α} {es : List (Sl × List α)} : mkd mk 0 es = es := by
 apply List.ext_getElem?
 intro i
 unfold mkd
 rw [List.getElem?_mapIdx]
 cases es[i]? <;> simp
theorem mkd_len {mk : Nat → α} {j : Nat} {es : List (Sl × List α)} : (mkd mk j es).length = es.length := by unfold mkd; simp
theorem mkd_at {mk : Nat → α} {j : Nat} {es : List (Sl × List α)} {x : Sl × List α} (h : es[j]? = some x) : (mkd mk j es)[j]? = some x := by
 unfold mkd
 rw [List.getElem?_mapIdx, h]
 simp
theorem mkd_set {mk : Nat → α} {j : Nat} {es : List (Sl × List α)} {x : Sl × List α} (h : es[j]? = some x) : (mkd mk j es).set j (mkE mk j x) = mkd mk (j + 1) es := by
 apply List.ext_getElem?
 intro i
 have hlt := (List.getElem?_eq_some_iff.1 h).1
 rw [List.getElem?_set]
 unfold mkd
 rw [List.getElem?_mapIdx, List.getElem?_mapIdx]
 split
 ·rename_i e
  subst e
  rw [h, if_pos (by simpa using hlt)]
  simp
 ·rename_i e
  cases es[i]? with
  | none => rfl
  | some y =>
   simp only [Option.map_some, Option.some.injEq]
   by_cases hi : i < j
   ·rw [if_pos hi, if_pos (by omega)]
   ·rw [if_neg hi, if_neg (by omega)]
theorem mkd_all {mk : Nat → α} {es : List (Sl × List α)} {i : Nat} {x : Sl × List α} (h : es[i]? = some x) : (mkd mk es.length es)[i]? = some (mkE mk i x) := by
 unfold mkd
 have hlt := (List.getElem?_eq_some_iff.1 h).1
 rw [List.getElem?_mapIdx, h]
 simp [hlt]
theorem mkd_fst {mk : Nat → α} {j : Nat} {es : List (Sl × List α)} : (mkd mk j es).map (·.1) = es.map (·.1) := by
 apply List.ext_getElem?
 intro i
 unfold mkd
 rw [List.getElem?_map, List.getElem?_mapIdx, List.getElem?_map]
 cases es[i]? with
 | none => rfl
 | some y =>
  simp only [Option.map_some, Option.some.injEq]
  split <;> rfl
def Mkd (mk : Nat → α) (SS G : List Sl) (k : Nat) (s : Sl) (y : α) : Prop := ∃ i, i < k ∧ (SS[i]? = some s ∨ G[i]? = some s) ∧ y = mk i
end
namespace Hp
section
variable {S : List Nat} {w0 w : World} {its : List Thing}
variable {α : Type} {n : Nat} {f : α → List Value} {e : TypeId}
theorem bagP_nil (h : Hp S w0 w its) (n : Nat) (f : α → List Value) {P : Sl → α → Prop} (hP : ∀ s y, ¬ P s y) : Hp S w0 w (its ++ [tBagP n f P]) :=
 h.grow (Fr.refl _ _) (O := []) ⟨by simp, fun s y h => absurd h (hP s y)⟩ (by simp) rfl
theorem bagP_rd {P : Sl → α → Prop} {s : Sl} {y : α} (hP : P s y) : Reads (tBagP n f P) s n f (List.replicate s.len y) := ⟨fun {w O} h => by
 obtain ⟨_, o, h1, _⟩ := h.2 s y hP
 exact ⟨o, h1⟩⟩
theorem bagP_len (h : Hp S w0 w its) (i : Nat) {P : Sl → α → Prop} (hi : (its[i]?).map Thing.holds = some (tBagP n f P).holds) {s : Sl} {y : α} (hP : P s y) : s.len ≤ 1000000000000000 := by
 obtain ⟨O, hO⟩ := h.see' hi
 exact (hO.2 s y hP).1
theorem bagP_join (h : Hp S w0 w its) {i j : Nat} (hij : i ≠ j) {P P' : Sl → α → Prop} {s c : Sl} {y : α} (hi : its[i]? = some (tBagP n f P)) (hj : its[j]? = some (tShare (tRd s n f (List.replicate s.len y)) (tRd c n f (List.replicate c.len y))))
  (hs : s.len ≤ 1000000000000000) (hc : c.len ≤ 1000000000000000) (hP : ∀ s' y', P' s' y' → P s' y' ∨ (s' = s ∧ y' = y) ∨ (s' = c ∧ y' = y)) : Hp S w0 w ((its.set i (tBagP n f P')).set j tEmp) :=
 h.join hij hi hj rfl rfl rfl fun w O1 O2 h1 h2 _ => by
  obtain ⟨P1, P2, q1, q2, q3⟩ := h2
  refine ⟨fun k hk => ?_, fun s' y' hs' => ?_⟩
  ·rcases List.mem_append.1 hk with hk | hk
   ·exact h1.1 k hk
   ·exact ((q3 k).1 hk).elim (SlR.lt (n := n) q1 k) (SlR.lt (n := n) q2 k)
  ·rcases hP s' y' hs' with h | ⟨rfl, rfl⟩ | ⟨rfl, rfl⟩
   ·obtain ⟨g1, o, g2, g3⟩ := h1.2 s' y' h
    exact ⟨g1, o, g2, fun k hk => List.mem_append.2 (.inl (g3 k hk))⟩
   ·exact ⟨hs, P1, q1, fun k hk => List.mem_append.2 (.inr ((q3 k).2 (.inl hk)))⟩
   ·exact ⟨hc, P2, q2, fun k hk => List.mem_append.2 (.inr ((q3 k).2 (.inr hk)))⟩
end
end Hp
end Go.Den
end

section
namespace Go.Proofs.YtmfgofbcnlkolaaGreatDoor.F
open Go Go.Den Go.Proofs
section
variable {S : List Nat} {w0 w : World} {its rest : List Thing}
set_option maxHeartbeats 4000000 in
theorem ints_n (h : Hp S w0 w its) (i : Nat) {l : Sl} {es : List SI} (hi : its[i]? = some (tIs l es)) (hn : es.length ≤ 1000000000) (hlen : ∀ x ∈ es, x.2.length ≤ 17000000000000) {K : Bool → World → Prop}
  (hK : ∀ w' t, Hp S w0 w' (its.set i t) → K true w') : c42 l w K := by
 refine c42_of ?_
 unfold f42
 obtain ⟨inf, i1, i2, i3, i4⟩ := inf3
 obtain ⟨inf', j1, j2, j3, j4⟩ := inf52
 obtain ⟨O, h1, back⟩ := h.f1 hi rfl
 have fin : ∀ {w' : World} {r : List Thing} {t : Thing}, t.own = true → Hp.owns r = true → Hp O w w' (t :: r) → K true w' := fun {w' r t} ho hr h => hK w' t (back ho hr h).front
 clear h hK back
 have h := h1
 clear h1
 obtain ⟨mk, hmk⟩ : ∃ mk : Nat → Int, mk = fun i : Nat => (-1000 - (i : Int) : Int) := ⟨_, rfl⟩
 have hll := h.nest_see (e := 52) (n := 1) (cells := siv) (sub := tS) (vis := id) (s := l) (l := es) 0 rfl
 have hll1 := hll.1
 have hN : es.length ≤ 1000000000 := hn
 refine ⟨fun i m w' => ∃ j : Nat, i = j ∧ j ≤ es.length ∧ m = es.length - j ∧ Hp O w w' [tIs l (mkd mk j es)], ⟨_, 0, rfl, by omega, rfl, by rw [mkd_zero]; exact h⟩, ?_⟩
 clear h
 rintro i m w1 ⟨j, rfl, hj, rfl, h⟩
 by_cases hend : j = es.length
 rotate_left
 ·obtain ⟨x, hx⟩ : ∃ x, es[j]? = some x := ⟨es[j]'(by omega), List.getElem?_eq_getElem (by omega)⟩
  have hxl := hlen x (List.mem_of_getElem? hx)
  refine ifT (by simp; omega) ?_
  have hjl : j < (mkd mk j es).length := by rw [mkd_len]; omega
  refine ⟨fun k m w' => ∃ q : Nat, k = q ∧ q ≤ x.2.length ∧ m = x.2.length - q ∧ Hp O w w' [tIs l ((mkd mk j es).set j (x.1, List.replicate q (mk j) ++ x.2.drop q))], ⟨_, 0, rfl, by omega, rfl, ?_⟩, ?_⟩
  ·rw [List.replicate_zero, List.nil_append, List.drop_zero, Hp.set_same' (mkd_at hx)]; exact h
  clear h
  rintro k m w2 ⟨q, rfl, hq, rfl, h⟩
  obtain ⟨z, hz⟩ : ∃ z : SI, z = (x.1, List.replicate q (mk j) ++ x.2.drop q) := ⟨_, rfl⟩
  rw [← hz] at h
  have hz1 : z.1 = x.1 := by rw [hz]
  have hz2 : z.2.length = x.2.length := by rw [hz]; simp; omega
  have hat : ((mkd mk j es).set j z)[j]? = some z := by rw [List.getElem?_set_self hjl]
  have hrd : Hp.Reads (tIs l ((mkd mk j es).set j z)) z.1 1 iv z.2 := Hp.nestSub (List.mem_of_getElem? hat) Hp.rdSl
  have hln := h.lenU (u := tIs l ((mkd mk j es).set j z)) 0 rfl hrd
  refine h.ixldU (k := .sl) (u := tIs l ((mkd mk j es).set j z)) (y := z) (x := z.1) 0 rfl Hp.nestRd (by omega) (by rw [Int.toNat_natCast]; exact hat) (fun _ => rfl) rfl ?_
  by_cases hend2 : q = x.2.length
  ·refine ifF (by simp; omega) ?_
   have e : z = mkE mk j x := by rw [hz, hend2, List.drop_of_length_le (Nat.le_refl _)]; simp [mkE]
   rw [e, mkd_set hx] at h
   exact ⟨es.length - (j + 1), by omega, j + 1, by rw [wr64 (by omega) (by omega)]; omega, by omega, rfl, h⟩
  refine ifT (by simp; omega) ?_
  refine h.ixldU (k := .sl) (u := tIs l ((mkd mk j es).set j z)) (y := z) (x := z.1) 0 rfl Hp.nestRd (by omega) (by rw [Int.toNat_natCast]; exact hat) (fun _ => rfl) rfl ?_
  have h := h.hole (e := 52) (n := 1) (cells := siv) (sub := tS) (s := l) (l := (mkd mk j es).set j z) (i := 0) (k := j) (z := z) rfl hat rfl
  have h : Hp O w w2 [tHole 52 1 siv tS l ((mkd mk j es).set j z) j, tS z] := h
  have ew : IntKind.i64.wrap ((-1000) - (j : Int)) = mk j := by rw [hmk]; exact wr64 (by omega) (by omega)
  refine h.ixst 1 (y := mk j) rfl (by omega) (by rw [Int.toNat_natCast]; omega) iv_len (by rw [ew]) rfl fun w4 h => ?_
  have e3 : z.2.set q (mk j) = List.replicate (q + 1) (mk j) ++ x.2.drop (q + 1) := by
   obtain ⟨c, hc⟩ : ∃ c, x.2[q]? = some c := ⟨x.2[q]'(by omega), List.getElem?_eq_getElem (by omega)⟩
   rw [hz]
   show (List.replicate q (mk j) ++ x.2.drop q).set q (mk j) = _
   rw [drop_cons hc, List.set_append_right _ _ (by simp)]
   have e4 : q - (List.replicate q (mk j)).length = 0 := by simp
   rw [e4, List.set_cons_zero, List.replicate_succ']
   simp
  rw [Int.toNat_natCast, e3] at h
  obtain ⟨z', hz'⟩ : ∃ z' : SI, z' = (x.1, List.replicate (q + 1) (mk j) ++ x.2.drop (q + 1)) := ⟨_, rfl⟩
  have h : Hp O w w4 [tHole 52 1 siv tS l ((mkd mk j es).set j z) j, tS z'] := by rw [hz1] at h; rw [hz']; exact h
  have h := h.unhole (e := 52) (n := 1) (cells := siv) (sub := tS) (s := l) (l := (mkd mk j es).set j z) (i := 0) (m := 1) (k := j) (z := z) (z' := z') (by decide) rfl rfl hat (by show slv z'.1 = slv z.1; rw [hz', hz1]) rfl
  rw [List.set_set] at h
  have h : Hp O w w4 ([tIs l ((mkd mk j es).set j z')] ++ [tEmp]) := h
  have h := h.front
  rw [hz'] at h
  exact ⟨x.2.length - (q + 1), by omega, q + 1, by rw [wr64 (by omega) (by omega)]; omega, by omega, rfl, h⟩
 refine ifF (by simp; omega) ?_
 subst hend
 obtain ⟨M, hM⟩ : ∃ M, M = mkd mk es.length es := ⟨_, rfl⟩
 rw [← hM] at h
 have hMl : M.length = es.length := by rw [hM, mkd_len]
 obtain ⟨SS, hSS⟩ : ∃ SS : List Sl, SS = es.map (·.1) := ⟨_, rfl⟩
 have hSl : SS.length = es.length := by rw [hSS, List.length_map]
 have hMat : ∀ {i : Nat} {x : SI}, es[i]? = some x → M[i]? = some (mkE mk i x) ∧ SS[i]? = some x.1 := fun {i x} hx => ⟨by rw [hM]; exact mkd_all hx, by rw [hSS, List.getElem?_map, hx]; rfl⟩
 have hdl : ∀ x ∈ es, x.2.length = x.1.len := fun x hx => by
  obtain ⟨i, hi⟩ := List.mem_iff_getElem?.1 hx
  have hrd : Hp.Reads (tIs l M) x.1 1 iv (mkE mk i x).2 := Hp.nestSub (sub := tS) (List.mem_of_getElem? (hMat hi).1) Hp.rdSl
  have := h.lenU (u := tIs l M) 0 rfl hrd
  rw [← this]
  unfold mkE
  rw [List.length_replicate]
 obtain ⟨xs, hxs, h⟩ := h.nest_open (e := 52) (n := 1) (cells := siv) (sub := tS) (vis := id) (s := l) (l := M) (i := 0) rfl
 rw [List.map_id] at hxs
 subst hxs
 have h : Hp O w w1 [tSl l 52 1 siv xs, tAll (xs.map tS)] := h
 have h := h.weak (i := 0) (t' := tSl l 52 1 slv SS) rfl rfl (fun w O h => SlF.conv (by
  have e1 : xs.map siv = (xs.map (·.1)).map slv := by rw [List.map_map]; rfl
  rw [e1, hM, mkd_fst, hSS]) h) rfl
 have h := h.bagP_nil 1 iv (P := Mkd mk SS [] 0) (fun s y ⟨i, hi, _⟩ => by omega)
 have h : Hp O w w1 [tSl l 52 1 slv SS, tAll (xs.map tS), tBagP 1 iv (Mkd mk SS [] 0)] := h
 refine ⟨fun l2 i m w' => ∃ (k : Nat) (G : List Sl), i = k ∧ k ≤ es.length ∧ m = es.length - k ∧ G.length = k ∧ Hp O w w' [tSl l2 52 1 slv (SS ++ G), tAll ((xs.drop k).map tS), tBagP 1 iv (Mkd mk SS G k)], ⟨_, 0, [], rfl, by omega, rfl, rfl, by rw [List.append_nil, List.drop_zero]; exact h⟩, ?_⟩
 clear h
 rintro l2 i m w2 ⟨k, G, rfl, hk, rfl, hG, h⟩
 have hl2 := h.len (s := l2) (e := 52) (n := 1) (f := slv) (l := SS ++ G) 0 rfl
 rw [List.length_append, hSl, hG] at hl2
 by_cases hend : k = es.length
 rotate_left
 ·obtain ⟨x, hx⟩ : ∃ x, es[k]? = some x := ⟨es[k]'(by omega), List.getElem?_eq_getElem (by omega)⟩
  have hxl := hlen x (List.mem_of_getElem? hx)
  have hxd := hdl x (List.mem_of_getElem? hx)
  obtain ⟨hx1, hx2⟩ := hMat hx
  refine ifT (by simp; omega) ?_
  refine h.ixldU (k := .sl) (u := tSl l2 52 1 slv (SS ++ G)) (y := x.1) (x := x.1) 0 rfl Hp.rdSl (by omega) (by rw [Int.toNat_natCast, List.getElem?_append_left (by omega)]; exact hx2) (fun _ => rfl) rfl ?_
  rw [drop_cons hx1, List.map_cons] at h
  have h := h.pick (i := 1) (k := 0) (t := tS (mkE mk k x)) rfl rfl rfl
  have h := h.allDel (i := 1) 0 rfl
  have h : Hp O w w2 [tSl l2 52 1 slv (SS ++ G), tAll ((xs.drop (k + 1)).map tS), tBagP 1 iv (Mkd mk SS G k), tSl x.1 3 1 iv (List.replicate x.2.length (mk k))] := h
  have h := h.lc_start (j := 3) (e := 3) (n := 1) (f := iv) (l := x.1) (y := mk k) (p := x.2.length) rfl
  have ew : IntKind.i64.wrap ((-1000) - (k : Int)) = mk k := by rw [hmk]; exact wr64 (by omega) (by omega)
  refine ⟨fun c t m w' => ∃ q : Nat, t = q ∧ q ≤ 64 ∧ m = 64 - q ∧ Hp O w w' [tSl l2 52 1 slv (SS ++ G), tAll ((xs.drop (k + 1)).map tS), tBagP 1 iv (Mkd mk SS G k), tLC 3 1 iv x.1 c (mk k) x.2.length (x.2.length + q)], ⟨_, 0, rfl, by omega, rfl, h⟩, ?_⟩
  clear h
  rintro c t m w3 ⟨q, rfl, hq, rfl, h⟩
  by_cases hend2 : q = 64
  rotate_left
  ·refine ifT (by simp; omega) ?_
   refine h.lc_app (c' := 1) 3 (mk k) rfl iv_len und52 i1 i3 i2 rfl (by rw [ew]) (by simp [Value.oneCell']) (by rw [i4]; omega) (by omega) fun c2 w4 h => ?_
   exact ⟨64 - (q + 1), by omega, q + 1, by rw [wr64 (by omega) (by omega)]; omega, by omega, rfl, h⟩
  refine ifF (by simp; omega) ?_
  subst hend2
  have hcl := (h.lc_len 3 rfl).1
  have h := h.lc_done (j := 3) rfl
  have h : Hp O w w3 [tSl l2 52 1 slv (SS ++ G), tAll ((xs.drop (k + 1)).map tS), tBagP 1 iv (Mkd mk SS G k), tShare (tRd x.1 1 iv (List.replicate x.1.len (mk k))) (tRd c 1 iv (List.replicate c.len (mk k)))] := by
   rw [hcl, ← hxd]; exact h
  refine h.nwapp (c' := 1) 0 c (s := l2) (l := SS ++ G) rfl (fun _ => rfl) und51 j1 j3 j2 rfl rfl (by simp [Value.oneCell']) (by rw [j4]; omega) (by omega) fun l3 w4 h _ _ => ?_
  have h := h.bagP_join (i := 2) (j := 3) (by decide) (P' := Mkd mk SS (G ++ [c]) (k + 1)) (s := x.1) (c := c) (y := mk k) rfl rfl (by omega) (by omega) (fun s' y' ⟨i, hi, hor, hy⟩ => by
   by_cases hik : i = k
   ·subst hik
    rcases hor with hs | hs
    ·rw [hx2] at hs
     exact .inr (.inl ⟨(Option.some.inj hs).symm, hy⟩)
    ·rw [List.getElem?_append_right (by omega), hG, Nat.sub_self] at hs
     exact .inr (.inr ⟨(Option.some.inj hs).symm, hy⟩)
   ·refine .inl ⟨i, by omega, ?_, hy⟩
    rcases hor with hs | hs
    ·exact .inl hs
    ·rw [List.getElem?_append_left (by omega)] at hs
     exact .inr hs)
  rw [List.append_assoc] at h
  have h : Hp O w w4 ([tSl l3 52 1 slv (SS ++ (G ++ [c])), tAll ((xs.drop (k + 1)).map tS), tBagP 1 iv (Mkd mk SS (G ++ [c]) (k + 1))] ++ [tEmp]) := h
  exact ⟨es.length - (k + 1), by omega, k + 1, G ++ [c], by rw [wr64 (by omega) (by omega)]; omega, by omega, rfl, by rw [List.length_append, hG]; rfl, h.front⟩
 refine ifF (by simp; omega) ?_
 subst hend
 refine ⟨fun i m w' => ∃ j : Nat, i = j ∧ j ≤ 2 * es.length ∧ m = 2 * es.length - j ∧ Hp O w w' [tSl l2 52 1 slv (SS ++ G), tAll ((xs.drop es.length).map tS), tBagP 1 iv (Mkd mk SS G es.length)], ⟨_, 0, rfl, by omega, rfl, h⟩, ?_⟩
 clear h
 rintro i m w3 ⟨j, rfl, hj, rfl, h⟩
 by_cases hend : j = 2 * es.length
 ·exact ifF (by simp; omega) (fin (r := []) rfl rfl (h.trim 1))
 obtain ⟨s, hs⟩ : ∃ s, (SS ++ G)[j]? = some s := ⟨(SS ++ G)[j]'(by rw [List.length_append]; omega), List.getElem?_eq_getElem _⟩
 have hP : Mkd mk SS G es.length s (mk (j % es.length)) := by
  by_cases hjn : j < es.length
  ·rw [List.getElem?_append_left (by omega)] at hs
   exact ⟨j, hjn, .inl hs, by rw [Nat.mod_eq_of_lt hjn]⟩
  ·rw [List.getElem?_append_right (by omega), hSl] at hs
   refine ⟨j - es.length, by omega, .inr hs, ?_⟩
   rw [Nat.mod_eq_sub_mod (by omega), Nat.mod_eq_of_lt (by omega)]
 have hsl := h.bagP_len 2 rfl hP
 refine ifT (by simp; omega) ?_
 refine ⟨fun k m w' => ∃ q : Nat, k = q ∧ q ≤ s.len ∧ m = s.len - q ∧ Hp O w w' [tSl l2 52 1 slv (SS ++ G), tAll ((xs.drop es.length).map tS), tBagP 1 iv (Mkd mk SS G es.length)], ⟨_, 0, rfl, by omega, rfl, h⟩, ?_⟩
 clear h
 rintro k m w4 ⟨q, rfl, hq, rfl, h⟩
 refine h.ixldU (k := .sl) (u := tSl l2 52 1 slv (SS ++ G)) (y := s) (x := s) 0 rfl Hp.rdSl (by omega) (by rw [Int.toNat_natCast]; exact hs) (fun _ => rfl) rfl ?_
 by_cases hend2 : q = s.len
 ·exact ifF (by simp; omega) ⟨2 * es.length - (j + 1), by omega, j + 1, by rw [wr64 (by omega) (by omega)]; omega, by omega, rfl, h⟩
 ·refine ifT (by simp; omega) ?_
  refine h.dr fun w4 h => ?_
  refine h.ixldU (k := .sl) (u := tSl l2 52 1 slv (SS ++ G)) (y := s) (x := s) 0 rfl Hp.rdSl (by omega) (by rw [Int.toNat_natCast]; exact hs) (fun _ => rfl) rfl ?_
  have hrd : Hp.Reads (tBagP 1 iv (Mkd mk SS G es.length)) s 1 iv (List.replicate s.len (mk (j % es.length))) := Hp.bagP_rd hP
  refine h.ixldU (k := .i .i64) (u := tBagP 1 iv (Mkd mk SS G es.length)) (y := mk (j % es.length)) (x := mk (j % es.length)) 2 rfl hrd (by omega) (by rw [Int.toNat_natCast, List.getElem?_replicate, if_pos (by omega)]) iv_len rfl ?_
  refine ⟨by omega, ?_⟩
  have htm : Int.tmod (j : Int) (l.len : Int) = ((j % es.length : Nat) : Int) := by
   rw [Int.tmod_eq_emod_of_nonneg (by omega)]
   rw [← hll1]; exact (Int.natCast_emod _ _).symm
  have hjm : j % es.length < es.length := Nat.mod_lt _ (by omega)
  have ewm : IntKind.i64.wrap ((-1000) - (Int.tmod (j : Int) (l.len : Int))) = mk (j % es.length) := by
   rw [hmk, htm]
   exact wr64 (by omega) (by omega)
  refine ifF (by rw [ewm]; simp) ?_
  exact ⟨s.len - (q + 1), by omega, q + 1, by rw [wr64 (by omega) (by omega)]; omega, by omega, rfl, h⟩
end
end Go.Proofs.YtmfgofbcnlkolaaGreatDoor.F
end
