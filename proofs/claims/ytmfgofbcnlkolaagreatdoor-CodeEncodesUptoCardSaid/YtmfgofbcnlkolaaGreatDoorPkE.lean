/-
  Part 5 of the proof: CodeEncodes is true of the given program where what it reads is of bulk at most 1048576: its row, and the card tied to the program's text.
-/
import Derived.Test.YtmfgofbcnlkolaaGreatDoorPkD
import Derived.Shelf.Strings.Builder1
import Derived.Shelf.Strings.BuilderF
import Derived.Shelf.Strings.BuilderK
import Derived.Shelf.Utf8.RuneCount
import Derived.Shelf.Strconv.Itoa0
import Derived.Shelf.Strconv.Itoa1
import Derived.Shelf.LaysM
import Derived.Shelf.Strconv.Itoa2
import Derived.Shelf.Strconv.Itoa3
import Derived.Shelf.Strconv.Itoa4
import Derived.Shelf.Strconv.ParseIntEmpty
import Derived.Shelf.Strconv.Clone
import Derived.Shelf.Strconv.SyntaxError
import Derived.Shelf.LaysC
import Derived.Shelf.Strconv.ToError
import Derived.Shelf.Strconv.Lower
import Derived.Shelf.Strconv.ParseUint10
import Derived.Shelf.Strconv.ParseUint10Empty
import Derived.Shelf.Strconv.ParseUint10Any
import Derived.Shelf.Strconv.ParseInt10
import Derived.Shelf.Strconv.RangeError
import Derived.Shelf.Strconv.ToErrorRange
import Derived.Shelf.Strconv.ParseUintEmpty
import Derived.Shelf.Strconv.ParseUint10b64
import Derived.Shelf.Strconv.ParseUint10b32
import Derived.Shelf.Strconv.ParseUint10b16
import Derived.Shelf.Strconv.ParseUint10b8
import Derived.Shelf.Strconv.ParseUint10At
import Derived.Shelf.Strconv.ParseInt10At64
import Derived.Shelf.Strconv.ParseInt10At32
import Derived.Shelf.Strconv.ParseInt10At16
import Derived.Shelf.Strconv.ParseInt10At8
import Derived.Shelf.Strconv.ParseInt10All
import Derived.Shelf.Strconv.ParseIntPublic10
import Derived.Shelf.Strconv.ErrVarParseInt
import Derived.Shelf.Strings.Search1
import Derived.Shelf.Strings.Search2
import Derived.Shelf.Strings.Search3
import Derived.Shelf.Strings.Cut
import Derived.Shelf.Strings.Count
import Derived.Shelf.Strings.Shaped
import Derived.Shelf.Strings.Split
import Derived.Shelf.Strings.SplitShaped
import Derived.Shelf.Unicode.Decode
import Derived.Shelf.Strings.RuneCount
import Derived.Shelf.Strings.Explode
import Derived.Shelf.Unicode.DecodeSlow
import Derived.Shelf.Unicode.DecodeAny
import Derived.Shelf.Strings.BuilderCap
import Derived.Lib.ItoaLen
import Derived.Lib.AppendIntMem
import Derived.Lib.SplitLaws
import Derived.Lib.AtoiErrMem
import Derived.Lib.Overlaps
import Derived.Lib.AppendZerosOnto
import Derived.Shelf.Vars
import Derived.Stop.LaidErr
import Derived.Lib.LaidTab
import Derived.Lib.IndexBytes
import Derived.Lib.CountLaws
set_option linter.unusedSimpArgs false
set_option linter.unusedVariables false
set_option maxRecDepth 100000
section
namespace Go.Proofs.YtmfgofbcnlkolaaGreatDoor.F
open Go Go.Den Go.Proofs
section
variable {S : List Nat} {w0 w : World} {its rest : List Thing}
theorem nw_now (h : Hp S w0 w its) (c : List Value) (e : TypeId) : Hp S w0 (w.alloc (.cells c.toArray e)) (its ++ [tBlk w.heap.size e c]) := by
 have := h.nw (c := c) (e := e) (K := fun a w' => ∀ b, a = ⟨b, 0, none⟩ → Hp S w0 w' (its ++ [tBlk b e c])) (fun b w' h b' e => by cases e; exact h)
 exact this _ rfl
theorem _root_.Go.Den.Hp.cutFst2 {t u : Thing} (h : Hp S w0 w (t :: u :: its)) : Hp S w0 w its := by
 have h : Hp S w0 w ([] ++ [t, u] ++ its) := h
 exact h.cutMid
theorem program_calls {rb : Nat} {b : Sl} {ub : Thing} {l : List Int} (h : Hp S w0 w (rdr rb b (0 : Nat) 2000 :: ub :: rest)) (hs : Src ub b l) :
  Calls Tryz.prog 37 #[.pointer (some ⟨rb, 0, none⟩)] w fun e w' => (∃ s1 s2 p c, e = .returned (.agg #[.slice s1.a s1.len s1.cap, .slice s2.a s2.len s2.cap]) ∧ pgD l = .ok p ∧ Hp S w0 w' (tBlk rb 84 c :: ub :: rest ++ [tSyN s1 p.sys, tFnN s2 p.fns])) ∨
   ∃ fb x c, e = .panicked (flt fb) ∧ pgD l = .error x ∧ Hp S w0 w' (tBlk rb 84 c :: ub :: rest ++ [tFault fb x]) := by
 have hc := program_spec h hs (R := curry [.sl, .sl] fun cs w' => ∃ (s1 s2 : Sl) (p : PG) (c : List Value), cs = [.slice s1.a s1.len s1.cap, .slice s2.a s2.len s2.cap] ∧ pgD l = .ok p ∧ Hp S w0 w' (tBlk rb 84 c :: ub :: rest ++ [tSyN s1 p.sys, tFnN s2 p.fns]))
  (E := fun ch w' => ∃ fb x c, ch = flt fb ∧ pgD l = .error x ∧ Hp S w0 w' (tBlk rb 84 c :: ub :: rest ++ [tFault fb x]))
  (fun p hp s1 s2 c w' h => ⟨s1, s2, p, c, rfl, hp, h⟩) (fun e he fb c w' h => ⟨fb, e, c, rfl, he, h⟩)
 refine Calls.mono hc fun e w' hd => ?_
 rcases hd with ⟨v, rfl, hv⟩ | ⟨ch, rfl, fb, x, c, rfl, h1, h2⟩
 ·obtain ⟨cs, ⟨s1, s2, p, c, rfl, h1, h2⟩, rfl⟩ := of_viewRet_curry hv
  exact .inl ⟨s1, s2, p, c, rfl, h1, h2⟩
 ·exact .inr ⟨fb, x, c, rfl, h1, h2⟩
theorem Decode_spec {b : Sl} {ub : Thing} {l : List Int} (h : Hp S w0 w (ub :: rest)) (hs : Src ub b l)
  {K : Sl → Sl → Value → World → Prop}
  (hok : ∀ p, pgD l = .ok p → ∀ s1 s2 w', Hp S w0 w' (ub :: rest ++ [tSyN s1 p.sys, tFnN s2 p.fns]) → K s1 s2 .nilIface w')
  (herr : ∀ e, pgD l = .error e → ∀ fb w', Hp S w0 w' (ub :: rest ++ [tFault fb e]) → K ⟨none, 0, 0⟩ ⟨none, 0, 0⟩ (.iface 86 (.pointer (some ⟨fb, 0, none⟩))) w') : c15 b w K := by
 unfold c15 CallK
 have h := nw_now (nw_now (nw_now h [.slice none 0 0, .slice none 0 0] 37) [.nilIface] 39) [.slice b.a b.len b.cap, .int .i64 0, .int .i64 2000] 84
 have h := h.comm
 have hC := program_calls (rb := w.heap.size + 1 + 1) (b := b) (ub := ub) (rest := rest ++ [tBlk w.heap.size 37 [.slice none 0 0, .slice none 0 0]] ++ [tBlk (w.heap.size + 1) 39 [.nilIface]]) (w := ((w.alloc (.cells #[.slice none 0 0, .slice none 0 0] 37)).alloc (.cells #[.nilIface] 39)).alloc (.cells #[.slice b.a b.len b.cap, .int .i64 0, .int .i64 2000] 84)) (by simpa [rdr] using h) hs
 have hmf : ∀ (fn : Fn) (first cap : Array Value) (w : World), (Instr.makeFunc fn first cap).run Tryz.prog w = .ok (.func fn first cap) w := fun _ _ _ _ => rfl
 go_enter_defers Tryz.func15, Tryz.ntmps15
 iterate 55 go_step
 refine Calls.mono hC ?_
 clear h hC
 rintro e w2 (⟨s1, s2, p, c, rfl, hp, h⟩ | ⟨fb, x, c, rfl, hp, h⟩)
 ·have h : Hp S w0 w2 ([] ++ [tBlk (w.heap.size + 1 + 1) 84 c] ++ ((ub :: rest) ++ [tBlk w.heap.size 37 [.slice none 0 0, .slice none 0 0], tBlk (w.heap.size + 1) 39 [.nilIface]] ++ [tSyN s1 p.sys, tFnN s2 p.fns])) := by simpa using h
  have h := h.cutMid
  have h := h.rot
  have h : Hp S w0 w2 (tBlk w.heap.size 37 [.slice none 0 0, .slice none 0 0] :: tBlk (w.heap.size + 1) 39 [.nilIface] :: (ub :: rest ++ [tSyN s1 p.sys, tFnN s2 p.fns])) := by simpa using h
  have c0 : w2.cell? ⟨w.heap.size, 0, none⟩ = some (.slice none 0 0) := h.cel0 0 rfl rfl
  have c1 : w2.cell? ⟨w.heap.size, 1, none⟩ = some (.slice none 0 0) := h.cel (n := 1) 0 rfl rfl
  have c2 : w2.cell? ⟨w.heap.size + 1, 0, none⟩ = some .nilIface := h.cel0 1 rfl rfl
  obtain ⟨_, _, z0, h⟩ := h.st0 0 (v := .slice s1.a s1.len s1.cap) (K := fun w' => Hp S w0 w' (tBlk w.heap.size 37 [.slice s1.a s1.len s1.cap, .slice none 0 0] :: tBlk (w.heap.size + 1) 39 [.nilIface] :: (ub :: rest ++ [tSyN s1 p.sys, tFnN s2 p.fns]))) rfl (by simp) rfl (fun w' h => h)
  obtain ⟨_, _, z1, h⟩ := h.st (n := 1) 0 (v := .slice s2.a s2.len s2.cap) (K := fun w' => Hp S w0 w' (tBlk w.heap.size 37 [.slice s1.a s1.len s1.cap, .slice s2.a s2.len s2.cap] :: tBlk (w.heap.size + 1) 39 [.nilIface] :: (ub :: rest ++ [tSyN s1 p.sys, tFnN s2 p.fns]))) rfl (by simp) rfl (fun w' h => h)
  obtain ⟨_, _, z2, h⟩ := h.st0 1 (v := .nilIface) (K := fun w' => Hp S w0 w' (tBlk w.heap.size 37 [.slice s1.a s1.len s1.cap, .slice s2.a s2.len s2.cap] :: tBlk (w.heap.size + 1) 39 [.nilIface] :: (ub :: rest ++ [tSyN s1 p.sys, tFnN s2 p.fns]))) rfl (by simp) rfl (fun w' h => h)
  have z1 : w2.frozen? ⟨w.heap.size, 1, none⟩ = false := by
   simp at z1
   exact z1
  have z2 : w2.frozen? ⟨w.heap.size + 1, 0, none⟩ = false := by simpa using z2
  have hK := hok p hp s1 s2 _ h.cutFst2
  clear hok herr
  dsimp only
  go_wp2
  have e1 : (⟨w.heap.size, 0, none⟩ : Addr).add 1 = ⟨w.heap.size, 1, none⟩ := rfl
  rw [e1] at h hK
  have d0 := h.cel0 (v := .slice s1.a s1.len s1.cap) 0 rfl rfl
  have d1 : World.cell? _ ⟨w.heap.size, 1, none⟩ = _ := h.cel (n := 1) (v := .slice s2.a s2.len s2.cap) 0 rfl rfl
  have d2 := h.cel0 (v := .nilIface) 1 rfl rfl
  generalize ((w2.setCell ⟨w.heap.size, 0, none⟩ (.slice s1.a s1.len s1.cap)).setCell ⟨w.heap.size, 1, none⟩ (.slice s2.a s2.len s2.cap)).setCell ⟨w.heap.size + 1, 0, none⟩ .nilIface = w3 at *
  refine leaves_cons (f := 36) (args := #[.pointer (some ⟨w.heap.size + 1, 0, none⟩)]) (by simp) (by simp [go_sem]) ?_
  refine (caught_idle _ _).mono ?_
  rintro e u' w'' ⟨rfl, rfl, rfl⟩
  refine leaves_cons (f := 35) (args := #[.pointer (some ⟨w.heap.size + 1, 0, none⟩), .pointer (some ⟨w.heap.size, 0, none⟩)]) (by simp [settle]) (by simp [go_sem]) ?_
  refine (zero_idle _ _ _ d2).mono ?_
  rintro e u' w'' ⟨rfl, rfl, rfl⟩
  refine ⟨.tuple #[.agg #[.slice s1.a s1.len s1.cap, .slice s2.a s2.len s2.cap], .nilIface], ?_, _, rfl, hK⟩
  simp [results, Tryz.results15, go_sem, d0, d1, d2]
 ·have h : Hp S w0 w2 ([] ++ [tBlk (w.heap.size + 1 + 1) 84 c] ++ ((ub :: rest) ++ [tBlk w.heap.size 37 [.slice none 0 0, .slice none 0 0], tBlk (w.heap.size + 1) 39 [.nilIface]] ++ [tFault fb x])) := by simpa using h
  have h := h.cutMid
  have h := h.rot
  have h : Hp S w0 w2 (tBlk w.heap.size 37 [.slice none 0 0, .slice none 0 0] :: tBlk (w.heap.size + 1) 39 [.nilIface] :: (ub :: rest ++ [tFault fb x])) := by simpa using h
  have c2 : w2.cell? ⟨w.heap.size + 1, 0, none⟩ = some .nilIface := h.cel0 1 rfl rfl
  obtain ⟨_, _, z2, h⟩ := h.st0 1 (v := .iface 86 (.pointer (some ⟨fb, 0, none⟩))) (K := fun w' => Hp S w0 w' (tBlk w.heap.size 37 [.slice none 0 0, .slice none 0 0] :: tBlk (w.heap.size + 1) 39 [.iface 86 (.pointer (some ⟨fb, 0, none⟩))] :: (ub :: rest ++ [tFault fb x]))) rfl (by simp) rfl (fun w' h => h)
  have d2 := h.cel0 (v := .iface 86 (.pointer (some ⟨fb, 0, none⟩))) 1 rfl rfl
  have c0 := h.cel0 (v := .slice none 0 0) 0 rfl rfl
  have c1 : World.cell? _ ⟨w.heap.size, 1, none⟩ = _ := h.cel (n := 1) (v := .slice none 0 0) 0 rfl rfl
  obtain ⟨_, _, z0, h2⟩ := h.st0 0 (v := .slice none 0 0) (K := fun w' => Hp S w0 w' (tBlk w.heap.size 37 [.slice none 0 0, .slice none 0 0] :: tBlk (w.heap.size + 1) 39 [.iface 86 (.pointer (some ⟨fb, 0, none⟩))] :: (ub :: rest ++ [tFault fb x]))) rfl (by simp) rfl (fun w' h => h)
  obtain ⟨_, _, z1, h3⟩ := h2.st (n := 1) 0 (v := .slice none 0 0) (K := fun w' => Hp S w0 w' (tBlk w.heap.size 37 [.slice none 0 0, .slice none 0 0] :: tBlk (w.heap.size + 1) 39 [.iface 86 (.pointer (some ⟨fb, 0, none⟩))] :: (ub :: rest ++ [tFault fb x]))) rfl (by simp) rfl (fun w' h => h)
  have e1 : (⟨w.heap.size, 0, none⟩ : Addr).add 1 = ⟨w.heap.size, 1, none⟩ := rfl
  rw [e1] at h3 z1
  have z1 : (w2.setCell ⟨w.heap.size + 1, 0, none⟩ (.iface 86 (.pointer (some ⟨fb, 0, none⟩)))).frozen? ⟨w.heap.size, 1, none⟩ = false := by simpa using z1
  have hK := herr x hp fb _ h3.cutFst2
  have d3 := h3.cel0 (v := .slice none 0 0) 0 rfl rfl
  have d4 : World.cell? _ ⟨w.heap.size, 1, none⟩ = _ := h3.cel (n := 1) (v := .slice none 0 0) 0 rfl rfl
  have d5 := h3.cel0 (v := .iface 86 (.pointer (some ⟨fb, 0, none⟩))) 1 rfl rfl
  clear hok herr
  dsimp only
  show Leaves Tryz.prog Tryz.f15 _ _ _ (.panicking (flt fb)) w2
  refine leaves_cons (f := 36) (args := #[.pointer (some ⟨w.heap.size + 1, 0, none⟩)]) (by simp) (by simp [go_sem]) ?_
  refine (caught_fault _ _ _ _ c2 rfl z2).mono ?_
  rintro e u' w'' ⟨rfl, rfl, rfl⟩
  refine leaves_cons (f := 35) (args := #[.pointer (some ⟨w.heap.size + 1, 0, none⟩), .pointer (some ⟨w.heap.size, 0, none⟩)]) (by simp [settle]) (by simp [go_sem]) ?_
  refine (zero_fault _ _ _ _ _ _ d2 c0 rfl c1 rfl z0 z1).mono ?_
  rintro e u' w'' ⟨rfl, rfl, rfl⟩
  refine ⟨.tuple #[.agg #[.slice none 0 0, .slice none 0 0], .iface 86 (.pointer (some ⟨fb, 0, none⟩))], ?_, _, rfl, hK⟩
  simp [results, Tryz.results15, go_sem, d3, d4, d5]
end
section
variable {S : List Nat} {w0 w : World} {its rest : List Thing}
theorem RunRoL_pb {P : Program} {sem : Sem Value} {x : Option Addr} {ok : Bool} {R : Option Addr → Bool → World → Prop} (h : ∀ w', sem.run P w' = .ok (.tuple #[.pointer x, .bool ok]) w') (hR : R x ok w) : RunRoL [.one .p, .one .b] P sem w R := ⟨_, fun w' _ => h w', hR⟩
theorem fault_spec (h : Hp S w0 w its) (i : Nat) {fb e : Nat} (hi : its[i]? = some (tFault fb e)) {K : Int → Int → Bool → World → Prop} (hK : ∀ w', Hp S w0 w' its → K e 130 true w') : c16 (.iface 86 (.pointer (some ⟨fb, 0, none⟩))) w K := by
 refine c16_of ?_
 unfold f16
 refine ⟨false, fun _ _ => by kernel_rfl, ?_⟩
 refine RunRoL_pb (x := some ⟨fb, 0, none⟩) (ok := true) (fun _ => by kernel_rfl) ?_
 rw [if_neg (by simp)]
 refine h.dr fun w1 h => ?_
 rw [NN_some]
 refine h.ld0 (k := .i .i64) (x := e) i (by rw [hi]; rfl) rfl ?_
 rw [NN_some]
 refine h.ld (n := 1) (k := .i .i64) (x := 130) i (by rw [hi]; rfl) rfl ?_
 rw [NN_some]
 refine h.ld (n := 1) (k := .i .i64) (x := 130) i (by rw [hi]; rfl) rfl ?_
 exact hK w1 h
def effM (op a : Int) (fs : List RV) : Int × Int :=
 if isOpM op = true then
  (if (row op).tk = -1 then (if 0 ≤ a ∧ a < fs.length then (match fs[a.toNat]? with | some x => (if 0 > x.pa then 0 else x.pa) | none => 0) else 0)
   else if (row op).tk = -2 then (if 0 ≤ a then Int.tmod a 8 else 0) else (row op).tk, (row op).pt)
 else (0, 0)
theorem tk_range (op : Int) : -2 ≤ (row op).tk := by
 cases hi : isOpM op with
 | false => rw [row_no hi]; decide
 | true =>
  obtain ⟨n, rfl, hn⟩ := op_of hi
  have key : ∀ k : Fin 40, -2 ≤ (tab.getD k.val noRw).tk := by decide
  unfold row
  rw [if_pos hi]
  exact key ⟨n + 1, by omega⟩
theorem Effect_spec (h : Hp S w0 w its) (j : Nat) {u : Thing} {op a : Int} {s : Sl} {fs : List RV} (hj : (its[j]?).map Thing.holds = some u.holds) (hu : Hp.Reads u s 4 rtv fs) {K : Int → Int → World → Prop} (hK : ∀ w', Hp S w0 w' its → K (effM op a fs).1 (effM op a fs).2 w') : c9 op a s w K := by
 refine c9_of ?_
 unfold f9
 have hjl : j < its.length := by
  rcases Nat.lt_or_ge j its.length with h1 | h1
  ·exact h1
  ·rw [List.getElem?_eq_none h1] at hj; cases hj
 refine h.nw fun i w1 h => ?_
 refine h.ld0 (k := .i .i64) (x := op) its.length (by rw [List.getElem?_concat_length]; rfl) rfl ?_
 refine isOp_spec ?_
 unfold effM at hK
 cases hi : isOpM op with
 | false =>
  rw [hi] at hK
  exact ifT rfl (hK w1 h.front)
 | true =>
  rw [if_pos hi] at hK
  refine ifF (by decide) ?_
  refine h.ld0 (k := .i .i64) (x := op) its.length (by rw [List.getElem?_concat_length]; rfl) rfl ?_
  refine shape_spec h fun w1 h => ?_
  have hlen := h.lenU (i := j) (by rw [List.getElem?_append_left hjl]; exact hj) hu
  refine h.nw fun s1 w1 h => ?_
  refine h.st0 _ List.getElem?_concat_length (by simp) rfl fun w1 h => ?_
  rw [set_last] at h
  refine h.st (n := 1) _ List.getElem?_concat_length (by simp) rfl fun w1 h => ?_
  rw [set_last] at h
  refine h.st (n := 2) _ List.getElem?_concat_length (by simp) rfl fun w1 h => ?_
  rw [set_last] at h
  refine h.st (n := 3) _ List.getElem?_concat_length (by simp) rfl fun w1 h => ?_
  rw [set_last] at h
  refine h.st (n := 4) _ List.getElem?_concat_length (by simp) rfl fun w1 h => ?_
  rw [set_last] at h
  have h : Hp S w0 w1 (its ++ [tBlk i 23 [.int .i64 op, .int .i64 a]] ++ [tBlk s1 74 [.string (row op).word, .bool (row op).num, .int .i64 (takesOf (row op)), .int .i64 (row op).pt, .int .i64 (byOf (row op))]]) := h
  have hI : ∀ {t : Thing}, ((its ++ [tBlk i 23 [.int .i64 op, .int .i64 a]] ++ [t])[its.length]?).map Thing.holds = some (tBlk i 23 [.int .i64 op, .int .i64 a]).holds := fun {t} => by rw [mid1]; rfl
  have hLs : ∀ {A : List Thing} {b : Nat} {e : TypeId} {c : List Value}, ((A ++ [tBlk b e c])[A.length]?).map Thing.holds = some (tBlk b e c).holds := fun {A b e c} => by rw [List.getElem?_concat_length]; rfl
  have htk := tk_range op
  refine ⟨fun w' => Hp S w0 w' (its ++ [tBlk i 23 [.int .i64 op, .int .i64 a]] ++ [tBlk s1 74 [.string (row op).word, .bool (row op).num, .int .i64 (if (row op).tk = -1 then (if 0 ≤ a ∧ a < fs.length then (match fs[a.toNat]? with | some x => (if 0 > x.pa then 0 else x.pa) | none => 0) else 0) else if (row op).tk = -2 then (if 0 ≤ a then Int.tmod a 8 else 0) else (row op).tk), .int .i64 (row op).pt, .int .i64 (byOf (row op))]]), ?_, ?_⟩
  ·refine ⟨fun t w' => w' = w1 ∧ t = decide ((row op).tk = -1 ∧ 0 ≤ a ∧ a < fs.length), ?_, ?_⟩
   ·refine h.ld (n := 4) (k := .i .i64) (x := byOf (row op)) _ hLs rfl ?_
    by_cases h1 : (row op).tk = -1
    ·refine ifT (by simp [byOf, h1]) ?_
     refine h.ld (n := 1) (k := .i .i64) (x := a) _ hI rfl ?_
     by_cases h2 : 0 ≤ a
     ·refine ifT (by simpa using h2) ?_
      refine h.ld (n := 1) (k := .i .i64) (x := a) _ hI rfl ?_
      exact ⟨rfl, by simp [h1, h2, hlen]⟩
     ·exact ifF (by simpa using h2) ⟨rfl, by simp [h2]⟩
    ·refine ifF ?_ ⟨rfl, by simp [h1]⟩
     unfold byOf
     rw [if_neg h1]
     split <;> simp
   rintro t w2 ⟨hw, rfl⟩
   obtain rfl := hw.symm
   by_cases h1 : (row op).tk = -1 ∧ 0 ≤ a ∧ a < fs.length
   ·refine ifT (by simpa using h1) ?_
    obtain ⟨g1, g2, g3⟩ := h1
    obtain ⟨x, hx⟩ : ∃ x, fs[a.toNat]? = some x := ⟨fs[a.toNat]'(by omega), List.getElem?_eq_getElem (by omega)⟩
    refine h.ld (n := 1) (k := .i .i64) (x := a) _ hI rfl ?_
    obtain ⟨O, hO⟩ := h.see' (i := j) (t := u) (by rw [List.getElem?_append_left (by rw [List.length_append]; omega), List.getElem?_append_left hjl]; exact hj)
    obtain ⟨o, hR⟩ := hu.rd hO
    refine SlR.ix rtv_len hR g2 (x := x) hx fun ad hc => ?_
    refine ldR (k := .i .i64) (x := x.pa) (hc 1 (by omega)) rfl ?_
    refine h.st (n := 2) _ List.getElem?_concat_length (by simp) rfl fun w2 h => ?_
    rw [set_last] at h
    rw [if_pos g1, if_pos ⟨g2, g3⟩, hx]
    exact h
   ·refine ifF (by simpa using h1) ?_
    refine ⟨fun t w' => w' = w1 ∧ t = decide ((row op).tk = -2 ∧ 0 ≤ a), ?_, ?_⟩
    ·refine h.ld (n := 4) (k := .i .i64) (x := byOf (row op)) _ hLs rfl ?_
     by_cases h2 : (row op).tk = -2
     ·refine ifT (by simp [byOf, h2]) ?_
      refine h.ld (n := 1) (k := .i .i64) (x := a) _ hI rfl ?_
      exact ⟨rfl, by simp [h2]⟩
     ·refine ifF ?_ ⟨rfl, by simp [h2]⟩
      unfold byOf
      split
      ·simp
      ·simp [h2]
    rintro t w2 ⟨hw, rfl⟩
    obtain rfl := hw.symm
    by_cases h2 : (row op).tk = -2 ∧ 0 ≤ a
    ·refine ifT (by simpa using h2) ?_
     refine h.ld (n := 1) (k := .i .i64) (x := a) _ hI rfl ?_
     refine ⟨by decide, ?_⟩
     refine h.st (n := 2) _ List.getElem?_concat_length (by simp) rfl fun w2 h => ?_
     rw [set_last] at h
     rw [if_neg (by omega), if_pos h2.1, if_pos h2.2]
     exact h
    ·refine ifF (by simpa using h2) ?_
     have e : (if (row op).tk = -1 then (if 0 ≤ a ∧ a < fs.length then (match fs[a.toNat]? with | some x => (if 0 > x.pa then 0 else x.pa) | none => 0) else 0) else if (row op).tk = -2 then (if 0 ≤ a then Int.tmod a 8 else 0) else (row op).tk) = takesOf (row op) := by
      unfold takesOf
      by_cases k1 : (row op).tk = -1
      ·rw [if_pos k1, if_neg (fun k => h1 ⟨k1, k⟩), if_pos (by omega)]
      ·rw [if_neg k1]
       by_cases k2 : (row op).tk = -2
       ·rw [if_pos k2, if_neg (fun k => h2 ⟨k2, k⟩), if_pos (by omega)]
       ·rw [if_neg k2, if_neg (by omega)]
     rw [e]
     exact h
  ·intro w2 h
   refine h.dr fun w3 h => ?_
   refine h.ld (n := 2) (k := .i .i64) _ hLs rfl ?_
   refine h.ld (n := 3) (k := .i .i64) _ hLs rfl ?_
   exact hK w3 h.front.front
end
end Go.Proofs.YtmfgofbcnlkolaaGreatDoor.F
end

section
namespace Go.Proofs
open Go.Shelf
def Tryz.lays169_ren : Go.Shelf.Ren := ⟨fun | 169 => 56 | n => n, fun | 70 => 110 | 9 => 9 | 0 => 0 | 72 => 112 | 37 => 34 | 127 => 138 | 3 => 3 | 5 => 5 | n => n, fun | n => n⟩
theorem Tryz.lays169 : Go.Proofs.Lays.n169 Tryz.prog Tryz.lays169_ren := {
 mixed := by kernel_rfl
 f169 := Tryz.func56.trans (congrArg some (by kernel_rfl))
 t0 := Tryz.underlying0
 a0 := Tryz.isAgg0
 z0 := Tryz.sizeOf0
 v0 := Tryz.zeroValue0
 t3 := Tryz.underlying3
 a3 := Tryz.isAgg3
 z3 := Tryz.sizeOf3
 v3 := Tryz.zeroValue3
 t9 := Tryz.underlying9
 a9 := Tryz.isAgg9
 z9 := Tryz.sizeOf9
 v9 := Tryz.zeroValue9
 t37 := Tryz.underlying34
 a37 := Tryz.isAgg34
 z37 := Tryz.sizeOf34
 v37 := Tryz.zeroValue34
 t70 := Tryz.underlying110
 a70 := Tryz.isAgg110
 z70 := Tryz.sizeOf110
 v70 := Tryz.zeroValue110
 t72 := Tryz.underlying112
 a72 := Tryz.isAgg112
 z72 := Tryz.sizeOf112
 v72 := Tryz.zeroValue112
 t127 := Tryz.underlying138
 a127 := Tryz.isAgg138
 z127 := Tryz.sizeOf138
 v127 := Tryz.zeroValue138 }
theorem Tryz.Builder_Extra_169 : Builder.Extra Tryz.prog Tryz.lays169_ren := {
 sizeBuilder := by kernel_rfl
 liesBuilder := by kernel_rfl
 t5 := Tryz.underlying5
 a5 := Tryz.isAgg5
 z5 := Tryz.sizeOf5
 v5 := Tryz.zeroValue5
 infoByte := by kernel_rfl
 cellsByte := by kernel_rfl
 sizeByte := by kernel_rfl
 neB5 := by decide }
open Go.RowKit in
theorem Tryz.Builder_String_any (B b : Nat) (l : List UInt8) (w : World) (h : Lib.IsBuilder 112 5 B b (Lib.byteCells l) w) (hBw : B ≤ w.heap.size) :
  Calls Tryz.prog 56 #[.pointer (some ⟨b, 0, none⟩)] w fun e w' => e = .returned (.string ⟨l.toArray⟩) ∧ Below B w w' := Any.Builder_String_any Tryz.lays169 Tryz.Builder_Extra_169 B b l w h hBw
def Tryz.laysM246_ren : Go.Shelf.Ren := ⟨fun | 246 => 103 | 283 => 108 | 284 => 109 | 285 => 110 | 286 => 111 | 129 => 122 | 317 => 121 | 318 => 123 | 319 => 124 | 320 => 125 | 337 => 136 | 338 => 137 | n => n, fun | 2 => 2 | 3 => 3 | 9 => 9 | 4 => 4 | 171 => 155 | 0 => 0 | 53 => 105 | 37 => 34 | 5 => 5 | 173 => 158 | 212 => 165 | 51 => 166 | 20 => 20 | 213 => 167 | 46 => 154 | 232 => 185 | 233 => 186 | n => n, fun | 17 => 1 | 18 => 4 | 19 => 5 | n => n⟩
theorem Tryz.laysM246 : Go.Proofs.LaysM.n246 Tryz.prog Tryz.laysM246_ren := {
 mixed := by kernel_rfl
 f129 := Tryz.func122.trans (congrArg some (by kernel_rfl))
 f246 := Tryz.func103.trans (congrArg some (by kernel_rfl))
 f283 := Tryz.func108.trans (congrArg some (by kernel_rfl))
 f284 := Tryz.func109.trans (congrArg some (by kernel_rfl))
 f285 := Tryz.func110.trans (congrArg some (by kernel_rfl))
 f286 := Tryz.func111.trans (congrArg some (by kernel_rfl))
 f317 := Tryz.func121.trans (congrArg some (by kernel_rfl))
 f318 := Tryz.func123.trans (congrArg some (by kernel_rfl))
 f319 := Tryz.func124.trans (congrArg some (by kernel_rfl))
 f320 := Tryz.func125.trans (congrArg some (by kernel_rfl))
 f337 := Tryz.func136.trans (congrArg some (by kernel_rfl))
 f338 := Tryz.func137.trans (congrArg some (by kernel_rfl))
 t0 := Tryz.underlying0
 a0 := Tryz.isAgg0
 z0 := Tryz.sizeOf0
 v0 := Tryz.zeroValue0
 t2 := Tryz.underlying2
 a2 := Tryz.isAgg2
 z2 := Tryz.sizeOf2
 v2 := Tryz.zeroValue2
 t3 := Tryz.underlying3
 a3 := Tryz.isAgg3
 z3 := Tryz.sizeOf3
 v3 := Tryz.zeroValue3
 t4 := Tryz.underlying4
 a4 := Tryz.isAgg4
 z4 := Tryz.sizeOf4
 v4 := Tryz.zeroValue4
 t5 := Tryz.underlying5
 a5 := Tryz.isAgg5
 z5 := Tryz.sizeOf5
 v5 := Tryz.zeroValue5
 t9 := Tryz.underlying9
 a9 := Tryz.isAgg9
 z9 := Tryz.sizeOf9
 v9 := Tryz.zeroValue9
 t20 := Tryz.underlying20
 a20 := Tryz.isAgg20
 z20 := Tryz.sizeOf20
 v20 := Tryz.zeroValue20
 t37 := Tryz.underlying34
 a37 := Tryz.isAgg34
 z37 := Tryz.sizeOf34
 v37 := Tryz.zeroValue34
 t46 := Tryz.underlying154
 a46 := Tryz.isAgg154
 z46 := Tryz.sizeOf154
 v46 := Tryz.zeroValue154
 t51 := Tryz.underlying166
 a51 := Tryz.isAgg166
 z51 := Tryz.sizeOf166
 v51 := Tryz.zeroValue166
 t53 := Tryz.underlying105
 a53 := Tryz.isAgg105
 z53 := Tryz.sizeOf105
 v53 := Tryz.zeroValue105
 t171 := Tryz.underlying155
 a171 := Tryz.isAgg155
 z171 := Tryz.sizeOf155
 v171 := Tryz.zeroValue155
 t173 := Tryz.underlying158
 a173 := Tryz.isAgg158
 z173 := Tryz.sizeOf158
 v173 := Tryz.zeroValue158
 t212 := Tryz.underlying165
 a212 := Tryz.isAgg165
 z212 := Tryz.sizeOf165
 v212 := Tryz.zeroValue165
 t213 := Tryz.underlying167
 a213 := Tryz.isAgg167
 z213 := Tryz.sizeOf167
 t232 := Tryz.underlying185
 a232 := Tryz.isAgg185
 z232 := Tryz.sizeOf185
 v232 := Tryz.zeroValue185
 t233 := Tryz.underlying186
 a233 := Tryz.isAgg186
 z233 := Tryz.sizeOf186
 v233 := Tryz.zeroValue186
 g17 := by kernel_rfl
 g18 := by kernel_rfl
 g19 := by kernel_rfl
 i0 := by kernel_rfl
 i2 := by kernel_rfl
 i3 := by kernel_rfl
 i4 := by kernel_rfl
 i5 := by kernel_rfl
 i9 := by kernel_rfl
 i20 := by kernel_rfl
 i37 := by kernel_rfl
 i46 := by kernel_rfl
 i51 := by kernel_rfl
 i53 := by kernel_rfl
 i171 := by kernel_rfl
 i173 := by kernel_rfl
 i212 := by kernel_rfl
 i232 := by kernel_rfl
 i233 := by kernel_rfl
 m17 := by kernel_rfl
 m18 := by kernel_rfl
 m19 := by kernel_rfl }
open Go.RowKit Go.Sort Go.Lib in
theorem Tryz.internal_strconv_FormatInt_10 (n : Int) (h0 : -9223372036854775808 ≤ n) (h1 : n ≤ 9223372036854775807) (w : World) (htab : Lib.TabIs Tryz.prog w "internal/strconv.uint64pow10" .u64 Lib.pow10Tab) :
  Calls Tryz.prog 103 #[.int .i64 n, .int .i64 10] w fun e w' => e = .returned (.string ⟨(Lib.itoa n).toArray⟩) ∧ ∃ k os, w' = grow (w.drewN k) os := Any.internal_strconv_FormatInt_10 Tryz.laysM246 n h0 h1 w htab
def Tryz.laysM243_ren : Go.Shelf.Ren := ⟨fun | 243 => 86 | 246 => 103 | 283 => 108 | 284 => 109 | 285 => 110 | 286 => 111 | 129 => 122 | 317 => 121 | 318 => 123 | 319 => 124 | 320 => 125 | 337 => 136 | 338 => 137 | n => n, fun | 3 => 3 | 9 => 9 | 2 => 2 | 4 => 4 | 171 => 155 | 0 => 0 | 53 => 105 | 37 => 34 | 5 => 5 | 173 => 158 | 212 => 165 | 51 => 166 | 20 => 20 | 213 => 167 | 46 => 154 | 232 => 185 | 233 => 186 | n => n, fun | 17 => 1 | 18 => 4 | 19 => 5 | n => n⟩
theorem Tryz.laysM243 : Go.Proofs.LaysM.n243 Tryz.prog Tryz.laysM243_ren := {
 mixed := by kernel_rfl
 f129 := Tryz.func122.trans (congrArg some (by kernel_rfl))
 f243 := Tryz.func86.trans (congrArg some (by kernel_rfl))
 f246 := Tryz.func103.trans (congrArg some (by kernel_rfl))
 f283 := Tryz.func108.trans (congrArg some (by kernel_rfl))
 f284 := Tryz.func109.trans (congrArg some (by kernel_rfl))
 f285 := Tryz.func110.trans (congrArg some (by kernel_rfl))
 f286 := Tryz.func111.trans (congrArg some (by kernel_rfl))
 f317 := Tryz.func121.trans (congrArg some (by kernel_rfl))
 f318 := Tryz.func123.trans (congrArg some (by kernel_rfl))
 f319 := Tryz.func124.trans (congrArg some (by kernel_rfl))
 f320 := Tryz.func125.trans (congrArg some (by kernel_rfl))
 f337 := Tryz.func136.trans (congrArg some (by kernel_rfl))
 f338 := Tryz.func137.trans (congrArg some (by kernel_rfl))
 t0 := Tryz.underlying0
 a0 := Tryz.isAgg0
 z0 := Tryz.sizeOf0
 v0 := Tryz.zeroValue0
 t2 := Tryz.underlying2
 a2 := Tryz.isAgg2
 z2 := Tryz.sizeOf2
 v2 := Tryz.zeroValue2
 t3 := Tryz.underlying3
 a3 := Tryz.isAgg3
 z3 := Tryz.sizeOf3
 v3 := Tryz.zeroValue3
 t4 := Tryz.underlying4
 a4 := Tryz.isAgg4
 z4 := Tryz.sizeOf4
 v4 := Tryz.zeroValue4
 t5 := Tryz.underlying5
 a5 := Tryz.isAgg5
 z5 := Tryz.sizeOf5
 v5 := Tryz.zeroValue5
 t9 := Tryz.underlying9
 a9 := Tryz.isAgg9
 z9 := Tryz.sizeOf9
 v9 := Tryz.zeroValue9
 t20 := Tryz.underlying20
 a20 := Tryz.isAgg20
 z20 := Tryz.sizeOf20
 v20 := Tryz.zeroValue20
 t37 := Tryz.underlying34
 a37 := Tryz.isAgg34
 z37 := Tryz.sizeOf34
 v37 := Tryz.zeroValue34
 t46 := Tryz.underlying154
 a46 := Tryz.isAgg154
 z46 := Tryz.sizeOf154
 v46 := Tryz.zeroValue154
 t51 := Tryz.underlying166
 a51 := Tryz.isAgg166
 z51 := Tryz.sizeOf166
 v51 := Tryz.zeroValue166
 t53 := Tryz.underlying105
 a53 := Tryz.isAgg105
 z53 := Tryz.sizeOf105
 v53 := Tryz.zeroValue105
 t171 := Tryz.underlying155
 a171 := Tryz.isAgg155
 z171 := Tryz.sizeOf155
 v171 := Tryz.zeroValue155
 t173 := Tryz.underlying158
 a173 := Tryz.isAgg158
 z173 := Tryz.sizeOf158
 v173 := Tryz.zeroValue158
 t212 := Tryz.underlying165
 a212 := Tryz.isAgg165
 z212 := Tryz.sizeOf165
 v212 := Tryz.zeroValue165
 t213 := Tryz.underlying167
 a213 := Tryz.isAgg167
 z213 := Tryz.sizeOf167
 t232 := Tryz.underlying185
 a232 := Tryz.isAgg185
 z232 := Tryz.sizeOf185
 v232 := Tryz.zeroValue185
 t233 := Tryz.underlying186
 a233 := Tryz.isAgg186
 z233 := Tryz.sizeOf186
 v233 := Tryz.zeroValue186
 g17 := by kernel_rfl
 g18 := by kernel_rfl
 g19 := by kernel_rfl
 i0 := by kernel_rfl
 i2 := by kernel_rfl
 i3 := by kernel_rfl
 i4 := by kernel_rfl
 i5 := by kernel_rfl
 i9 := by kernel_rfl
 i20 := by kernel_rfl
 i37 := by kernel_rfl
 i46 := by kernel_rfl
 i51 := by kernel_rfl
 i53 := by kernel_rfl
 i171 := by kernel_rfl
 i173 := by kernel_rfl
 i212 := by kernel_rfl
 i232 := by kernel_rfl
 i233 := by kernel_rfl
 m17 := by kernel_rfl
 m18 := by kernel_rfl
 m19 := by kernel_rfl }
open Go.RowKit Go.Sort Go.Lib in
theorem Tryz.internal_strconv_Itoa (n : Int) (h0 : -9223372036854775808 ≤ n) (h1 : n ≤ 9223372036854775807) (w : World) (htab : Lib.TabIs Tryz.prog w "internal/strconv.uint64pow10" .u64 Lib.pow10Tab) :
  Calls Tryz.prog 86 #[.int .i64 n] w fun e w' => e = .returned (.string ⟨(Lib.itoa n).toArray⟩) ∧ ∃ k os, w' = grow (w.drewN k) os := Any.internal_strconv_Itoa Tryz.laysM243 n h0 h1 w htab
def Tryz.laysC245_ren : Go.Shelf.Ren := ⟨fun | 245 => 120 | 279 => 132 | 280 => 133 | 281 => 134 | 282 => 135 | 316 => 141 | 171 => 54 | 205 => 142 | 243 => 86 | 246 => 103 | 283 => 108 | 284 => 109 | 285 => 110 | 286 => 111 | 129 => 122 | 317 => 121 | 318 => 123 | 319 => 124 | 320 => 125 | 337 => 136 | 338 => 137 | n => n, fun | 9 => 9 | 3 => 3 | 75 => 39 | 167 => 173 | 4 => 4 | 168 => 176 | 210 => 183 | 37 => 34 | 0 => 0 | 127 => 138 | 145 => 193 | 143 => 191 | 2 => 2 | 171 => 155 | 53 => 105 | 5 => 5 | 173 => 158 | 212 => 165 | 51 => 166 | 20 => 20 | 213 => 167 | 46 => 154 | 232 => 185 | 233 => 186 | 80 => 116 | n => n, fun | 15 => 2 | 16 => 3 | 17 => 1 | 18 => 4 | 19 => 5 | n => n⟩
def Tryz.laysC174_ren : Go.Shelf.Ren := ⟨fun | 174 => 106 | 247 => 119 | 245 => 120 | 287 => 131 | 279 => 132 | 280 => 133 | 281 => 134 | 282 => 135 | 321 => 139 | 322 => 140 | 316 => 141 | 171 => 54 | 205 => 142 | 243 => 86 | 246 => 103 | 283 => 108 | 284 => 109 | 285 => 110 | 286 => 111 | 129 => 122 | 317 => 121 | 318 => 123 | 319 => 124 | 320 => 125 | 337 => 136 | 338 => 137 | n => n, fun | 9 => 9 | 3 => 3 | 2 => 2 | 75 => 39 | 85 => 152 | 4 => 4 | 167 => 173 | 5 => 5 | 53 => 105 | 175 => 174 | 46 => 154 | 168 => 176 | 37 => 34 | 0 => 0 | 210 => 183 | 21 => 21 | 127 => 138 | 145 => 193 | 143 => 191 | 171 => 155 | 173 => 158 | 212 => 165 | 51 => 166 | 20 => 20 | 213 => 167 | 232 => 185 | 233 => 186 | 80 => 116 | n => n, fun | 15 => 2 | 16 => 3 | 17 => 1 | 18 => 4 | 19 => 5 | n => n⟩
theorem Tryz.laysC174 : Go.Proofs.LaysC.n174 Tryz.prog Tryz.laysC174_ren := {
 mixed := by kernel_rfl
 f129 := Tryz.func122.trans (congrArg some (by kernel_rfl))
 f171 := Tryz.func54.trans (congrArg some (by kernel_rfl))
 f174 := Tryz.func106.trans (congrArg some (by kernel_rfl))
 f205 := Tryz.func142.trans (congrArg some (by kernel_rfl))
 f243 := Tryz.func86.trans (congrArg some (by kernel_rfl))
 f245 := Tryz.func120.trans (congrArg some (by kernel_rfl))
 f246 := Tryz.func103.trans (congrArg some (by kernel_rfl))
 f247 := Tryz.func119.trans (congrArg some (by kernel_rfl))
 f279 := Tryz.func132.trans (congrArg some (by kernel_rfl))
 f280 := Tryz.func133.trans (congrArg some (by kernel_rfl))
 f281 := Tryz.func134.trans (congrArg some (by kernel_rfl))
 f282 := Tryz.func135.trans (congrArg some (by kernel_rfl))
 f283 := Tryz.func108.trans (congrArg some (by kernel_rfl))
 f284 := Tryz.func109.trans (congrArg some (by kernel_rfl))
 f285 := Tryz.func110.trans (congrArg some (by kernel_rfl))
 f286 := Tryz.func111.trans (congrArg some (by kernel_rfl))
 f287 := Tryz.func131.trans (congrArg some (by kernel_rfl))
 f316 := Tryz.func141.trans (congrArg some (by kernel_rfl))
 f317 := Tryz.func121.trans (congrArg some (by kernel_rfl))
 f318 := Tryz.func123.trans (congrArg some (by kernel_rfl))
 f319 := Tryz.func124.trans (congrArg some (by kernel_rfl))
 f320 := Tryz.func125.trans (congrArg some (by kernel_rfl))
 f321 := Tryz.func139.trans (congrArg some (by kernel_rfl))
 f322 := Tryz.func140.trans (congrArg some (by kernel_rfl))
 f337 := Tryz.func136.trans (congrArg some (by kernel_rfl))
 f338 := Tryz.func137.trans (congrArg some (by kernel_rfl))
 t0 := Tryz.underlying0
 a0 := Tryz.isAgg0
 z0 := Tryz.sizeOf0
 v0 := Tryz.zeroValue0
 t2 := Tryz.underlying2
 a2 := Tryz.isAgg2
 z2 := Tryz.sizeOf2
 v2 := Tryz.zeroValue2
 t3 := Tryz.underlying3
 a3 := Tryz.isAgg3
 z3 := Tryz.sizeOf3
 v3 := Tryz.zeroValue3
 t4 := Tryz.underlying4
 a4 := Tryz.isAgg4
 z4 := Tryz.sizeOf4
 v4 := Tryz.zeroValue4
 t5 := Tryz.underlying5
 a5 := Tryz.isAgg5
 z5 := Tryz.sizeOf5
 v5 := Tryz.zeroValue5
 t9 := Tryz.underlying9
 a9 := Tryz.isAgg9
 z9 := Tryz.sizeOf9
 v9 := Tryz.zeroValue9
 t20 := Tryz.underlying20
 a20 := Tryz.isAgg20
 z20 := Tryz.sizeOf20
 v20 := Tryz.zeroValue20
 t21 := Tryz.underlying21
 a21 := Tryz.isAgg21
 z21 := Tryz.sizeOf21
 v21 := Tryz.zeroValue21
 t37 := Tryz.underlying34
 a37 := Tryz.isAgg34
 z37 := Tryz.sizeOf34
 v37 := Tryz.zeroValue34
 t46 := Tryz.underlying154
 a46 := Tryz.isAgg154
 z46 := Tryz.sizeOf154
 v46 := Tryz.zeroValue154
 t51 := Tryz.underlying166
 a51 := Tryz.isAgg166
 z51 := Tryz.sizeOf166
 v51 := Tryz.zeroValue166
 t53 := Tryz.underlying105
 a53 := Tryz.isAgg105
 z53 := Tryz.sizeOf105
 v53 := Tryz.zeroValue105
 t75 := Tryz.underlying39
 a75 := Tryz.isAgg39
 z75 := Tryz.sizeOf39
 v75 := Tryz.zeroValue39
 t85 := Tryz.underlying152
 a85 := Tryz.isAgg152
 z85 := Tryz.sizeOf152
 v85 := Tryz.zeroValue152
 t127 := Tryz.underlying138
 a127 := Tryz.isAgg138
 z127 := Tryz.sizeOf138
 v127 := Tryz.zeroValue138
 t143 := Tryz.underlying191
 a143 := Tryz.isAgg191
 z143 := Tryz.sizeOf191
 v143 := Tryz.zeroValue191
 t145 := Tryz.underlying193
 a145 := Tryz.isAgg193
 z145 := Tryz.sizeOf193
 v145 := Tryz.zeroValue193
 t167 := Tryz.underlying173
 a167 := Tryz.isAgg173
 z167 := Tryz.sizeOf173
 v167 := Tryz.zeroValue173
 t168 := Tryz.underlying176
 a168 := Tryz.isAgg176
 z168 := Tryz.sizeOf176
 v168 := Tryz.zeroValue176
 t171 := Tryz.underlying155
 a171 := Tryz.isAgg155
 z171 := Tryz.sizeOf155
 v171 := Tryz.zeroValue155
 t173 := Tryz.underlying158
 a173 := Tryz.isAgg158
 z173 := Tryz.sizeOf158
 v173 := Tryz.zeroValue158
 t175 := Tryz.underlying174
 a175 := Tryz.isAgg174
 z175 := Tryz.sizeOf174
 v175 := Tryz.zeroValue174
 t210 := Tryz.underlying183
 a210 := Tryz.isAgg183
 z210 := Tryz.sizeOf183
 v210 := Tryz.zeroValue183
 t212 := Tryz.underlying165
 a212 := Tryz.isAgg165
 z212 := Tryz.sizeOf165
 v212 := Tryz.zeroValue165
 t213 := Tryz.underlying167
 a213 := Tryz.isAgg167
 z213 := Tryz.sizeOf167
 t232 := Tryz.underlying185
 a232 := Tryz.isAgg185
 z232 := Tryz.sizeOf185
 v232 := Tryz.zeroValue185
 t233 := Tryz.underlying186
 a233 := Tryz.isAgg186
 z233 := Tryz.sizeOf186
 v233 := Tryz.zeroValue186
 g15 := by kernel_rfl
 g16 := by kernel_rfl
 g17 := by kernel_rfl
 g18 := by kernel_rfl
 g19 := by kernel_rfl
 t80 := Tryz.underlying116
 a80 := Tryz.isAgg116
 z80 := Tryz.sizeOf116
 v80 := Tryz.zeroValue116
 i0 := by kernel_rfl
 i2 := by kernel_rfl
 i3 := by kernel_rfl
 i4 := by kernel_rfl
 i5 := by kernel_rfl
 i9 := by kernel_rfl
 i20 := by kernel_rfl
 i21 := by kernel_rfl
 i37 := by kernel_rfl
 i46 := by kernel_rfl
 i51 := by kernel_rfl
 i53 := by kernel_rfl
 i75 := by kernel_rfl
 i80 := by kernel_rfl
 i85 := by kernel_rfl
 i127 := by kernel_rfl
 i143 := by kernel_rfl
 i145 := by kernel_rfl
 i167 := by kernel_rfl
 i168 := by kernel_rfl
 i171 := by kernel_rfl
 i173 := by kernel_rfl
 i175 := by kernel_rfl
 i210 := by kernel_rfl
 i212 := by kernel_rfl
 i232 := by kernel_rfl
 i233 := by kernel_rfl
 m15 := by kernel_rfl
 m16 := by kernel_rfl
 m17 := by kernel_rfl
 m18 := by kernel_rfl
 m19 := by kernel_rfl
 c0 := by kernel_rfl
 c2 := by kernel_rfl
 c3 := by kernel_rfl
 c4 := by kernel_rfl
 c5 := by kernel_rfl
 c9 := by kernel_rfl
 c20 := by kernel_rfl
 c21 := by kernel_rfl
 c37 := by kernel_rfl
 c46 := by kernel_rfl
 c51 := by kernel_rfl
 c53 := by kernel_rfl
 c75 := by kernel_rfl
 c80 := by kernel_rfl
 c85 := by kernel_rfl
 c127 := by kernel_rfl
 c143 := by kernel_rfl
 c145 := by kernel_rfl
 c167 := by kernel_rfl
 c168 := by kernel_rfl
 c171 := by kernel_rfl
 c173 := by kernel_rfl
 c175 := by kernel_rfl
 c210 := by kernel_rfl
 c212 := by kernel_rfl
 c213 := by kernel_rfl
 c232 := by kernel_rfl
 c233 := by kernel_rfl }
open Go.RowKit in
theorem Tryz.strconv_ParseInt_10_at64_ok (s : ByteArray) (hmax : s.size ≤ 9223372036854775806) (v : Int) (h : Lib.parseIntB 64 s.data.toList = .ok v) (w : World) :
  Calls Tryz.prog 106 #[.string s, .int .i64 10, .int .i64 64] w fun e w' => e = .returned (.tuple #[.int .i64 v, .nilIface]) ∧ (w' = w ∨ ∃ t, w' = Lib.bytesWorld w 5 t) := Any.strconv_ParseInt_10_at64_ok Tryz.laysC174 s hmax v h w
open Go.RowKit in
theorem Tryz.strconv_ParseInt_10_at64_syntax (s : ByteArray) (hlim : s.size ≤ 281474976710656) (h : Lib.parseIntB 64 s.data.toList = Lib.parseIntB 64 []) (ev : Value) (w : World) (hv : w.cell? ⟨2, 0, none⟩ = some ev) (hev : ev = .nilIface ∨ ∃ te pe, ev = .iface te pe) :
  Calls Tryz.prog 106 #[.string s, .int .i64 10, .int .i64 64] w fun e w' => ∃ N, e = .returned (.tuple #[.int .i64 (0), .iface 176 (.pointer (some ⟨N, 0, none⟩))]) ∧ w.heap.size ≤ N ∧ w'.heap[N]? = some (.cells #[.string ⟨#[80, 97, 114, 115, 101, 73, 110, 116]⟩, .string s, ev] 183 (0, 0)) ∧ Below w.heap.size w w' := Any.strconv_ParseInt_10_at64_syntax Tryz.laysC174 s hlim h ev w hv hev
open Go.RowKit in
theorem Tryz.strconv_ParseInt_10_at64_range (s : ByteArray) (hlim : s.size ≤ 281474976710656) (h : Lib.parseIntB 64 s.data.toList = .range) (ev : Value) (w : World) (hv : w.cell? ⟨3, 0, none⟩ = some ev) (hev : ev = .nilIface ∨ ∃ te pe, ev = .iface te pe) :
  Calls Tryz.prog 106 #[.string s, .int .i64 10, .int .i64 64] w fun e w' => ∃ N, e = .returned (.tuple #[.int .i64 (Lib.intSat 64 s.data.toList), .iface 176 (.pointer (some ⟨N, 0, none⟩))]) ∧ w.heap.size ≤ N ∧ w'.heap[N]? = some (.cells #[.string ⟨#[80, 97, 114, 115, 101, 73, 110, 116]⟩, .string s, ev] 183 (0, 0)) ∧ Below w.heap.size w w' := Any.strconv_ParseInt_10_at64_range Tryz.laysC174 s hlim h ev w hv hev
def Tryz.lays219_ren : Go.Shelf.Ren := ⟨fun | 219 => 104 | 217 => 112 | 225 => 113 | 224 => 114 | 267 => 115 | 266 => 126 | 314 => 127 | n => n, fun | 9 => 9 | 3 => 3 | 4 => 4 | 5 => 5 | 46 => 154 | 146 => 169 | 51 => 166 | n => n, fun | 1 => 0 | n => n⟩
def Tryz.lays145_ren : Go.Shelf.Ren := ⟨fun | 145 => 60 | 220 => 88 | 219 => 104 | 217 => 112 | 225 => 113 | 224 => 114 | 267 => 115 | 266 => 126 | 314 => 127 | n => n, fun | 9 => 9 | 4 => 4 | 59 => 119 | 3 => 3 | 5 => 5 | 46 => 154 | 146 => 169 | 51 => 166 | n => n, fun | 1 => 0 | n => n⟩
theorem Tryz.lays145 : Go.Proofs.Lays.n145 Tryz.prog Tryz.lays145_ren := {
 mixed := by kernel_rfl
 f145 := Tryz.func60.trans (congrArg some (by kernel_rfl))
 f217 := Tryz.func112.trans (congrArg some (by kernel_rfl))
 f219 := Tryz.func104.trans (congrArg some (by kernel_rfl))
 f220 := Tryz.func88.trans (congrArg some (by kernel_rfl))
 f224 := Tryz.func114.trans (congrArg some (by kernel_rfl))
 f225 := Tryz.func113.trans (congrArg some (by kernel_rfl))
 f266 := Tryz.func126.trans (congrArg some (by kernel_rfl))
 f267 := Tryz.func115.trans (congrArg some (by kernel_rfl))
 f314 := Tryz.func127.trans (congrArg some (by kernel_rfl))
 t3 := Tryz.underlying3
 a3 := Tryz.isAgg3
 z3 := Tryz.sizeOf3
 v3 := Tryz.zeroValue3
 t4 := Tryz.underlying4
 a4 := Tryz.isAgg4
 z4 := Tryz.sizeOf4
 v4 := Tryz.zeroValue4
 t5 := Tryz.underlying5
 a5 := Tryz.isAgg5
 z5 := Tryz.sizeOf5
 v5 := Tryz.zeroValue5
 t9 := Tryz.underlying9
 a9 := Tryz.isAgg9
 z9 := Tryz.sizeOf9
 v9 := Tryz.zeroValue9
 t46 := Tryz.underlying154
 a46 := Tryz.isAgg154
 z46 := Tryz.sizeOf154
 v46 := Tryz.zeroValue154
 t51 := Tryz.underlying166
 a51 := Tryz.isAgg166
 z51 := Tryz.sizeOf166
 v51 := Tryz.zeroValue166
 t59 := Tryz.underlying119
 a59 := Tryz.isAgg119
 z59 := Tryz.sizeOf119
 v59 := Tryz.zeroValue119
 t146 := Tryz.underlying169
 a146 := Tryz.isAgg169
 z146 := Tryz.sizeOf169
 v146 := Tryz.zeroValue169
 g1 := by kernel_rfl }
open Go.RowKit Go.Lib in
theorem Tryz.strings_Cut (s sep : ByteArray) (m : Int) (w : World) (hs : s.size < 4294967281) (hm : w.cell? ⟨0, 0, none⟩ = some (.int .i64 m)) :
  Calls Tryz.prog 60 #[.string s, .string sep] w fun e w' => e = .returned (.tuple #[.string ⟨(Lib.cut s.data.toList sep.data.toList).1.toArray⟩, .string ⟨(Lib.cut s.data.toList sep.data.toList).2.1.toArray⟩, .bool (Lib.cut s.data.toList sep.data.toList).2.2]) ∧ ∃ n, w' = w.drewN n := Any.strings_Cut Tryz.lays145 s sep m w hs hm
def Tryz.lays221_ren : Go.Shelf.Ren := ⟨fun | 221 => 105 | 268 => 116 | 138 => 117 | 143 => 118 | 195 => 128 | 197 => 129 | 218 => 130 | 219 => 104 | 260 => 138 | 217 => 112 | 225 => 113 | 224 => 114 | 267 => 115 | 266 => 126 | 314 => 127 | n => n, fun | 9 => 9 | 3 => 3 | 31 => 139 | 4 => 4 | 0 => 0 | 105 => 171 | 21 => 21 | 5 => 5 | 46 => 154 | 119 => 187 | 139 => 190 | 138 => 189 | 146 => 169 | 51 => 166 | n => n, fun | 1 => 0 | 3 => 6 | 4 => 7 | n => n⟩
def Tryz.lays146_ren : Go.Shelf.Ren := ⟨fun | 146 => 89 | 221 => 105 | 268 => 116 | 138 => 117 | 143 => 118 | 195 => 128 | 197 => 129 | 218 => 130 | 219 => 104 | 260 => 138 | 217 => 112 | 225 => 113 | 224 => 114 | 267 => 115 | 266 => 126 | 314 => 127 | n => n, fun | 9 => 9 | 31 => 139 | 3 => 3 | 4 => 4 | 0 => 0 | 105 => 171 | 21 => 21 | 5 => 5 | 46 => 154 | 119 => 187 | 139 => 190 | 138 => 189 | 146 => 169 | 51 => 166 | n => n, fun | 1 => 0 | 3 => 6 | 4 => 7 | n => n⟩
theorem Tryz.lays146 : Go.Proofs.Lays.n146 Tryz.prog Tryz.lays146_ren := {
 mixed := by kernel_rfl
 f138 := Tryz.func117.trans (congrArg some (by kernel_rfl))
 f143 := Tryz.func118.trans (congrArg some (by kernel_rfl))
 f146 := Tryz.func89.trans (congrArg some (by kernel_rfl))
 f195 := Tryz.func128.trans (congrArg some (by kernel_rfl))
 f197 := Tryz.func129.trans (congrArg some (by kernel_rfl))
 f217 := Tryz.func112.trans (congrArg some (by kernel_rfl))
 f218 := Tryz.func130.trans (congrArg some (by kernel_rfl))
 f219 := Tryz.func104.trans (congrArg some (by kernel_rfl))
 f221 := Tryz.func105.trans (congrArg some (by kernel_rfl))
 f224 := Tryz.func114.trans (congrArg some (by kernel_rfl))
 f225 := Tryz.func113.trans (congrArg some (by kernel_rfl))
 f260 := Tryz.func138.trans (congrArg some (by kernel_rfl))
 f266 := Tryz.func126.trans (congrArg some (by kernel_rfl))
 f267 := Tryz.func115.trans (congrArg some (by kernel_rfl))
 f268 := Tryz.func116.trans (congrArg some (by kernel_rfl))
 f314 := Tryz.func127.trans (congrArg some (by kernel_rfl))
 t0 := Tryz.underlying0
 a0 := Tryz.isAgg0
 z0 := Tryz.sizeOf0
 v0 := Tryz.zeroValue0
 t3 := Tryz.underlying3
 a3 := Tryz.isAgg3
 z3 := Tryz.sizeOf3
 v3 := Tryz.zeroValue3
 t4 := Tryz.underlying4
 a4 := Tryz.isAgg4
 z4 := Tryz.sizeOf4
 v4 := Tryz.zeroValue4
 t5 := Tryz.underlying5
 a5 := Tryz.isAgg5
 z5 := Tryz.sizeOf5
 v5 := Tryz.zeroValue5
 t9 := Tryz.underlying9
 a9 := Tryz.isAgg9
 z9 := Tryz.sizeOf9
 v9 := Tryz.zeroValue9
 t21 := Tryz.underlying21
 a21 := Tryz.isAgg21
 z21 := Tryz.sizeOf21
 v21 := Tryz.zeroValue21
 t31 := Tryz.underlying139
 a31 := Tryz.isAgg139
 z31 := Tryz.sizeOf139
 v31 := Tryz.zeroValue139
 t46 := Tryz.underlying154
 a46 := Tryz.isAgg154
 z46 := Tryz.sizeOf154
 v46 := Tryz.zeroValue154
 t51 := Tryz.underlying166
 a51 := Tryz.isAgg166
 z51 := Tryz.sizeOf166
 v51 := Tryz.zeroValue166
 t105 := Tryz.underlying171
 a105 := Tryz.isAgg171
 z105 := Tryz.sizeOf171
 v105 := Tryz.zeroValue171
 t119 := Tryz.underlying187
 a119 := Tryz.isAgg187
 z119 := Tryz.sizeOf187
 t138 := Tryz.underlying189
 a138 := Tryz.isAgg189
 z138 := Tryz.sizeOf189
 v138 := Tryz.zeroValue189
 t139 := Tryz.underlying190
 a139 := Tryz.isAgg190
 z139 := Tryz.sizeOf190
 v139 := Tryz.zeroValue190
 t146 := Tryz.underlying169
 a146 := Tryz.isAgg169
 z146 := Tryz.sizeOf169
 v146 := Tryz.zeroValue169
 g1 := by kernel_rfl
 g3 := by kernel_rfl
 g4 := by kernel_rfl }
open Go.RowKit Go.Lib in
theorem Tryz.strings_Split (s sep : ByteArray) (m : Int) (w : World) (hs : s.size < 4294967281) (hm : w.cell? ⟨0, 0, none⟩ = some (.int .i64 m)) (h1 : 1 ≤ sep.size) :
  Calls Tryz.prog 89 #[.string s, .string sep] w fun e w' =>
   e = .returned (.slice (some ⟨w.heap.size, 0, none⟩) (Lib.countB s sep + 1) (Lib.countB s sep + 1)) ∧ w' = w.alloc (.cells ((Lib.splitB sep 0 (Lib.countB s sep) s).map Value.string).toArray 9) := Any.strings_Split Tryz.lays146 (by kernel_rfl) s sep m w hs hm h1
end Go.Proofs
end

section
namespace Go.Proofs.YtmfgofbcnlkolaaGreatDoor.F
open Go Go.Den Go.Proofs
def bv (x : Int) : Value := .int .u8 x
theorem row_fr {S : List Nat} {w w' : World} {B n : Nat} {v : Value} {xs : List Value} (h : w.ownsRow B 5 1 v n xs) (hf : Fr S w w') (hn : ∀ k ∈ v.ownBlock.toList, k ∉ S) : w'.ownsRow B 5 1 v n xs := by
 obtain ⟨h1, h2⟩ := h
 refine ⟨h1, ?_⟩
 rcases h2 with h2 | ⟨g, cap, cur, rfl, a1, a2, a3⟩
 ·exact .inl h2
 ·have hg : g < w.heap.size := (Array.getElem?_eq_some_iff.1 a2).1
  exact .inr ⟨g, cap, cur, rfl, a1, (hf.block g hg (hn g (by simp [Value.ownBlock]))).trans a2, a3⟩
theorem row_lt {w : World} {B n : Nat} {v : Value} {xs : List Value} (h : w.ownsRow B 5 1 v n xs) : ∀ k ∈ v.ownBlock.toList, k < w.heap.size := by
 obtain ⟨h1, h2⟩ := h
 rcases h2 with ⟨rfl, _⟩ | ⟨g, cap, cur, rfl, a1, a2, a3⟩
 ·simp [Value.ownBlock]
 ·intro k hk
  simp [Value.ownBlock] at hk
  subst hk
  exact (Array.getElem?_eq_some_iff.1 a2).1
def tBld (B b : Nat) (l : List Int) : Thing :=
  { holds := fun w O => ∃ (p : Option Addr) (v : Value), (p = none ∨ p = some ⟨b, 0, none⟩) ∧ B ≤ b ∧ w.heap[b]? = some (.cells #[.pointer p, v] 112 (0, 0)) ∧ w.ownsRow B 5 1 v l.length (l.map bv) ∧ v.ownBlock ≠ some b ∧ O = b :: v.ownBlock.toList
    fr := fun {S w w' O} h hf hn => by
      obtain ⟨p, v, h1, h2, h3, h4, h5, rfl⟩ := h
      have hb : b < w.heap.size := (Array.getElem?_eq_some_iff.1 h3).1
      exact ⟨p, v, h1, h2, (hf.block b hb (hn b (by simp))).trans h3, row_fr h4 hf fun k hk => hn k (by simp [hk]), h5, rfl⟩
    lt := fun {w O} h k hk => by
      obtain ⟨p, v, h1, h2, h3, h4, h5, rfl⟩ := h
      rcases List.mem_cons.1 hk with rfl | hk
      · exact (Array.getElem?_eq_some_iff.1 h3).1
      · exact row_lt h4 k hk }
theorem und110 : Tryz.prog.underlying 110 = some (.pointer 112) := by kernel_rfl
theorem und148 : Tryz.prog.underlying 148 = some .unsafePointer := by kernel_rfl
theorem inf112 : ∃ inf : TypeInfo, Tryz.prog.info? 112 = some inf ∧ inf.zero = some (.agg #[.pointer none, .slice none 0 0]) ∧ inf.size = 2 ∧ inf.bytes = 32 := infoP (by kernel_rfl)
theorem und34' : Tryz.prog.underlying 34 = some (.slice 5) := by kernel_rfl
theorem und9' : Tryz.prog.underlying 9 = some .string := by kernel_rfl
theorem bv_strCells (s : ByteArray) : Lib.strCells s = (strL s).map bv := by
 rw [strCells_fm, List.map_eq_flatMap]; rfl
section
variable {S : List Nat} {w0 w : World} {its rest : List Thing}
theorem copyCheck_spec (h : Hp S w0 w its) (i : Nat) {B b : Nat} {l : List Int} (hi : its[i]? = some (tBld B b l)) {K : World → Prop} (hK : ∀ w', Hp S w0 w' its → K w') : c85 (some ⟨b, 0, none⟩) w K := by
 refine c85_of ?_
 unfold f85
 rw [NN_some]
 obtain ⟨O, hO, back⟩ := h.step hi rfl
 obtain ⟨p, v, h1, h2, h3, h4, h5, rfl⟩ := hO
 have hc : w.cell? ⟨b, 0, none⟩ = some (.pointer p) := by simp [World.cell?, h3]
 have hz : w.frozen? ⟨b, 0, none⟩ = false := by simp [World.frozen?, h3]
 have hsh : w.shape? b = some (112, 2) := by simp [World.shape?, h3]
 obtain ⟨inf, i1, i2, i3, i4⟩ := inf112
 refine ⟨p, hc, ?_⟩
 rcases h1 with rfl | rfl
 ·refine ifT rfl ?_
  refine ⟨.pointer (some ⟨b, 0, none⟩), w, Lib.run_to_unsafe w ⟨b, 0, none⟩ und110 und148 i1 (by rw [i3]; decide) hsh (by simp), ?_⟩
  refine ⟨.pointer (some ⟨b, 0, none⟩), w, by kernel_rfl, ?_⟩
  refine ⟨some ⟨b, 0, none⟩, w, Lib.run_from_unsafe w ⟨b, 0, none⟩ und148 und110 i1 hsh (by kernel_rfl), ?_⟩
  dsimp only
  rw [NN_some]
  refine ⟨rfl, by rw [hc]; rfl, hz, ?_⟩
  have e : its.set i (tBld B b l) = its := Hp.set_same' hi
  refine hK _ ?_
  rw [← e]
  refine back (t' := tBld B b l) (O' := b :: v.ownBlock.toList) (Fr.mono (Fr.set 0 _) (by simp)) ?_ (fun k hk => .inl hk) rfl
  refine ⟨some ⟨b, 0, none⟩, v, .inr rfl, h2, ?_, row_fr h4 (Fr.set (w := w) (b := b) 0 (.pointer (some ⟨b, 0, none⟩))) (fun k hk => ?_), h5, rfl⟩
  ·simp [World.setCell, Array.getElem?_modify, h3]
  ·intro e
   simp only [List.mem_singleton] at e
   subst e
   exact h5 (by simpa using hk)
 ·refine ifF (by simp) ?_
  rw [NN_some]
  refine ⟨some ⟨b, 0, none⟩, hc, ?_⟩
  refine ⟨false, fun w' _ => ?_, ifF (by decide) (hK w h)⟩
  have := Lib.run_neq_ptr_same w' ⟨b, 0, none⟩ und110 i1
  unfold binSem
  simp [run_eqGuard_plain (P := Tryz.prog) (w := w') (op := .neq) (t := 110) (x := .tmp 17) (y := .tmp 18) (a := .pointer (some ⟨b, 0, none⟩)) (b := .pointer (some ⟨b, 0, none⟩)) rfl (by simp), this, Kd.inj]
theorem WriteString_spec (h : Hp S w0 w its) (i : Nat) {B b : Nat} {l : List Int} (hi : its[i]? = some (tBld B b l)) (s : ByteArray) (hl : l.length + s.size ≤ 140737488355328) {K : Int → Value → World → Prop} (hK : ∀ w', Hp S w0 w' (its.set i (tBld B b (l ++ strL s))) → K (s.size : Int) .nilIface w') : c53 (some ⟨b, 0, none⟩) s w K := by
 refine c53_of ?_
 unfold f53
 refine copyCheck_spec h i hi fun w h => ?_
 rw [NN_some]
 obtain ⟨O, hO, back⟩ := h.step hi rfl
 obtain ⟨p, v, h1, h2, h3, h4, h5, rfl⟩ := hO
 have hb : b < w.heap.size := (Array.getElem?_eq_some_iff.1 h3).1
 obtain ⟨inf, i1, i2, i3, i4⟩ := inf5
 have hv : ∃ buf : Sl, v = .slice buf.a buf.len buf.cap := by
  rcases h4.2 with ⟨rfl, _⟩ | ⟨g, cap, cur, rfl, _⟩
  ·exact ⟨⟨none, 0, 0⟩, rfl⟩
  ·exact ⟨⟨_, _, _⟩, rfl⟩
 obtain ⟨buf, rfl⟩ := hv
 refine ⟨buf, ?_, ?_⟩
 ·show w.cell? ⟨b, 1, none⟩ = _
  simp [World.cell?, h3, Kd.inj]
 obtain ⟨v', w2, hr, g1, g2, g3⟩ := Lib.run_append_own_string (P := Tryz.prog) w B 34 9 34 5 inf und34' und9' i1 i2 i3 i4 _ _ _ h4 s (by unfold maxLen; omega) hl (by omega)
 have hS : SlF w buf 5 1 u8v l (Value.slice buf.a buf.len buf.cap).ownBlock.toList := by
  obtain ⟨k1, k2⟩ := h4
  rcases k2 with ⟨k2, k3⟩ | ⟨g, cap, cur, k2, a1, a2, a3, a4, a5, a6⟩
  ·simp only [Value.slice.injEq] at k2
   obtain ⟨k2, k4, k5⟩ := k2
   refine ⟨by omega, .inl ⟨k2, k4, k5, by rw [k2]; rfl⟩⟩
  ·simp only [Value.slice.injEq] at k2
   obtain ⟨k2, k4, k5⟩ := k2
   refine ⟨k4.symm, .inr ⟨g, 0, cur.toList, k2, by rw [k2]; rfl, ?_, by omega, ?_, ?_⟩⟩
   ·show w.heap[g]? = some (.cells cur.toList.toArray 5 (0, 0))
    simpa using a2
   ·rw [Array.length_toList]; omega
   ·rw [List.drop_zero, k4, a6, List.map_eq_flatMap]; rfl
 obtain ⟨s2, w2', hr2, o', q1, q2, q3⟩ : Run .sl Tryz.prog (Builtin.append_ #[34, 9] 34 #[.slice buf.a buf.len buf.cap, .string s]) w (fun s' w' => ∃ o', SlF w' s' 5 1 u8v (l ++ strL s) o' ∧ (o' = (Value.slice buf.a buf.len buf.cap).ownBlock.toList ∨ ∃ k, w.heap.size ≤ k ∧ k < w'.heap.size ∧ o' = [k]) ∧ Fr (Value.slice buf.a buf.len buf.cap).ownBlock.toList w w') :=
  SlF.appT und34' und9' i1 i3 i2 i4 hS (by have := hS.1; omega) (fun s' w' o' a1 _ a3 a4 => ⟨o', a1, a3, a4⟩)
 rw [hr] at hr2
 simp only [Result.ok.injEq] at hr2
 obtain ⟨hv', rfl⟩ := hr2
 have hv' : v' = .slice s2.a s2.len s2.cap := hv'
 subst hv'
 refine ⟨s2, w2, hr, ?_⟩
 dsimp only
 rw [NN_some]
 have hb2 : w2.heap[b]? = some (.cells #[.pointer p, .slice buf.a buf.len buf.cap] 112 (0, 0)) := (g2.block b hb fun e => h5 e.symm).trans h3
 have hown : w2.ownsRow B 5 1 (.slice s2.a s2.len s2.cap) (((l ++ strL s).map bv).length) ((l ++ strL s).map bv) := by
  rw [bv_strCells, ← List.map_append] at g1
  have : ((l ++ strL s).map bv).length = l.length + s.size := by simp [strL_len]
  rw [this]
  exact g1
 obtain ⟨z1, v3, z2, z3, z4⟩ := Lib.BuilderAt.put h2 hb2 hown (by decide)
 refine ⟨rfl, ?_, ?_, hK _ (back (t' := tBld B b (l ++ strL s)) (O' := b :: (Value.slice s2.a s2.len s2.cap).ownBlock.toList) ?_ ⟨p, .slice s2.a s2.len s2.cap, h1, h2, ?_, ?_, ?_, rfl⟩ ?_ rfl)⟩
 ·show (w2.cell? ⟨b, 1, none⟩).isSome = true
  simp [World.cell?, hb2]
 ·show w2.frozen? ⟨b, 1, none⟩ = false
  simp [World.frozen?, hb2]
 ·have hf1 : Fr (b :: (Value.slice buf.a buf.len buf.cap).ownBlock.toList) w w2 := Fr.mono q3 (by simp +contextual)
  have hf2 : Fr [b] w2 (w2.setCell ⟨b, 1, none⟩ (.slice s2.a s2.len s2.cap)) := Fr.set 1 _
  exact Fr.trans hf1 hf2 (by simp)
 ·show (w2.setCell ⟨b, 1, none⟩ (.slice s2.a s2.len s2.cap)).heap[b]? = _
  simp [World.setCell, Array.getElem?_modify, hb2]
 ·have hw : (w2.setCell ⟨b, 1, none⟩ (.slice s2.a s2.len s2.cap)).ownsRow B 5 1 (.slice s2.a s2.len s2.cap) (((l ++ strL s).map bv).length) ((l ++ strL s).map bv) := by
   refine row_fr hown (Fr.set (b := b) 1 (.slice s2.a s2.len s2.cap)) ?_
   intro k hk e
   simp only [List.mem_singleton] at e
   subst e
   have := Lib.ownBlock_ne hown hb2 (by decide)
   exact this (by simpa using hk)
  rw [List.length_map] at hw
  exact hw
 ·exact Lib.ownBlock_ne hown hb2 (by decide)
 ·intro k hk
  rcases List.mem_cons.1 hk with rfl | hk
  ·exact .inl (by simp)
  ·have ho : (Value.slice s2.a s2.len s2.cap).ownBlock.toList = o' ∨ (Value.slice s2.a s2.len s2.cap).ownBlock.toList = [] := by
    rcases q1.2 with ⟨e1, _, _, e2⟩ | ⟨g, off, c, e1, e2, _⟩
    ·right; rw [e1]; rfl
    ·left; rw [e1, e2]; rfl
   rcases ho with ho | ho
   ·rw [ho] at hk
    rcases q2 with rfl | ⟨k', r1, r2, rfl⟩
    ·exact .inl (by simp [hk])
    ·simp only [List.mem_singleton] at hk
     subst hk
     exact .inr r1
   ·rw [ho] at hk; cases hk
theorem bld_new (h : Hp S w0 w its) {K : Addr → World → Prop} (hK : ∀ b w', Hp S w0 w' (its ++ [tBld w0.heap.size b []]) → K ⟨b, 0, none⟩ w') : Nw (.cells #[.pointer none, .slice none 0 0] 112) w K := by
 refine hK w.heap.size _ (h.grow (t := tBld w0.heap.size w.heap.size []) (O := [w.heap.size]) (Fr.alloc w _) ⟨none, .slice none 0 0, .inl rfl, h.fr.size, ?_, World.ownsRow_nil _ _ _ _, by simp [Value.ownBlock], rfl⟩ (by simp) rfl)
 exact heap_alloc_new w _
theorem frNil (h : Fr [] w0 w) : Hp [] w0 w [] := ⟨h, fun _ => [], by simp, by simp⟩
theorem String_spec (h : Hp [] w0 w its) (i : Nat) {b : Nat} {l : List Int} (hi : its[i]? = some (tBld w0.heap.size b l)) (hb : Bytes l) {K : ByteArray → World → Prop} (hK : ∀ w', Hp [] w0 w' [] → K (strOf l) w') : c56 (some ⟨b, 0, none⟩) w K := by
 obtain ⟨O, hO⟩ := h.see hi
 obtain ⟨p, v, h1, h2, h3, h4, h5, rfl⟩ := hO
 have hl : Lib.byteCells (strOf l).data.toList = l.map bv := by
  have : Lib.strCells (strOf l) = l.map bv := by rw [bv_strCells, strL_of hb]
  exact this
 have hx : Lib.IsBuilder 112 5 w0.heap.size b (Lib.byteCells (strOf l).data.toList) w := by
  rw [hl]
  have h4 : w.ownsRow w0.heap.size 5 1 v (l.map bv).length (l.map bv) := by rw [List.length_map]; exact h4
  rcases h1 with rfl | rfl
  ·exact .inl ⟨h2, v, h3, h4, h5⟩
  ·exact .inr ⟨h2, v, h3, h4, h5⟩
 refine Calls.mono (Tryz.Builder_String_any w0.heap.size b (strOf l).data.toList w hx h.fr.size) fun e w' ⟨he, hw⟩ => ?_
 subst he
 refine ⟨_, rfl, ?_⟩
 have e : (⟨(strOf l).data.toList.toArray⟩ : ByteArray) = strOf l := by simp
 rw [e]
 refine hK w' (frNil ⟨hw.os.trans h.fr.os, hw.tape.trans h.fr.tape, hw.output.trans h.fr.output, Nat.le_trans h.fr.size hw.size, fun k hk hn => ?_⟩)
 exact (hw.block k hk).trans (h.fr.block k hk hn)
end
abbrev TabW (w : World) : Prop := Lib.TabIs Tryz.prog w "internal/strconv.uint64pow10" .u64 Lib.pow10Tab
theorem tab_fr {w w' : World} (h : TabW w) (hf : Fr [] w w') : TabW w' := by
 unfold TabW Lib.TabIs World.var? at *
 cases hg : Tryz.prog.globalNamed "internal/strconv.uint64pow10" with
 | none => simp [hg] at h
 | some g =>
  simp only [hg, Option.bind_some] at h ⊢
  have hlt : g < w.heap.size := by
   rcases Nat.lt_or_ge g w.heap.size with h' | h'
   ·exact h'
   ·rw [Array.getElem?_eq_none h'] at h; simp at h
  rw [hf.block g hlt (by simp)]
  exact h
theorem strL_append' (a b : ByteArray) : strL (a ++ b) = strL a ++ strL b := by
 unfold strL
 rw [ByteArray.data_append, Array.toList_append, List.map_append]
def dec (n : Int) : ByteArray := ⟨(Lib.itoa n).toArray⟩
def decL (n : Int) : List Int := strL (dec n)
theorem dec_size {n : Int} (h0 : -9223372036854775808 ≤ n) (h1 : n ≤ 9223372036854775807) : (dec n).size ≤ 21 := by
 show (Lib.itoa n).toArray.size ≤ 21
 rw [List.size_toArray]
 unfold Lib.itoa
 split
 ·rw [List.length_cons, Lib.decDigits_length]
  have := Lib.nDigits_le20 n.natAbs (by omega)
  omega
 ·rw [Lib.decDigits_length]
  have := Lib.nDigits_le20 n.toNat (by omega)
  omega
def lineL (x : Ins) : List Int := strL (row x.1).word ++ (if (row x.1).num = true then 32 :: decL x.2 else [])
def headL (r : RT) : List Int := strL r.nm ++ 32 :: (decL r.pa ++ 32 :: (decL r.lo ++ [10]))
def listL (r : RT) : List Int := headL r ++ r.code.flatMap fun x => lineL x ++ [10]
def visM (c : Int) : Bool := decide (33 ≤ c) && decide (c ≤ 126)
def listedM (s : ByteArray) : Bool := (strL s).all visM && decide (s.size ≠ 0) && decide (s.size ≤ 16)
def listM (r : RT) : Bool := listedM r.nm && writtenM r 2000
def listS (r : RT) : ByteArray := if listM r = true then strOf (listL r) else ⟨#[]⟩
theorem word_size (op : Int) : (row op).word.size ≤ 5 := by
 cases hi : isOpM op with
 | false => rw [row_no hi]; decide
 | true =>
  obtain ⟨n, rfl, hn⟩ := op_of hi
  have key : ∀ k : Fin 40, (tab.getD k.val noRw).word.size ≤ 5 := by decide
  unfold row
  rw [if_pos hi]
  exact key ⟨n + 1, by omega⟩
theorem lineL_len {x : Ins} (h0 : -9223372036854775808 ≤ x.2) (h1 : x.2 ≤ 9223372036854775807) : (lineL x).length ≤ 27 := by
 have h2 := word_size x.1
 have h3 := dec_size h0 h1
 unfold lineL decL
 rw [List.length_append, strL_len]
 split
 ·rw [List.length_cons, strL_len]; omega
 ·simp; omega
section
variable {w0 w : World} {its rest : List Thing}
theorem frOfBelow {w w' : World} (h : RowKit.Below w.heap.size w w') : Fr [] w w' := ⟨h.os, h.tape, h.output, h.size, fun k hk _ => h.block k hk⟩
theorem Itoa_spec (h : Hp [] w0 w its) (hT : TabW w0) {n : Int} (h0 : -9223372036854775808 ≤ n) (h1 : n ≤ 9223372036854775807) {K : ByteArray → World → Prop} (hK : ∀ w', Hp [] w0 w' its → K (dec n) w') : c54 n w K := by
 refine c54_of ?_
 unfold f54
 refine Calls.mono (Tryz.internal_strconv_Itoa n h0 h1 w (tab_fr hT h.fr)) fun e w' ⟨he, k, os, hw⟩ => ?_
 subst he hw
 exact ⟨_, rfl, hK _ (h.keep (frOfBelow (Lib.below_grow _ w (Nat.le_refl _) k os)))⟩
theorem Format_spec (h : Hp [] w0 w its) (hT : TabW w0) {n : Int} (h0 : -9223372036854775808 ≤ n) (h1 : n ≤ 9223372036854775807) {K : ByteArray → World → Prop} (hK : ∀ w', Hp [] w0 w' its → K (dec n) w') : c87 n 10 w K := by
 refine c87_of ?_
 unfold f87
 refine Calls.mono (Tryz.internal_strconv_FormatInt_10 n h0 h1 w (tab_fr hT h.fr)) fun e w' ⟨he, k, os, hw⟩ => ?_
 subst he hw
 exact ⟨_, rfl, hK _ (h.keep (frOfBelow (Lib.below_grow _ w (Nat.le_refl _) k os)))⟩
theorem strL_at {s : ByteArray} {k : Nat} (h : k < s.size) : ∃ b : UInt8, s[k]? = some b ∧ (strL s)[k]? = some (b.toNat : Int) := by
 refine ⟨s[k], getElem?_pos s k h, ?_⟩
 unfold strL
 rw [List.getElem?_map, Array.getElem?_toList]
 have : s.data[k]? = some s[k] := by
  rw [Array.getElem?_eq_getElem (by exact h)]; rfl
 rw [this]; rfl
theorem listed_spec {nm : ByteArray} (hn : nm.size ≤ 140737488355328) {K : Bool → World → Prop} (hK : K (listedM nm) w) : c51 nm w K := by
 refine c51_of ?_
 unfold f51
 refine ⟨fun t m w' => ∃ k : Nat, t = k ∧ k ≤ nm.size ∧ m = nm.size - k ∧ w' = w ∧ (strL nm).all visM = ((strL nm).drop k).all visM, ⟨_, 0, rfl, by omega, rfl, rfl, rfl⟩, ?_⟩
 rintro t m w' ⟨k, rfl, hk, rfl, hw, ha⟩
 obtain rfl := hw.symm
 have hl := strL_len nm
 by_cases hend : k = nm.size
 ·refine ifF (by simp; omega) ?_
  rw [List.drop_of_length_le (by omega)] at ha
  have e : cond (!(nm.toList == (⟨#[]⟩ : ByteArray).toList)) (decide ((nm.size : Int) ≤ 16)) false = listedM nm := by
   unfold listedM
   rw [ha, str_beq]
   have : (strL nm = strL ⟨#[]⟩) ↔ nm.size = 0 := by
    rw [show strL (⟨#[]⟩ : ByteArray) = [] from rfl, ← hl]; exact ⟨fun h => by rw [h]; rfl, fun h => List.length_eq_zero_iff.1 h⟩
   by_cases h0 : nm.size = 0
   ·simp [this, h0]
   ·simp [this, h0]; omega
  rw [e]; exact hK
 ·obtain ⟨b, hb, hs⟩ := strL_at (s := nm) (k := k) (by omega)
  refine ifT (by simp; omega) ?_
  rw [drop_cons hs, List.all_cons] at ha
  refine ⟨by omega, b, by rw [Int.toNat_natCast]; exact hb, ?_⟩
  have hno : visM (b.toNat : Int) = false → listedM nm = false := fun h => by unfold listedM; rw [ha, h]; rfl
  by_cases h1 : (b.toNat : Int) < 33
  ·refine ifT (by simpa using h1) ?_
   rw [hno (by unfold visM; simp; omega)] at hK; exact hK
  ·refine ifF (by simpa using h1) ⟨by omega, b, by rw [Int.toNat_natCast]; exact hb, ?_⟩
   by_cases h2 : (b.toNat : Int) > 126
   ·refine ifT (by simpa using h2) ?_
    rw [hno (by unfold visM; simp; omega)] at hK; exact hK
   ·refine ifF (by simpa using h2) ⟨nm.size - (k + 1), by omega, k + 1, ?_, by omega, rfl, rfl, ?_⟩
    ·rw [wr64 (by omega) (by omega)]; omega
    ·rw [ha]
     have : visM (b.toNat : Int) = true := by unfold visM; simp; omega
     rw [this]; rfl
theorem line_spec (h : Hp [] w0 w its) (hT : TabW w0) {x : Ins} (h0 : -9223372036854775808 ≤ x.2) (h1 : x.2 ≤ 9223372036854775807) {K : ByteArray → World → Prop} (hK : ∀ s w', strL s = lineL x → Hp [] w0 w' its → K s w') : c55 x.1 x.2 w K := by
 refine c55_of ?_
 unfold f55
 refine h.nw fun i w1 h => ?_
 refine h.ld0 (k := .i .i64) (x := x.1) its.length (by rw [List.getElem?_concat_length]; rfl) rfl ?_
 refine shape_spec h fun w1 h => ?_
 refine h.nw fun s1 w1 h => ?_
 refine h.st0 _ List.getElem?_concat_length (by simp) rfl fun w1 h => ?_
 rw [set_last] at h
 refine h.st (n := 1) _ List.getElem?_concat_length (by simp) rfl fun w1 h => ?_
 rw [set_last] at h
 refine h.st (n := 2) _ List.getElem?_concat_length (by simp) rfl fun w1 h => ?_
 rw [set_last] at h
 refine h.st (n := 3) _ List.getElem?_concat_length (by simp) rfl fun w1 h => ?_
 rw [set_last] at h
 refine h.st (n := 4) _ List.getElem?_concat_length (by simp) rfl fun w1 h => ?_
 rw [set_last] at h
 have h : Hp [] w0 w1 (its ++ [tBlk i 23 [.int .i64 x.1, .int .i64 x.2]] ++ [tBlk s1 74 [.string (row x.1).word, .bool (row x.1).num, .int .i64 (takesOf (row x.1)), .int .i64 (row x.1).pt, .int .i64 (byOf (row x.1))]]) := h
 have hI : ∀ {t : Thing}, ((its ++ [tBlk i 23 [.int .i64 x.1, .int .i64 x.2]] ++ [t])[its.length]?).map Thing.holds = some (tBlk i 23 [.int .i64 x.1, .int .i64 x.2]).holds := fun {t} => by rw [mid1]; rfl
 have hLs : ∀ {A : List Thing} {b : Nat} {e : TypeId} {c : List Value}, ((A ++ [tBlk b e c])[A.length]?).map Thing.holds = some (tBlk b e c).holds := fun {A b e c} => by rw [List.getElem?_concat_length]; rfl
 have hw5 := word_size x.1
 have hd := dec_size h0 h1
 refine h.ld (n := 1) (k := .b) (x := (row x.1).num) _ hLs rfl ?_
 by_cases hn : (row x.1).num = true
 ·refine ifT hn ?_
  refine h.dr fun w1 h => ?_
  refine h.ld0 (k := .s) (x := (row x.1).word) _ hLs rfl ?_
  refine ⟨?_, ?_⟩
  ·have : (⟨#[32]⟩ : ByteArray).size = 1 := rfl
   omega
  refine h.ld (n := 1) (k := .i .i64) (x := x.2) _ hI rfl ?_
  refine Format_spec h hT h0 h1 fun w2 h => ?_
  refine ⟨h.cel0 _ hLs rfl, ?_, hK _ w2 ?_ h.front.front⟩
  ·have : (⟨#[32]⟩ : ByteArray).size = 1 := rfl
   rw [ByteArray.size_append]
   omega
  ·unfold lineL
   rw [if_pos hn, strL_append', strL_append']
   simp [decL]; rfl
 ·refine ifF hn ?_
  refine h.ld0 (k := .s) (x := (row x.1).word) _ hLs rfl ?_
  exact hK _ w1 (by unfold lineL; rw [if_neg hn, List.append_nil]) h.front.front
end
theorem writtenM_no {r : RT} {left : Int} (h : writtenM r left = true) : codeOk r.code = true ∧ (1 ≤ r.nm.size ∧ r.nm.size ≤ 16) ∧ (0 ≤ r.pa ∧ r.pa ≤ 4 ∧ r.pa ≤ r.lo ∧ r.lo ≤ 32) ∧ 0 ≤ left - r.code.length := by
 obtain ⟨h1, h2⟩ := written_iff.1 h
 obtain ⟨a, b, c⟩ := rtOk_iff.1 h1
 exact ⟨a, b, c, h2⟩
theorem rdRo {α : Type} {s : Sl} {n : Nat} {f : α → List Value} {l : List α} : Hp.Reads (tRd s n f l).ro s n f l := ⟨fun {w O} h => ⟨O, h⟩⟩
section
variable {w0 w : World} {its rest : List Thing}
theorem List_spec {nm : ByteArray} {pa lo : Int} {sl : Sl} {code : List Ins} (hr : ∃ o, SlR w sl 2 insv code o) (hok : RT.Ok ⟨nm, pa, lo, code⟩) (hnm : nm.size ≤ 140737488355328) (hT : TabW w) {K : ByteArray → World → Prop}
  (hK : ∀ w', Hp [] w w' [] → K (listS ⟨nm, pa, lo, code⟩) w') : c25 nm pa lo sl w K := by
 obtain ⟨o, hr⟩ := hr
 have hcl := hok.len
 refine c25_of ?_
 unfold f25
 have h : Hp [] w w [(tRd sl 2 insv code).ro] := (Hp.init w).addRo (O := o) hr (by simp)
 have hlen := h.lenU (u := (tRd sl 2 insv code).ro) 0 rfl (rdRo (n := 2) (f := insv))
 refine h.nw fun rb w1 h => ?_
 refine h.nw fun lb w1 h => ?_
 refine h.st0 2 rfl (by simp) rfl fun w1 h => ?_
 have hno : listM ⟨nm, pa, lo, code⟩ = false → ∀ w', Hp [] w w' [] → K ⟨#[]⟩ w' := fun e w' h => by
  have := hK w' h
  unfold listS at this
  rw [e] at this
  exact this
 refine ⟨fun w' => listM ⟨nm, pa, lo, code⟩ = true ∧ Hp [] w w' [(tRd sl 2 insv code).ro, tBlk rb 30 [.string nm, .int .i64 pa, .int .i64 lo, .slice sl.a sl.len sl.cap]], ?_, ?_⟩
 ·refine h.ld0 (k := .s) (x := nm) 1 rfl rfl ?_
  refine listed_spec hnm ?_
  by_cases h1 : listedM nm = true
  ·refine ifF (by simp [h1]) ?_
   refine h.ld0 (k := .s) (x := nm) 1 rfl rfl ?_
   refine h.ld (n := 1) (k := .i .i64) (x := pa) 1 rfl rfl ?_
   refine h.ld (n := 2) (k := .i .i64) (x := lo) 1 rfl rfl ?_
   refine h.ld (n := 3) (k := .sl) (x := sl) 1 rfl rfl ?_
   refine written_spec h 2 0 (u := (tRd sl 2 insv code).ro) (left := 2000) (by decide) rfl rfl rdRo hcl (by decide) (by decide) fun w2 h => ?_
   by_cases h2 : writtenM ⟨nm, pa, lo, code⟩ 2000 = true
   ·refine ifF (by simp [h2]) ⟨by unfold listM; rw [h1, h2]; rfl, ?_⟩
    have h : Hp [] w w2 ([(tRd sl 2 insv code).ro, tBlk rb 30 [.string nm, .int .i64 pa, .int .i64 lo, .slice sl.a sl.len sl.cap]] ++ [tBlk lb 3 [.int .i64 (2000 - code.length)]]) := h
    exact h.front
   ·refine ifT (by simp [h2]) (hno (by unfold listM; simp [h2]) w2 (frNil h.fr))
  ·exact ifT (by simp [h1]) (hno (by unfold listM; simp [h1]) w1 (frNil h.fr))
 clear h
 rintro w1 ⟨hM, h⟩
 have hyes : ∀ w', Hp [] w w' [] → K (strOf (listL ⟨nm, pa, lo, code⟩)) w' := fun w' h => by
  have := hK w' h
  unfold listS at this
  rw [if_pos hM] at this
  exact this
 have hW : writtenM ⟨nm, pa, lo, code⟩ 2000 = true := by
  unfold listM at hM
  rw [Bool.and_eq_true] at hM
  exact hM.2
 obtain ⟨k1, ⟨k2, k3⟩, ⟨k4, k5, k6, k7⟩, k8⟩ := writtenM_no hW
 dsimp only at k1 k2 k3 k4 k5 k6 k7 k8
 have z1 : (⟨#[32]⟩ : ByteArray).size = 1 := rfl
 have z2 : (⟨#[10]⟩ : ByteArray).size = 1 := rfl
 have d1 := dec_size (n := pa) (by omega) (by omega)
 have d2 := dec_size (n := lo) (by omega) (by omega)
 refine bld_new h fun b w1 h => ?_
 have h : Hp [] w w1 [(tRd sl 2 insv code).ro, tBlk rb 30 [.string nm, .int .i64 pa, .int .i64 lo, .slice sl.a sl.len sl.cap], tBld w.heap.size b []] := h
 refine h.dr fun w1 h => ?_
 refine h.ld0 (k := .s) (x := nm) 1 rfl rfl ⟨by omega, ?_⟩
 refine h.ld (n := 1) (k := .i .i64) (x := pa) 1 rfl rfl ?_
 refine h.ld (n := 2) (k := .i .i64) (x := lo) 1 rfl rfl ?_
 refine Itoa_spec h hT (by omega) (by omega) fun w1 h => ?_
 refine ⟨h.cel (n := 2) 1 rfl rfl, h.cel0 1 rfl rfl, by simp only [ByteArray.size_append]; omega, by simp only [ByteArray.size_append]; omega, ?_⟩
 refine Itoa_spec h hT (by omega) (by omega) fun w1 h => ?_
 refine ⟨h.cel0 1 rfl rfl, by simp only [ByteArray.size_append]; omega, by simp only [ByteArray.size_append]; omega, ?_⟩
 refine WriteString_spec h 2 rfl _ (by simp only [ByteArray.size_append, List.length_nil]; omega) fun w1 h => ?_
 have eh : ([] : List Int) ++ strL (nm ++ ⟨#[32]⟩ ++ dec pa ++ ⟨#[32]⟩ ++ dec lo ++ ⟨#[10]⟩) = headL ⟨nm, pa, lo, code⟩ := by
  simp only [strL_append', List.nil_append]
  show _ = strL nm ++ 32 :: (decL pa ++ 32 :: (decL lo ++ [10]))
  simp [decL]; rfl
 rw [eh] at h
 have h : Hp [] w w1 [(tRd sl 2 insv code).ro, tBlk rb 30 [.string nm, .int .i64 pa, .int .i64 lo, .slice sl.a sl.len sl.cap], tBld w.heap.size b (headL ⟨nm, pa, lo, code⟩)] := h
 have hhl : (headL ⟨nm, pa, lo, code⟩).length ≤ 100 := by
  rw [← eh]
  simp only [List.nil_append, strL_len, ByteArray.size_append]; omega
 refine h.ld (n := 3) (k := .sl) (x := sl) 1 rfl rfl ?_
 refine ⟨fun t m w' => ∃ k : Nat, t = k ∧ k ≤ code.length ∧ m = code.length - k ∧ Hp [] w w' [(tRd sl 2 insv code).ro, tBlk rb 30 [.string nm, .int .i64 pa, .int .i64 lo, .slice sl.a sl.len sl.cap], tBld w.heap.size b (headL ⟨nm, pa, lo, code⟩ ++ (code.take k).flatMap fun x => lineL x ++ [10])], ⟨_, 0, rfl, by omega, rfl, by simpa using h⟩, ?_⟩
 clear h
 rintro t m w2 ⟨k, rfl, hk, rfl, h⟩
 by_cases hend : k = code.length
 ·refine ifF (by simp; omega) ?_
  rw [List.take_of_length_le (by omega)] at h
  refine String_spec h 2 rfl ?_ fun w3 h => hyes w3 h
  have hB : ∀ (x : Ins), Bytes (lineL x) := fun x => by
   unfold lineL
   intro y hy
   rcases List.mem_append.1 hy with hy | hy
   ·exact strL_bytes _ y hy
   ·split at hy
    ·rcases List.mem_cons.1 hy with rfl | hy
     ·decide
     ·exact strL_bytes _ y hy
    ·cases hy
  intro y hy
  rcases List.mem_append.1 hy with hy | hy
  ·rw [← eh] at hy
   exact strL_bytes _ y (by simpa using hy)
  ·obtain ⟨x, _, hx⟩ := List.mem_flatMap.1 hy
   rcases List.mem_append.1 hx with hx | hx
   ·exact hB x y hx
   ·simp only [List.mem_singleton] at hx
    subst hx; decide
 ·obtain ⟨x, hx⟩ : ∃ x, code[k]? = some x := ⟨code[k]'(by omega), List.getElem?_eq_getElem (by omega)⟩
  have hxm := List.mem_of_getElem? hx
  have hrg := hok.rng x hxm
  refine ifT (by simp; omega) ?_
  obtain ⟨O, hO⟩ := h.see (i := 0) rfl
  refine SlR.ix insv_len hO (by omega) (x := x) (by rw [Int.toNat_natCast]; exact hx) fun ad hc => ?_
  refine ldR0 (k := .i .i64) (x := x.1) (hc 0 (by omega)) rfl ?_
  refine ldR (k := .i .i64) (x := x.2) (hc 1 (by omega)) rfl ?_
  refine ins_copy h fun ib w3 h => ?_
  refine h.ld0 (k := .i .i64) (x := x.1) 3 rfl rfl ?_
  refine h.ld (n := 1) (k := .i .i64) (x := x.2) 3 rfl rfl ?_
  refine line_spec h hT hrg.1 hrg.2 fun s w3 hs h => ?_
  have hll := lineL_len hrg.1 hrg.2
  rw [← hs, strL_len] at hll
  refine ⟨by omega, ?_⟩
  have hfl : ((code.take k).flatMap fun x => lineL x ++ [10]).length ≤ 28 * (code.take k).length := flat_len fun y hy => by
   have := hok.rng y (List.mem_of_mem_take hy)
   have := lineL_len this.1 this.2
   rw [List.length_append]; simp; omega
  rw [List.length_take] at hfl
  refine WriteString_spec h 2 rfl _ (by rw [List.length_append, ByteArray.size_append]; omega) fun w4 h => ?_
  refine ⟨code.length - (k + 1), by omega, k + 1, by rw [wr64 (by omega) (by omega)]; omega, by omega, rfl, ?_⟩
  have h : Hp [] w w4 ([(tRd sl 2 insv code).ro, tBlk rb 30 [.string nm, .int .i64 pa, .int .i64 lo, .slice sl.a sl.len sl.cap], tBld w.heap.size b (headL ⟨nm, pa, lo, code⟩ ++ (code.take k).flatMap (fun x => lineL x ++ [10]) ++ strL (s ++ ⟨#[10]⟩))] ++ [tBlk ib 23 [.int .i64 x.1, .int .i64 x.2]]) := h
  have h := h.front
  have e : headL ⟨nm, pa, lo, code⟩ ++ (code.take k).flatMap (fun x => lineL x ++ [10]) ++ strL (s ++ ⟨#[10]⟩) = headL ⟨nm, pa, lo, code⟩ ++ (code.take (k + 1)).flatMap (fun x => lineL x ++ [10]) := by
   rw [List.take_add_one, hx, List.flatMap_append, strL_append', hs, List.append_assoc]
   simp; rfl
  rw [e] at h
  exact h
end
structure Glob (w : World) : Prop where
 tab : TabW w
 m : ∃ m : Int, w.cell? ⟨0, 0, none⟩ = some (.int .i64 m)
 e2 : ∃ ev, w.cell? ⟨2, 0, none⟩ = some ev ∧ (ev = .nilIface ∨ ∃ te pe, ev = .iface te pe)
 e3 : ∃ ev, w.cell? ⟨3, 0, none⟩ = some ev ∧ (ev = .nilIface ∨ ∃ te pe, ev = .iface te pe)
theorem cell_fr {w w' : World} (hf : Fr [] w w') {a : Addr} {v : Value} (h : w.cell? a = some v) : w'.cell? a = some v := by
 have hb := World.block_lt_of_cell? w a h
 rw [← h]
 exact World.cell?_of_block (hf.block _ hb (by simp))
theorem Glob.fr {w w' : World} (h : Glob w) (hf : Fr [] w w') : Glob w' := by
 obtain ⟨m, hm⟩ := h.m
 obtain ⟨e, he, he'⟩ := h.e2
 obtain ⟨f, hf', hf''⟩ := h.e3
 exact ⟨tab_fr h.tab hf, ⟨m, cell_fr hf hm⟩, ⟨e, cell_fr hf he, he'⟩, ⟨f, cell_fr hf hf', hf''⟩⟩
def cutB (s sep : ByteArray) : ByteArray × ByteArray × Bool := (⟨(Lib.cut s.data.toList sep.data.toList).1.toArray⟩, ⟨(Lib.cut s.data.toList sep.data.toList).2.1.toArray⟩, (Lib.cut s.data.toList sep.data.toList).2.2)
def decO (s : ByteArray) : Option Int := match Lib.parseIntB 64 s.data.toList with
 | .ok v => if dec v = s then some v else none
 | _ => none
def nl : ByteArray := ⟨#[10]⟩
def sp : ByteArray := ⟨#[32]⟩
def splitS (s : ByteArray) : List ByteArray := Lib.splitB sp 0 (Lib.countB s sp) s
theorem cut_found {s sep : ByteArray} (h : (cutB s sep).2.2 = true) : (cutB s sep).1.size + sep.size ≤ s.size := by
 unfold cutB Lib.cut at h ⊢
 split at h
 ·rename_i h0
  rw [if_pos h0]
  have hi := Lib.indexB_cases s sep
  have e : Lib.indexB s sep = Lib.index s.data.toList sep.data.toList := rfl
  rw [e] at hi
  rcases hi with hi | ⟨i, hi, hl⟩
  ·omega
  ·rw [hi]
   show (List.toArray _).size + sep.size ≤ s.size
   have : s.data.toList.length = s.size := by rw [Array.length_toList]; rfl
   simp only [List.size_toArray, List.length_take, Int.toNat_natCast]
   omega
 ·cases h
theorem cut_size (s sep : ByteArray) : (cutB s sep).1.size ≤ s.size ∧ (cutB s sep).2.1.size ≤ s.size := by
 unfold cutB Lib.cut
 split
 ·refine ⟨?_, ?_⟩
  ·show (List.toArray _).size ≤ s.data.size
   simp; omega
  ·show (List.toArray _).size ≤ s.data.size
   simp
 ·refine ⟨?_, ?_⟩
  ·show (List.toArray _).size ≤ s.data.size
   simp
  ·show (List.toArray _).size ≤ s.data.size
   simp
theorem parse_range {l : List UInt8} {v : Int} (h : Lib.parseIntB 64 l = .ok v) : -9223372036854775808 ≤ v ∧ v ≤ 9223372036854775807 := by
 cases l with
 | nil => cases h
 | cons c r =>
  simp only [Lib.parseIntB] at h
  split at h
  ·cases h
  ·cases h
  ·rename_i u hu
   split at h
   ·cases h
   ·rename_i h1
    split at h
    ·cases h
    ·rename_i h2
     have p : (2 : Nat) ^ (64 - 1) = 9223372036854775808 := by decide
     rw [p] at h1 h2
     simp only [Lib.NumEnd.ok.injEq] at h
     split at h
     ·rename_i h3
      have : ¬ 9223372036854775808 < u := fun k => h2 ⟨h3, k⟩
      omega
     ·rename_i h3
      have : ¬ 9223372036854775808 ≤ u := fun k => h1 ⟨h3, k⟩
      omega
section
variable {w0 w : World} {its rest : List Thing}
theorem frTrans {w w' : World} (h : Hp [] w0 w its) (hb : RowKit.Below w.heap.size w w') : Hp [] w0 w' its := h.keep (frOfBelow hb)
theorem Cut_spec (h : Hp [] w0 w its) (hG : Glob w0) {s sep : ByteArray} (hs : s.size < 4294967281) {K : ByteArray → ByteArray → Bool → World → Prop} (hK : ∀ w', Hp [] w0 w' its → K (cutB s sep).1 (cutB s sep).2.1 (cutB s sep).2.2 w') : c60 s sep w K := by
 obtain ⟨m, hm⟩ := (hG.fr h.fr).m
 refine Calls.mono (Tryz.strings_Cut s sep m w hs hm) fun e w' ⟨he, n, hw⟩ => ?_
 subst he hw
 exact ⟨_, rfl, hK _ (frTrans h ⟨rfl, rfl, rfl, Nat.le_refl _, fun _ _ => rfl⟩)⟩
abbrev sv (x : ByteArray) : List Value := [.string x]
theorem Split_spec (h : Hp [] w0 w its) (hG : Glob w0) {s : ByteArray} (hs : s.size < 4294967281) {K : Sl → World → Prop} (hK : ∀ sl w', Hp [] w0 w' (its ++ [tSl sl 9 1 sv (splitS s)]) → K sl w') : c89 s ⟨#[32]⟩ w K := by
 obtain ⟨m, hm⟩ := (hG.fr h.fr).m
 refine Calls.mono (Tryz.strings_Split s ⟨#[32]⟩ m w hs hm (by decide)) fun e w' ⟨he, hw⟩ => ?_
 subst he hw
 refine ⟨_, rfl, ?_⟩
 have h := nw_now h ((splitS s).flatMap sv) 9
 have h := h.blkSl (i := its.length) (m := Lib.countB s sp + 1) (l := splitS s) (f := sv) (n := 1) List.getElem?_concat_length rfl (Lib.splitB_all sp (by decide) 0 _ s rfl) (fun x => rfl)
 rw [set_last] at h
 have e : (splitS s).flatMap sv = (splitS s).map Value.string := by rw [List.map_eq_flatMap]
 rw [e] at h
 exact hK _ _ h
theorem decimal_spec (h : Hp [] w0 w its) (hG : Glob w0) {s : ByteArray} (hs : s.size < 4294967281) {K : Int → Bool → World → Prop} (hok : ∀ v, decO s = some v → -9223372036854775808 ≤ v → v ≤ 9223372036854775807 → ∀ w', Hp [] w0 w' its → K v true w') (hno : decO s = none → ∀ x w', Hp [] w0 w' its → K x false w') : c90 s w K := by
 refine c90_of ?_
 unfold f90
 unfold decO at hok hno
 have hG' := hG.fr h.fr
 cases hp : Lib.parseIntB 64 s.data.toList
 case ok v =>
  rw [hp] at hok hno
  dsimp only at hok hno
  obtain ⟨v0, v1⟩ := parse_range hp
  refine Calls.mono (Tryz.strconv_ParseInt_10_at64_ok s (by omega) v hp w) fun e w' ⟨he, hw⟩ => ?_
  subst he
  have h : Hp [] w0 w' its := by
   rcases hw with rfl | ⟨t, rfl⟩
   ·exact h
   ·exact frTrans h (Lib.bytesWorld_below w 5 t)
  refine ⟨_, rfl, ?_⟩
  refine ⟨true, fun _ _ => by kernel_rfl, ?_⟩
  refine ifT rfl ?_
  refine Format_spec h hG.tab v0 v1 fun w2 h => ?_
  rw [str_beq]
  by_cases hd : dec v = s
  ·rw [if_pos hd] at hok
   rw [hd, decide_eq_true rfl]
   exact hok v rfl v0 v1 w2 h
  ·rw [if_neg hd] at hno
   rw [decide_eq_false fun k => hd (strL_inj k)]
   exact hno rfl v w2 h
 case range =>
  rw [hp] at hno
  obtain ⟨ev, h1, h2⟩ := hG'.e3
  refine Calls.mono (Tryz.strconv_ParseInt_10_at64_range s (by omega) hp ev w h1 h2) fun e w' ⟨N, he, _, _, hw⟩ => ?_
  subst he
  refine ⟨_, rfl, ?_⟩
  refine ⟨false, fun _ _ => by kernel_rfl, ?_⟩
  exact ifF (by decide) (hno rfl _ w' (frTrans h hw))
 rw [hp] at hno
 obtain ⟨ev, h1, h2⟩ := hG'.e2
 refine Calls.mono (Tryz.strconv_ParseInt_10_at64_syntax s (by omega) hp ev w h1 h2) fun e w' ⟨N, he, _, _, hw⟩ => ?_
 subst he
 refine ⟨_, rfl, ?_⟩
 refine ⟨false, fun _ _ => by kernel_rfl, ?_⟩
 exact ifF (by decide) (hno rfl _ w' (frTrans h hw))
end
def insR (t : ByteArray) : Option Ins :=
 if numOf (cutB t sp).1 = 0 ∨ (row (numOf (cutB t sp).1)).num ≠ (cutB t sp).2.2 then none
 else if (cutB t sp).2.2 = true then (decO (cutB t sp).2.1).map fun a => (numOf (cutB t sp).1, a) else some (numOf (cutB t sp).1, 0)
def headR (t : ByteArray) : Option (ByteArray × Int × Int) := match splitS t with
 | [a, b, c] => if listedM a = true then (match decO b, decO c with
  | some p, some q => if 0 ≤ p ∧ p ≤ 4 ∧ p ≤ q ∧ q ≤ 32 then some (a, p, q) else none
  | _, _ => none) else none
 | _ => none
theorem split_size (sep : ByteArray) : ∀ (k : Nat) (s x : ByteArray), x ∈ Lib.splitB sep 0 k s → x.size ≤ s.size
 | 0, s, x, h => by
  rw [Lib.splitB_zero] at h
  simp only [List.mem_singleton] at h
  rw [h]; exact Nat.le_refl _
 | k + 1, s, x, h => by
  unfold Lib.splitB at h
  split at h
  ·simp only [List.mem_singleton] at h
   rw [h]; exact Nat.le_refl _
  ·rcases List.mem_cons.1 h with rfl | h
   ·rw [ByteArray.size_extract]; omega
   ·have := split_size sep k _ x h
    rw [ByteArray.size_extract] at this
    omega
section
variable {w0 w : World} {its rest : List Thing}
theorem decimal_u (h : Hp [] w0 w its) (hG : Glob w0) {s : ByteArray} (hs : s.size < 4294967281) {K : Int → Bool → World → Prop} (hK : ∀ v ok w', (ok = true → decO s = some v ∧ -9223372036854775808 ≤ v ∧ v ≤ 9223372036854775807) → (ok = false → decO s = none) → Hp [] w0 w' its → K v ok w') : c90 s w K :=
 decimal_spec h hG hs (fun v hv v0 v1 w' h => hK v true w' (fun _ => ⟨hv, v0, v1⟩) (fun e => by cases e) h) (fun hv x w' h => hK x false w' (fun e => by cases e) (fun _ => hv) h)
theorem readIns_spec (h : Hp [] w0 w its) (hG : Glob w0) {t : ByteArray} (ht : t.size < 4294967281) {K : Int → Int → Bool → World → Prop} (hok : ∀ x, insR t = some x → -9223372036854775808 ≤ x.2 → x.2 ≤ 9223372036854775807 → ∀ w', Hp [] w0 w' its → K x.1 x.2 true w') (hno : insR t = none → ∀ op a w', Hp [] w0 w' its → K op a false w') : c62 t w K := by
 refine c62_of ?_
 unfold f62
 refine h.nw fun A w1 h => ?_
 have hLs : ∀ {A : List Thing} {b : Nat} {e : TypeId} {c : List Value}, ((A ++ [tBlk b e c])[A.length]?).map Thing.holds = some (tBlk b e c).holds := fun {A b e c} => by rw [List.getElem?_concat_length]; rfl
 refine Cut_spec h hG ht fun w1 h => ?_
 refine Number_spec h fun w1 h => ?_
 have hsz := (cut_size t sp).2
 unfold insR at hok hno
 have esp : (⟨#[32]⟩ : ByteArray) = sp := rfl
 rw [esp]
 generalize hc1 : cutB t sp = c at *
 obtain ⟨word, number, more⟩ := c
 dsimp only at hok hno hsz ⊢
 generalize numOf word = op at *
 refine ⟨fun b w' => b = decide (op = 0 ∨ (row op).num ≠ more) ∧ Hp [] w0 w' (its ++ [tBlk A 23 [.int .i64 0, .int .i64 0]]), ?_, ?_⟩
 ·by_cases h0 : op = 0
  ·exact ifT (by simp [h0]) ⟨by simp [h0], h⟩
  ·refine ifF (by simpa using h0) (shape_spec h fun w1 h => ⟨?_, h⟩)
   cases hn : (row op).num <;> cases more <;> simp [h0]
 clear h
 rintro b w1 ⟨rfl, h⟩
 by_cases hb : op = 0 ∨ (row op).num ≠ more
 ·rw [if_pos hb] at hno
  refine ifT (by simpa using hb) ?_
  refine h.st0 _ List.getElem?_concat_length (by simp) rfl fun w1 h => ?_
  rw [set_last] at h
  refine h.st (n := 1) _ List.getElem?_concat_length (by simp) rfl fun w1 h => ?_
  rw [set_last] at h
  refine h.ld0 (k := .i .i64) (x := 0) _ hLs rfl ?_
  refine h.ld (n := 1) (k := .i .i64) (x := 0) _ hLs rfl ?_
  exact hno rfl _ _ w1 h.front
 ·rw [if_neg hb] at hno hok
  refine ifF (by simpa using hb) ?_
  cases more with
  | false =>
   refine ifT rfl ?_
   refine h.st0 _ List.getElem?_concat_length (by simp) rfl fun w1 h => ?_
   rw [set_last] at h
   refine h.st (n := 1) _ List.getElem?_concat_length (by simp) rfl fun w1 h => ?_
   rw [set_last] at h
   refine h.ld0 (k := .i .i64) (x := op) _ hLs rfl ?_
   refine h.ld (n := 1) (k := .i .i64) (x := 0) _ hLs rfl ?_
   exact hok (op, 0) rfl (by show (-9223372036854775808 : Int) ≤ 0; decide) (by show (0 : Int) ≤ 9223372036854775807; decide) w1 h.front
  | true =>
   refine ifF (by decide) ?_
   have fin : ∀ a ok w', Hp [] w0 w' (its ++ [tBlk A 23 [.int .i64 0, .int .i64 0]]) → (∀ w', Hp [] w0 w' its → K op a ok w') → St ⟨A, 0, none⟩ (.int .i64 op) w' fun w => St ((⟨A, 0, none⟩ : Addr).add 1) (.int .i64 a) w fun w => Ld (.i .i64) w ⟨A, 0, none⟩ fun r1 => Ld (.i .i64) w ((⟨A, 0, none⟩ : Addr).add 1) fun r2 => K r1 r2 ok w := by
    intro a ok w' h hk
    refine h.st0 _ List.getElem?_concat_length (by simp) rfl fun w1 h => ?_
    rw [set_last] at h
    refine h.st (n := 1) _ List.getElem?_concat_length (by simp) rfl fun w1 h => ?_
    rw [set_last] at h
    refine h.ld0 (k := .i .i64) (x := op) _ hLs rfl ?_
    refine h.ld (n := 1) (k := .i .i64) (x := a) _ hLs rfl ?_
    exact hk w1 h.front
   refine decimal_spec h hG (by omega) (fun v hv v0 v1 w2 h => fin v true w2 h (hok (op, v) ?_ v0 v1)) (fun hv x w2 h => fin x false w2 h (hno ?_ op x))
   ·rw [if_pos rfl, hv]; rfl
   ·rw [if_pos rfl, hv]; rfl
theorem header_spec (h : Hp [] w0 w its) (hG : Glob w0) {t : ByteArray} (ht : t.size < 4294967281) {K : ByteArray → Int → Int → Sl → Bool → World → Prop} (hok : ∀ nm pa lo, headR t = some (nm, pa, lo) → ∀ w', Hp [] w0 w' its → K nm pa lo ⟨none, 0, 0⟩ true w') (hno : headR t = none → ∀ w', Hp [] w0 w' its → K ⟨#[]⟩ 0 0 ⟨none, 0, 0⟩ false w') : c61 t w K := by
 refine c61_of ?_
 unfold f61
 refine h.nw fun A w1 h => ?_
 refine Split_spec h hG ht fun sl w1 h => ?_
 have hlen := h.len (s := sl) (e := 9) (n := 1) (f := sv) (l := splitS t) (its ++ [tBlk A 30 [.string (⟨#[]⟩ : ByteArray), .int .i64 0, .int .i64 0, .slice none 0 0]]).length (by rw [List.getElem?_concat_length]; rfl)
 have hel : ∀ {w' : World} {i : Nat} {x : ByteArray} {K : ByteArray → Prop}, Hp [] w0 w' (its ++ [tBlk A 30 [.string (⟨#[]⟩ : ByteArray), .int .i64 0, .int .i64 0, .slice none 0 0]] ++ [tSl sl 9 1 sv (splitS t)]) → (splitS t)[i]? = some x → K x → Ix sl.a sl.len (i : Int) 1 fun a => Ld .s w' a fun x => K x := by
  intro w' i x K h hx hK
  refine h.ixr (its ++ [tBlk A 30 [.string (⟨#[]⟩ : ByteArray), .int .i64 0, .int .i64 0, .slice none 0 0]]).length (s := sl) (l := splitS t) (f := sv) (n := 1) (e := 9) (by rw [List.getElem?_concat_length]; rfl) (by omega) (y := x) (by rw [Int.toNat_natCast]; exact hx) (fun _ => rfl) fun ad hc => ?_
  exact ldR0 (k := .s) (x := x) (hc 0 (by omega)) rfl hK
 have fail : ∀ w', Hp [] w0 w' (its ++ [tBlk A 30 [.string (⟨#[]⟩ : ByteArray), .int .i64 0, .int .i64 0, .slice none 0 0]] ++ [tSl sl 9 1 sv (splitS t)]) → headR t = none → (St ⟨A, 0, none⟩ (.string (⟨#[]⟩ : ByteArray)) w' fun (w : World) => St ((⟨A, 0, none⟩ : Addr).add 1) (.int .i64 0) w fun (w : World) => St ((⟨A, 0, none⟩ : Addr).add 2) (.int .i64 0) w fun (w : World) => St ((⟨A, 0, none⟩ : Addr).add 3) (.slice none 0 0) w fun (w : World) =>
   Ld .s w ⟨A, 0, none⟩ fun r_Name => Ld (.i .i64) w ((⟨A, 0, none⟩ : Addr).add 1) fun r_Params => Ld (.i .i64) w ((⟨A, 0, none⟩ : Addr).add 2) fun r_Locals => Ld .sl w ((⟨A, 0, none⟩ : Addr).add 3) fun r_Code => K r_Name r_Params r_Locals r_Code false w) := by
  intro w' h hn
  refine h.st0 its.length mid1 (by simp) rfl fun w1 h => ?_
  rw [List.set_append_left _ _ (by simp), set_last] at h
  refine h.st (n := 1) its.length mid1 (by simp) rfl fun w1 h => ?_
  rw [List.set_append_left _ _ (by simp), set_last] at h
  refine h.st (n := 2) its.length mid1 (by simp) rfl fun w1 h => ?_
  rw [List.set_append_left _ _ (by simp), set_last] at h
  refine h.st (n := 3) its.length mid1 (by simp) rfl fun w1 h => ?_
  rw [List.set_append_left _ _ (by simp), set_last] at h
  refine h.ld0 (k := .s) (x := (⟨#[]⟩ : ByteArray)) its.length (by rw [mid1]; rfl) rfl ?_
  refine h.ld (n := 1) (k := .i .i64) (x := 0) its.length (by rw [mid1]; rfl) rfl ?_
  refine h.ld (n := 2) (k := .i .i64) (x := 0) its.length (by rw [mid1]; rfl) rfl ?_
  refine h.ld (n := 3) (k := .sl) (x := ⟨none, 0, 0⟩) its.length (by rw [mid1]; rfl) rfl ?_
  exact hno hn w1 h.front.front
 have hps : ∀ x ∈ splitS t, x.size ≤ t.size := fun x hx => split_size sp _ t x hx
 refine ⟨fun b w' => Hp [] w0 w' (its ++ [tBlk A 30 [.string (⟨#[]⟩ : ByteArray), .int .i64 0, .int .i64 0, .slice none 0 0]] ++ [tSl sl 9 1 sv (splitS t)]) ∧ (b = true → headR t = none) ∧ (b = false → ∃ x y z, splitS t = [x, y, z] ∧ listedM x = true), ?_, ?_⟩
 ·by_cases h3 : sl.len = 3
  ·obtain ⟨x, y, z, hsp⟩ : ∃ x y z, splitS t = [x, y, z] := by
    have hl3 : (splitS t).length = 3 := by omega
    generalize splitS t = ls at hl3
    match ls, hl3 with
    | [x, y, z], _ => exact ⟨x, y, z, rfl⟩
   refine ifF (by simp [h3]) ?_
   refine hel (i := 0) (x := x) h (by rw [hsp]; rfl) ?_
   refine listed_spec (by have := hps x (by rw [hsp]; simp); omega) ⟨h, fun hb => ?_, fun hb => ⟨x, y, z, hsp, by simpa using hb⟩⟩
   unfold headR
   rw [hsp]
   dsimp only
   rw [if_neg (by simpa using hb)]
  ·refine ifT (by simp; omega) ⟨h, fun _ => ?_, fun hb => by cases hb⟩
   unfold headR
   split
   ·rename_i hsp
    rw [hsp] at hlen
    simp at hlen
    omega
   ·rfl
 clear h
 rintro b w1 ⟨h, hb1, hb2⟩
 cases b with
 | true => exact ifT rfl (fail w1 h (hb1 rfl))
 | false =>
  refine ifF (by decide) ?_
  obtain ⟨x, y, z, hsp, hlx⟩ := hb2 rfl
  have sy := hps y (by rw [hsp]; simp)
  have sz := hps z (by rw [hsp]; simp)
  have hh : headR t = (match decO y, decO z with
   | some p, some q => if 0 ≤ p ∧ p ≤ 4 ∧ p ≤ q ∧ q ≤ 32 then some (x, p, q) else none
   | _, _ => none) := by
   unfold headR
   rw [hsp]
   dsimp only
   rw [if_pos hlx]
  refine hel (i := 1) (x := y) h (by rw [hsp]; rfl) ?_
  refine decimal_u h hG (by omega) fun p one w2 g1 g2 h => ?_
  refine hel (i := 2) (x := z) h (by rw [hsp]; rfl) ?_
  refine decimal_u h hG (by omega) fun q tw w3 k1 k2 h => ?_
  by_cases hg : one = true ∧ tw = true ∧ 0 ≤ p ∧ p ≤ 4 ∧ p ≤ q ∧ q ≤ 32
  ·obtain ⟨rfl, rfl, hr⟩ := hg
   refine ifF (by simp; omega) ?_
   refine hel (i := 0) (x := x) h (by rw [hsp]; rfl) ?_
   refine h.st0 its.length mid1 (by simp) rfl fun w1 h => ?_
   rw [List.set_append_left _ _ (by simp), set_last] at h
   refine h.st (n := 1) its.length mid1 (by simp) rfl fun w1 h => ?_
   rw [List.set_append_left _ _ (by simp), set_last] at h
   refine h.st (n := 2) its.length mid1 (by simp) rfl fun w1 h => ?_
   rw [List.set_append_left _ _ (by simp), set_last] at h
   refine h.st (n := 3) its.length mid1 (by simp) rfl fun w1 h => ?_
   rw [List.set_append_left _ _ (by simp), set_last] at h
   refine h.ld0 (k := .s) (x := x) its.length (by rw [mid1]; rfl) rfl ?_
   refine h.ld (n := 1) (k := .i .i64) (x := p) its.length (by rw [mid1]; rfl) rfl ?_
   refine h.ld (n := 2) (k := .i .i64) (x := q) its.length (by rw [mid1]; rfl) rfl ?_
   refine h.ld (n := 3) (k := .sl) (x := ⟨none, 0, 0⟩) its.length (by rw [mid1]; rfl) rfl ?_
   refine hok x p q ?_ w1 h.front.front
   rw [hh, (g1 rfl).1, (k1 rfl).1]
   dsimp only
   rw [if_pos hr]
  ·refine ifT ?_ (fail w3 h ?_)
   ·cases one with
    | false => rfl
    | true =>
     cases tw with
     | false => rfl
     | true =>
      have : ¬ (0 ≤ p ∧ p ≤ 4 ∧ p ≤ q ∧ q ≤ 32) := fun k => hg ⟨rfl, rfl, k⟩
      simp; omega
   ·rw [hh]
    cases one with
    | false => rw [g2 rfl]
    | true =>
     rw [(g1 rfl).1]
     cases tw with
     | false => rw [k2 rfl]
     | true =>
      rw [(k1 rfl).1]
      dsimp only
      rw [if_neg fun k => hg ⟨rfl, rfl, k⟩]
end
def rt0 : RT := ⟨⟨#[]⟩, 0, 0, []⟩
def rAdd (r : RT) (i : Ins) : RT := ⟨r.nm, r.pa, r.lo, r.code ++ [i]⟩
def readG (s : ByteArray) : Nat → Nat → Option RT → Except Nat RT
 | 0, a, _ => .error a
 | f + 1, a, st =>
  if st.isSome = true ∧ ¬ a < s.size then .ok (st.getD rt0)
  else if (cutB (s.extract a s.size) nl).2.2 = false then .error a
  else match st with
   | none => (match headR (cutB (s.extract a s.size) nl).1 with
    | none => .error a
    | some h => readG s f (a + (cutB (s.extract a s.size) nl).1.size + 1) (some ⟨h.1, h.2.1, h.2.2, []⟩))
   | some r => if r.code.length < 2000 then (match insR (cutB (s.extract a s.size) nl).1 with
    | none => .error a
    | some i => readG s f (a + (cutB (s.extract a s.size) nl).1.size + 1) (some (rAdd r i))) else .error a
def readM (s : ByteArray) : Except Nat RT := readG s (s.size + 2) 0 none
abbrev tR (b : Nat) (r : RT) (sl : Sl) : Thing := tBlk b 30 [.string r.nm, .int .i64 r.pa, .int .i64 r.lo, .slice sl.a sl.len sl.cap]
abbrev tA0 (b : Nat) : Thing := tBlk b 30 [.string (⟨#[]⟩ : ByteArray), .int .i64 0, .int .i64 0, .slice none 0 0]
section
variable {w0 w : World} {its rest : List Thing}
theorem set_mid {α : Type} {l B : List α} {a x : α} : (l ++ [a] ++ B).set l.length x = l ++ [x] ++ B := by
 rw [List.set_append_left _ _ (by simp), set_last]
theorem Read_spec (h : Hp [] w0 w its) (hG : Glob w0) {s : ByteArray} (hs : s.size < 4294967281) {K : ByteArray → Int → Int → Sl → Value → World → Prop}
  (hok : ∀ r, readM s = .ok r → ∀ sl w', Hp [] w0 w' (its ++ [tSl sl 23 2 insv r.code]) → K r.nm r.pa r.lo sl .nilIface w')
  (herr : ∀ e, readM s = .error e → ∀ fb w', Hp [] w0 w' (its ++ [tFault fb e]) → K ⟨#[]⟩ 0 0 ⟨none, 0, 0⟩ (.iface 86 (.pointer (some ⟨fb, 0, none⟩))) w') : c27 s w K := by
 refine c27_of ?_
 unfold f27
 obtain ⟨inf, i1, i2, i3, i4⟩ := inf23
 refine h.nw fun A w1 h => ?_
 refine h.nw fun R w1 h => ?_
 have h := h.nil 23 2 insv
 have h : Hp [] w0 w1 (its ++ [tA0 A] ++ [tR R rt0 ⟨none, 0, 0⟩] ++ [tSl ⟨none, 0, 0⟩ 23 2 insv rt0.code]) := h
 refine ⟨fun at_ first m w' => ∃ (a f : Nat) (st : Option RT) (sl : Sl), at_ = a ∧ a ≤ s.size ∧ first = st.isNone ∧ m = s.size - a ∧ s.size - a + 2 ≤ f ∧ readM s = readG s f a st ∧ Hp [] w0 w' (its ++ [tA0 A] ++ [tR R (st.getD rt0) sl] ++ [tSl sl 23 2 insv (st.getD rt0).code]),
  ⟨_, 0, s.size + 2, none, _, rfl, by omega, rfl, rfl, by omega, rfl, h⟩, ?_⟩
 clear h
 rintro at_ first m w1 ⟨a, f, st, sl, rfl, ha, rfl, rfl, hf, hM, h⟩
 obtain ⟨f, rfl⟩ : ∃ g, f = g + 1 := ⟨f - 1, by omega⟩
 unfold readG at hM
 have hA : ∀ {B : List Thing}, ((its ++ [tA0 A] ++ B)[its.length]?).map Thing.holds = some (tA0 A).holds := fun {B} => by rw [mid1]; rfl
 by_cases hend : st.isSome = true ∧ ¬ a < s.size
 ·rw [if_pos hend] at hM
  obtain ⟨r, rfl⟩ := Option.isSome_iff_exists.1 hend.1
  have h : Hp [] w0 w1 (its ++ [tA0 A] ++ [tR R r sl] ++ [tSl sl 23 2 insv r.code]) := h
  refine ifF (by simp; omega) ?_
  have hR : ((its ++ [tA0 A] ++ [tR R r sl] ++ [tSl sl 23 2 insv r.code])[its.length + 1]?).map Thing.holds = some (tR R r sl).holds := by rw [mid2]; rfl
  refine h.ld0 (k := .s) (x := r.nm) _ hR rfl ?_
  refine h.ld (n := 1) (k := .i .i64) (x := r.pa) _ hR rfl ?_
  refine h.ld (n := 2) (k := .i .i64) (x := r.lo) _ hR rfl ?_
  refine h.ld (n := 3) (k := .sl) (x := sl) _ hR rfl ?_
  have h : Hp [] w0 w1 (its ++ [tA0 A] ++ ([tR R r sl] ++ [tSl sl 23 2 insv r.code])) := by simpa using h
  refine h.st0 its.length mid1 (by simp) rfl fun w1 h => ?_
  rw [set_mid] at h
  refine h.st (n := 1) its.length mid1 (by simp) rfl fun w1 h => ?_
  rw [set_mid] at h
  refine h.st (n := 2) its.length mid1 (by simp) rfl fun w1 h => ?_
  rw [set_mid] at h
  refine h.st (n := 3) its.length mid1 (by simp) rfl fun w1 h => ?_
  rw [set_mid] at h
  refine h.ld0 (k := .s) (x := r.nm) its.length (by rw [mid1]; rfl) rfl ?_
  refine h.ld (n := 1) (k := .i .i64) (x := r.pa) its.length (by rw [mid1]; rfl) rfl ?_
  refine h.ld (n := 2) (k := .i .i64) (x := r.lo) its.length (by rw [mid1]; rfl) rfl ?_
  refine h.ld (n := 3) (k := .sl) (x := sl) its.length (by rw [mid1]; rfl) rfl ?_
  refine hok r hM sl w1 ?_
  refine Hp.dropMid (mid := [tBlk A 30 [.string r.nm, .int .i64 r.pa, .int .i64 r.lo, .slice sl.a sl.len sl.cap]] ++ [tR R r sl]) ?_
  simpa using h
 ·rw [if_neg hend] at hM
  refine ifT ?_ ?_
  ·cases st with
   | none => rfl
   | some r =>
    have : a < s.size := by
     rcases Nat.lt_or_ge a s.size with g | g
     ·exact g
     ·exact absurd ⟨rfl, by omega⟩ hend
    simp [this]
  refine ⟨by omega, by omega, by omega, ?_⟩
  rw [Int.toNat_natCast, Int.toNat_natCast]
  have hes : (s.extract a s.size).size = s.size - a := by rw [ByteArray.size_extract]; omega
  refine Cut_spec h hG (by omega) fun w1 h => ?_
  have esp : (⟨#[10]⟩ : ByteArray) = nl := rfl
  rw [esp]
  have hcf := cut_found (s := s.extract a s.size) (sep := nl)
  have hcs := (cut_size (s.extract a s.size) nl).1
  have hn1 : nl.size = 1 := rfl
  generalize hc : cutB (s.extract a s.size) nl = c at *
  obtain ⟨text, x_, whole⟩ := c
  dsimp only at hM hcf hcs ⊢
  have hlen := h.len (s := sl) (e := 23) (n := 2) (f := insv) (l := (st.getD rt0).code) (its.length + 2) (by rw [last3]; rfl)
  -- it is wrong here
  have wrongX : ∀ (B : List Thing) (w2 : World), Hp [] w0 w2 (its ++ [tA0 A] ++ B) → readM s = .error a → Nw (.cells #[.int .i64 (a : Int), .int .i64 130] 89) w2 fun (a2 : Addr) (w : World) =>
    St ⟨A, 0, none⟩ (.string (⟨#[]⟩ : ByteArray)) w fun (w : World) => St ((⟨A, 0, none⟩ : Addr).add 1) (.int .i64 0) w fun (w : World) => St ((⟨A, 0, none⟩ : Addr).add 2) (.int .i64 0) w fun (w : World) => St ((⟨A, 0, none⟩ : Addr).add 3) (.slice none 0 0) w fun (w : World) =>
    Ld .s w ⟨A, 0, none⟩ fun r1 => Ld (.i .i64) w ((⟨A, 0, none⟩ : Addr).add 1) fun r2 => Ld (.i .i64) w ((⟨A, 0, none⟩ : Addr).add 2) fun r3 => Ld .sl w ((⟨A, 0, none⟩ : Addr).add 3) fun r4 => K r1 r2 r3 r4 (.iface 86 (.pointer (some a2))) w := by
   intro B w2 h he
   refine h.nw fun fb w3 h => ?_
   have h : Hp [] w0 w3 (its ++ [tA0 A] ++ (B ++ [tFault fb a])) := by simpa using h
   refine h.st0 its.length mid1 (by simp) rfl fun w1 h => ?_
   rw [set_mid] at h
   refine h.st (n := 1) its.length mid1 (by simp) rfl fun w1 h => ?_
   rw [set_mid] at h
   refine h.st (n := 2) its.length mid1 (by simp) rfl fun w1 h => ?_
   rw [set_mid] at h
   refine h.st (n := 3) its.length mid1 (by simp) rfl fun w1 h => ?_
   rw [set_mid] at h
   refine h.ld0 (k := .s) (x := (⟨#[]⟩ : ByteArray)) its.length (by rw [mid1]; rfl) rfl ?_
   refine h.ld (n := 1) (k := .i .i64) (x := 0) its.length (by rw [mid1]; rfl) rfl ?_
   refine h.ld (n := 2) (k := .i .i64) (x := 0) its.length (by rw [mid1]; rfl) rfl ?_
   refine h.ld (n := 3) (k := .sl) (x := ⟨none, 0, 0⟩) its.length (by rw [mid1]; rfl) rfl ?_
   refine herr a he fb w1 ?_
   refine Hp.dropMid (mid := [tA0 A] ++ B) ?_
   simpa using h
  refine ⟨fun b w' => b = (whole && (st.isNone || decide ((st.getD rt0).code.length < 2000))) ∧ Hp [] w0 w' (its ++ [tA0 A] ++ [tR R (st.getD rt0) sl] ++ [tSl sl 23 2 insv (st.getD rt0).code]), ?_, ?_⟩
  ·cases whole with
   | false => exact ifF (by decide) ⟨rfl, h⟩
   | true =>
    refine ifT rfl ?_
    cases st with
    | none => exact ifT rfl ⟨rfl, h⟩
    | some r =>
     refine ifF (by simp) ?_
     refine h.ld (n := 3) (k := .sl) (x := sl) (its.length + 1) (by rw [mid2]; rfl) rfl ⟨?_, h⟩
     have : r.code.length = sl.len := hlen
     simp; omega
  clear h
  rintro g w1 ⟨rfl, h⟩
  refine ⟨fun g w' => (g = false ∧ readM s = .error a ∧ ∃ B, Hp [] w0 w' (its ++ [tA0 A] ++ B)) ∨ (g = true ∧ whole = true ∧ ∃ r' sl', readM s = readG s f (a + text.size + 1) (some r') ∧ Hp [] w0 w' (its ++ [tA0 A] ++ [tR R r' sl'] ++ [tSl sl' 23 2 insv r'.code])), ?_, ?_⟩
  ·by_cases hg : (whole && (st.isNone || decide ((st.getD rt0).code.length < 2000))) = true
   ·refine ifF (by simp [hg]) ?_
    rw [Bool.and_eq_true] at hg
    obtain ⟨rfl, hg⟩ := hg
    rw [if_neg (by decide)] at hM
    cases st with
    | none =>
     refine ifT rfl ?_
     dsimp only at hM
     have stores : ∀ (nm : ByteArray) (pa lo : Int) (sl2 : Sl) (w2 : World), Hp [] w0 w2 (its ++ [tA0 A] ++ [tR R rt0 sl] ++ [tSl sl 23 2 insv rt0.code]) → ∀ {G : World → Prop}, (∀ w3, Hp [] w0 w3 (its ++ [tA0 A] ++ [tBlk R 30 [.string nm, .int .i64 pa, .int .i64 lo, .slice sl2.a sl2.len sl2.cap]] ++ [tSl sl 23 2 insv rt0.code]) → G w3) → St ⟨R, 0, none⟩ (.string nm) w2 fun w => St ((⟨R, 0, none⟩ : Addr).add 1) (.int .i64 pa) w fun w => St ((⟨R, 0, none⟩ : Addr).add 2) (.int .i64 lo) w fun w => St ((⟨R, 0, none⟩ : Addr).add 3) (.slice sl2.a sl2.len sl2.cap) w G := by
      intro nm pa lo sl2 w2 h G hG
      refine h.st0 (its ++ [tA0 A]).length mid1 (by simp) rfl fun w1 h => ?_
      rw [set_mid] at h
      refine h.st (n := 1) (its ++ [tA0 A]).length mid1 (by simp) rfl fun w1 h => ?_
      rw [set_mid] at h
      refine h.st (n := 2) (its ++ [tA0 A]).length mid1 (by simp) rfl fun w1 h => ?_
      rw [set_mid] at h
      refine h.st (n := 3) (its ++ [tA0 A]).length mid1 (by simp) rfl fun w1 h => ?_
      rw [set_mid] at h
      exact hG w1 h
     refine header_spec h hG (by omega) (fun nm pa lo hh w2 h => stores _ _ _ _ w2 h fun w3 h => .inr ⟨rfl, rfl, ⟨nm, pa, lo, []⟩, ⟨none, 0, 0⟩, ?_, ?_⟩) (fun hh w2 h => stores _ _ _ _ w2 h fun w3 h => .inl ⟨rfl, ?_, _, by rw [List.append_assoc (its ++ [tA0 A])] at h; exact h⟩)
     ·rw [hM, hh]
     ·have h := h.front.nil 23 2 insv
      exact h
     ·rw [hM, hh]
    | some r =>
     refine ifF (by simp) ?_
     dsimp only at hM
     have hl2 : r.code.length < 2000 := by simpa using hg
     rw [if_pos hl2] at hM
     have hsl : r.code.length = sl.len := hlen
     have h : Hp [] w0 w1 (its ++ [tA0 A] ++ [tR R r sl] ++ [tSl sl 23 2 insv r.code]) := h
     refine h.nw fun I w2 h => ?_
     have fin : ∀ (op x : Int) (w2 : World), Hp [] w0 w2 (its ++ [tA0 A] ++ [tR R r sl] ++ [tSl sl 23 2 insv r.code] ++ [tBlk I 23 [.int .i64 0, .int .i64 0]]) → ∀ {G : World → Prop}, (∀ sl' w3, Hp [] w0 w3 (its ++ [tA0 A] ++ [tR R (rAdd r (op, x)) sl'] ++ [tSl sl' 23 2 insv (rAdd r (op, x)).code]) → G w3) →
       St ⟨I, 0, none⟩ (.int .i64 op) w2 fun w => St ((⟨I, 0, none⟩ : Addr).add 1) (.int .i64 x) w fun w => Ld .sl w ((⟨R, 0, none⟩ : Addr).add 3) fun Code2 => Ld (.i .i64) w ⟨I, 0, none⟩ fun r1 => Ld (.i .i64) w ((⟨I, 0, none⟩ : Addr).add 1) fun r2 =>
        Nw (.cells #[.int .i64 r1, .int .i64 r2] 23) w fun b w => Run .sl Tryz.prog (Builtin.append_ #[28, 28] 28 #[.slice Code2.a Code2.len Code2.cap, .slice (some b) 1 1]) w fun s3 w => St ((⟨R, 0, none⟩ : Addr).add 3) (.slice s3.a s3.len s3.cap) w fun w => G w := by
      intro op x w2 h G hG
      refine h.st0 _ List.getElem?_concat_length (by simp) rfl fun w3 h => ?_
      rw [set_last] at h
      refine h.st (n := 1) _ List.getElem?_concat_length (by simp) rfl fun w3 h => ?_
      rw [set_last] at h
      refine h.ld (n := 3) (k := .sl) (x := sl) (its ++ [tA0 A]).length (by rw [List.append_assoc (its ++ [tA0 A] ++ [tR R r sl]), mid1]; rfl) rfl ?_
      refine h.ld0 (k := .i .i64) (x := op) _ (by rw [List.getElem?_concat_length]; rfl) rfl ?_
      refine h.ld (n := 1) (k := .i .i64) (x := x) _ (by rw [List.getElem?_concat_length]; rfl) rfl ?_
      have h := h.front
      refine h.nwapp (c := insv (op, x)) _ (op, x) List.getElem?_concat_length insv_len und28 i1 i3 i2 rfl rfl (by simp [Value.oneCell']) (by rw [i4]; omega) (by omega) fun s2 w6 h _ _ => ?_
      rw [set_last] at h
      refine h.st (n := 3) (its ++ [tA0 A]).length mid1 (by simp) rfl fun w7 h => ?_
      rw [set_mid] at h
      exact hG s2 w7 h
     refine readIns_spec h hG (by omega) (fun x hx x0 x1 w2 h => fin x.1 x.2 w2 h fun sl' w3 h => .inr ⟨rfl, rfl, rAdd r x, sl', ?_, h⟩) (fun hx op x w2 h => fin op x w2 h fun sl' w3 h => .inl ⟨rfl, ?_, _, by rw [List.append_assoc (its ++ [tA0 A])] at h; exact h⟩)
     ·rw [hM, hx]
     ·rw [hM, hx]
   ·have hg' := Bool.eq_false_iff.2 hg
    refine ifT (by rw [hg']; rfl) (.inl ⟨hg', ?_, _, by rw [List.append_assoc (its ++ [tA0 A])] at h; exact h⟩)
    rw [hM]
    cases whole with
    | false => rfl
    | true =>
     rw [if_neg (by decide)]
     cases st with
     | none => exact absurd rfl hg
     | some r =>
      dsimp only
      rw [if_neg (by simpa using hg)]
  clear h
  rintro g w1 (⟨rfl, he, B, h⟩ | ⟨rfl, rfl, r', sl', he, h⟩)
  ·exact ifT rfl (wrongX B w1 h he)
  ·refine ifF (by decide) ?_
   have := hcf rfl
   refine ⟨s.size - (a + text.size + 1), by omega, a + text.size + 1, f, some r', sl', ?_, by omega, rfl, rfl, by omega, he, h⟩
   rw [wr64 (n := (text.size : Int) + 1) (by omega) (by omega), wr64 (by omega) (by omega)]; omega
end
theorem dec_1 : dec 1 = ⟨#[49]⟩ := by simp [dec, Lib.itoa, Lib.decDigits_one]
theorem dec_2 : dec 2 = ⟨#[50]⟩ := by simp [dec, Lib.itoa, Lib.decDigits_one]
theorem dec_0 : dec 0 = ⟨#[48]⟩ := by simp [dec, Lib.itoa, Lib.decDigits_one]
theorem dec_7 : dec 7 = ⟨#[55]⟩ := by simp [dec, Lib.itoa, Lib.decDigits_one]
theorem dec_m3 : dec (-3) = ⟨#[45, 51]⟩ := by simp [dec, Lib.itoa, Lib.decDigits_one]
theorem decO_of {s : ByteArray} {v : Int} (h : Lib.parseIntB 64 s.data.toList = .ok v) (hd : dec v = s) : decO s = some v := by
 unfold decO; rw [h]; dsimp only; rw [if_pos hd]
theorem decO_no {s : ByteArray} {v : Int} (h : Lib.parseIntB 64 s.data.toList = .ok v) (hd : dec v ≠ s) : decO s = none := by
 unfold decO; rw [h]; dsimp only; rw [if_neg hd]
theorem list_shown : listS ⟨⟨#[102]⟩, 1, 2, [(2, 0), (1, -3), (6, 0), (22, 0)]⟩ = ⟨#[102, 32, 49, 32, 50, 10, 108, 111, 97, 100, 32, 48, 10, 112, 117, 115, 104, 32, 45, 51, 10, 97, 100, 100, 10, 114, 101, 116, 10]⟩ := by
 have e : listL ⟨⟨#[102]⟩, 1, 2, [(2, 0), (1, -3), (6, 0), (22, 0)]⟩ = [102, 32, 49, 32, 50, 10, 108, 111, 97, 100, 32, 48, 10, 112, 117, 115, 104, 32, 45, 51, 10, 97, 100, 100, 10, 114, 101, 116, 10] := by
  unfold listL headL
  simp only [List.flatMap_cons, List.flatMap_nil, lineL, decL, dec_1, dec_2]
  rw [if_pos (by rfl), if_pos (by rfl), if_neg (by decide), if_neg (by decide), dec_0, dec_m3]
  rfl
 unfold listS
 rw [e]
 rfl
theorem head_shown : headR ⟨#[102, 32, 49, 32, 50]⟩ = some (⟨#[102]⟩, 1, 2) := by
 unfold headR
 rw [show splitS ⟨#[102, 32, 49, 32, 50]⟩ = [⟨#[102]⟩, ⟨#[49]⟩, ⟨#[50]⟩] from rfl]
 dsimp only
 rw [if_pos (by rfl), decO_of (s := ⟨#[49]⟩) (v := 1) rfl dec_1, decO_of (s := ⟨#[50]⟩) (v := 2) rfl dec_2]
 rfl
theorem ins_yes : insR ⟨#[112, 117, 115, 104, 32, 55]⟩ = some (1, 7) := by
 unfold insR
 rw [show cutB ⟨#[112, 117, 115, 104, 32, 55]⟩ sp = (⟨#[112, 117, 115, 104]⟩, ⟨#[55]⟩, true) from rfl]
 dsimp only
 rw [show numOf ⟨#[112, 117, 115, 104]⟩ = 1 from rfl, if_neg (by decide), if_pos rfl, decO_of (s := ⟨#[55]⟩) (v := 7) rfl dec_7]
 rfl
theorem ins_no : insR ⟨#[108, 111, 97, 100, 32, 48, 48]⟩ = none := by
 unfold insR
 rw [show cutB ⟨#[108, 111, 97, 100, 32, 48, 48]⟩ sp = (⟨#[108, 111, 97, 100]⟩, ⟨#[48, 48]⟩, true) from rfl]
 dsimp only
 rw [show numOf ⟨#[108, 111, 97, 100]⟩ = 2 from rfl, if_neg (by decide), if_pos rfl, decO_no (s := ⟨#[48, 48]⟩) (v := 0) rfl (by rw [dec_0]; decide)]
 rfl
theorem read_yes : readM ⟨#[102, 32, 49, 32, 50, 10, 112, 117, 115, 104, 32, 55, 10]⟩ = .ok ⟨⟨#[102]⟩, 1, 2, [(1, 7)]⟩ := by
 show readG _ (14 + 1) 0 none = _
 unfold readG
 rw [if_neg (by decide)]
 rw [show cutB ((⟨#[102, 32, 49, 32, 50, 10, 112, 117, 115, 104, 32, 55, 10]⟩ : ByteArray).extract 0 (⟨#[102, 32, 49, 32, 50, 10, 112, 117, 115, 104, 32, 55, 10]⟩ : ByteArray).size) nl = (⟨#[102, 32, 49, 32, 50]⟩, ⟨#[112, 117, 115, 104, 32, 55, 10]⟩, true) from rfl]
 dsimp only
 rw [if_neg (by decide), head_shown]
 show readG _ (13 + 1) 6 (some ⟨⟨#[102]⟩, 1, 2, []⟩) = _
 unfold readG
 rw [if_neg (by decide)]
 rw [show cutB ((⟨#[102, 32, 49, 32, 50, 10, 112, 117, 115, 104, 32, 55, 10]⟩ : ByteArray).extract 6 (⟨#[102, 32, 49, 32, 50, 10, 112, 117, 115, 104, 32, 55, 10]⟩ : ByteArray).size) nl = (⟨#[112, 117, 115, 104, 32, 55]⟩, ⟨#[]⟩, true) from rfl]
 dsimp only
 rw [if_neg (by decide), if_pos (by decide), ins_yes]
 show readG _ (12 + 1) 13 (some ⟨⟨#[102]⟩, 1, 2, [(1, 7)]⟩) = _
 unfold readG
 rw [if_pos (by decide)]
 rfl
theorem read_no : readM ⟨#[102, 32, 49, 32, 50, 10, 108, 111, 97, 100, 32, 48, 48, 10]⟩ = .error 6 := by
 show readG _ (15 + 1) 0 none = _
 unfold readG
 rw [if_neg (by decide)]
 rw [show cutB ((⟨#[102, 32, 49, 32, 50, 10, 108, 111, 97, 100, 32, 48, 48, 10]⟩ : ByteArray).extract 0 (⟨#[102, 32, 49, 32, 50, 10, 108, 111, 97, 100, 32, 48, 48, 10]⟩ : ByteArray).size) nl = (⟨#[102, 32, 49, 32, 50]⟩, ⟨#[108, 111, 97, 100, 32, 48, 48, 10]⟩, true) from rfl]
 dsimp only
 rw [if_neg (by decide), head_shown]
 show readG _ (14 + 1) 6 (some ⟨⟨#[102]⟩, 1, 2, []⟩) = _
 unfold readG
 rw [if_neg (by decide)]
 rw [show cutB ((⟨#[102, 32, 49, 32, 50, 10, 108, 111, 97, 100, 32, 48, 48, 10]⟩ : ByteArray).extract 6 (⟨#[102, 32, 49, 32, 50, 10, 108, 111, 97, 100, 32, 48, 48, 10]⟩ : ByteArray).size) nl = (⟨#[108, 111, 97, 100, 32, 48, 48]⟩, ⟨#[]⟩, true) from rfl]
 dsimp only
 rw [if_neg (by decide), if_pos (by decide), ins_no]
theorem pg_no : pgD [0, 0, 0] = .error 2 := rfl
theorem pg_yes : pgD [0, 1, 1, 102, 0, 0, 1, 22] = .ok ⟨[], [⟨⟨#[102]⟩, 0, 0, [(22, 0)]⟩]⟩ := rfl
section
variable {w0 w : World} {its rest : List Thing}
theorem pg_copy {S : List Nat} (h : Hp S w0 w its) {s1 s2 : Sl} {K : Addr → World → Prop} (hK : ∀ b w', Hp S w0 w' (its ++ [tBlk b 37 [.slice s1.a s1.len s1.cap, .slice s2.a s2.len s2.cap]]) → K ⟨b, 0, none⟩ w') :
  Nw (.cells #[.slice none 0 0, .slice none 0 0] 37) w fun (s : Addr) (w : World) => St s (.slice s1.a s1.len s1.cap) w fun (w : World) => St (s.add 1) (.slice s2.a s2.len s2.cap) w fun (w : World) => K s w := by
 refine h.nw fun b w1 h => ?_
 refine h.st0 its.length List.getElem?_concat_length (by simp) rfl fun w2 h => ?_
 rw [set_last] at h
 refine h.st (n := 1) its.length List.getElem?_concat_length (by simp) rfl fun w2 h => ?_
 rw [set_last] at h
 exact hK b w2 h
theorem shown0 (hG : Glob w) {K : Bool → World → Prop} (hK : ∀ w', Hp [] w w' [] → K true w') : c8 w K := by
 refine c8_of ?_
 unfold f8
 have h : Hp [] w w [] := Hp.init w
 refine h.nwS (l := [(2, 0), (1, -3), (6, 0), (22, 0)]) (f := insv) (n := 2) (m := 4) rfl rfl insv_len fun cb w1 h => ?_
 refine rt_copy h (sl := ⟨some ⟨cb, 0, none⟩, 4, 4⟩) fun rb w1 h => ?_
 have h : Hp [] w w1 [tSl ⟨some ⟨cb, 0, none⟩, 4, 4⟩ 23 2 insv [(2, 0), (1, -3), (6, 0), (22, 0)], tBlk rb 30 [.string ⟨#[102]⟩, .int .i64 1, .int .i64 2, .slice (some ⟨cb, 0, none⟩) 4 4]] := h
 refine h.ld0 (k := .s) (x := ⟨#[102]⟩) 1 rfl rfl ?_
 refine h.ld (n := 1) (k := .i .i64) (x := 1) 1 rfl rfl ?_
 refine h.ld (n := 2) (k := .i .i64) (x := 2) 1 rfl rfl ?_
 refine h.ld (n := 3) (k := .sl) (x := ⟨some ⟨cb, 0, none⟩, 4, 4⟩) 1 rfl rfl ?_
 obtain ⟨O, hO⟩ := h.see (i := 0) rfl
 refine List_spec (code := [(2, 0), (1, -3), (6, 0), (22, 0)]) ⟨O, SlF.toR hO⟩ ⟨by decide, by decide⟩ (by decide) (hG.fr h.fr).tab fun w2 h2 => ?_
 rw [list_shown]
 have h := (h.keep h2.fr).front (a := [])
 clear h2 hO O
 -- Read
 refine Read_spec h hG (by decide) (fun r hr sl1 w2 h => ?_) (fun e he => by rw [read_yes] at he; cases he)
 rw [read_yes] at hr
 cases hr
 refine rt_copy h (sl := sl1) fun xb w2 h => ?_
 have h : Hp [] w w2 [tSl sl1 23 2 insv [(1, 7)], tBlk xb 30 [.string ⟨#[102]⟩, .int .i64 1, .int .i64 2, .slice sl1.a sl1.len sl1.cap]] := h
 refine Read_spec h hG (by decide) (fun r hr => by rw [read_no] at hr; cases hr) (fun e he fb w2 h => ?_)
 rw [read_no] at he
 cases he
 refine rt_copy h (sl := ⟨none, 0, 0⟩) fun xb2 w2 h => ?_
 have h : Hp [] w w2 ([tSl sl1 23 2 insv [(1, 7)], tBlk xb 30 [.string ⟨#[102]⟩, .int .i64 1, .int .i64 2, .slice sl1.a sl1.len sl1.cap], tFault fb 6] ++ [tBlk xb2 30 [.string ⟨#[]⟩, .int .i64 0, .int .i64 0, .slice none 0 0]]) := h
 have h := h.front
 refine fault_spec h 2 rfl fun w2 h => ?_
 have h := h.nil 30 4 rtv
 refine Effect_spec h 3 (u := tSl ⟨none, 0, 0⟩ 30 4 rtv []) rfl Hp.rdSl fun w2 h => ?_
 rw [show (effM 26 26 []).1 = 2 from rfl, show (effM 26 26 []).2 = 0 from rfl]
 have hS0 : RdS w2 ⟨none, 0, 0⟩ ([] : List SY) := ⟨[], [], rfl, by simp, ⟨[], SlR.nil rfl, by simp⟩, by simp⟩
 have hR0 : RdR w2 ⟨none, 0, 0⟩ ([] : List RT) := ⟨[], rfl, ⟨[], SlR.nil rfl⟩, by simp⟩
 refine Encode_spec (p := ⟨[], []⟩) hS0 hR0 ⟨by simp, by simp⟩ (fun _ s2 w3 h2 => ?_) (fun e => by cases e)
 have h := h.r0 (rest := [tB s2 (encPg ⟨[], []⟩)]) rfl h2
 have h : Hp [] w w3 [tSl sl1 23 2 insv [(1, 7)], tBlk xb 30 [.string ⟨#[102]⟩, .int .i64 1, .int .i64 2, .slice sl1.a sl1.len sl1.cap], tFault fb 6, tSl ⟨none, 0, 0⟩ 30 4 rtv [], tB s2 [0, 0]] := h
 clear h2 hS0 hR0
 -- Decode
 refine h.nwS (l := [0, 0, 0]) (f := u8v) (n := 1) (m := 3) rfl rfl u8v_len fun b3 w4 h => ?_
 have h := h.comm
 have hs3 : Src (tSl ⟨some ⟨b3, 0, none⟩, 3, 3⟩ 5 1 u8v [0, 0, 0]) ⟨some ⟨b3, 0, none⟩, 3, 3⟩ [0, 0, 0] := ⟨Hp.rdSl, by unfold Bytes; decide, by decide, rfl, Nat.le_refl _⟩
 refine Decode_spec h hs3 (fun p hp => by rw [pg_no] at hp; cases hp) (fun e he f2 w4 h => ?_)
 rw [pg_no] at he
 cases he
 refine pg_copy h (s1 := ⟨none, 0, 0⟩) (s2 := ⟨none, 0, 0⟩) fun pb w4 h => ?_
 have h : Hp [] w w4 ([tSl ⟨some ⟨b3, 0, none⟩, 3, 3⟩ 5 1 u8v [0, 0, 0], tSl sl1 23 2 insv [(1, 7)], tBlk xb 30 [.string ⟨#[102]⟩, .int .i64 1, .int .i64 2, .slice sl1.a sl1.len sl1.cap], tFault fb 6, tSl ⟨none, 0, 0⟩ 30 4 rtv [], tB s2 [0, 0], tFault f2 2] ++ [tBlk pb 37 [.slice none 0 0, .slice none 0 0]]) := h
 have h := h.front
 refine fault_spec h 6 rfl fun w4 h => ?_
 refine h.nwS (l := [0, 1, 1, 102, 0, 0, 1, 22]) (f := u8v) (n := 1) (m := 8) rfl rfl u8v_len fun b4 w5 h => ?_
 have h := h.comm
 have hs4 : Src (tSl ⟨some ⟨b4, 0, none⟩, 8, 8⟩ 5 1 u8v [0, 1, 1, 102, 0, 0, 1, 22]) ⟨some ⟨b4, 0, none⟩, 8, 8⟩ [0, 1, 1, 102, 0, 0, 1, 22] := ⟨Hp.rdSl, by unfold Bytes; decide, by decide, rfl, Nat.le_refl _⟩
 refine Decode_spec h hs4 (fun p hp q1 q2 w5 h => ?_) (fun e he => by rw [pg_yes] at he; cases he)
 rw [pg_yes] at hp
 cases hp
 refine pg_copy h (s1 := q1) (s2 := q2) fun qb w5 h => ?_
 have h : Hp [] w w5 [tSl ⟨some ⟨b4, 0, none⟩, 8, 8⟩ 5 1 u8v [0, 1, 1, 102, 0, 0, 1, 22], tSl ⟨some ⟨b3, 0, none⟩, 3, 3⟩ 5 1 u8v [0, 0, 0], tSl sl1 23 2 insv [(1, 7)], tBlk xb 30 [.string ⟨#[102]⟩, .int .i64 1, .int .i64 2, .slice sl1.a sl1.len sl1.cap], tFault fb 6, tSl ⟨none, 0, 0⟩ 30 4 rtv [], tB s2 [0, 0], tFault f2 2, tSyN q1 [], tFnN q2 [⟨⟨#[102]⟩, 0, 0, [(22, 0)]⟩], tBlk qb 37 [.slice q1.a q1.len q1.cap, .slice q2.a q2.len q2.cap]] := h
 refine ifT (by simp) ?_
 refine ⟨true, fun _ _ => by kernel_rfl, ifT rfl ?_⟩
 have hl1 := h.len (s := sl1) (e := 23) (n := 2) (f := insv) (l := [(1, 7)]) 2 rfl
 refine h.ld (n := 3) (k := .sl) (x := sl1) 3 rfl rfl ?_
 refine ifT (by rw [← hl1]; rfl) ?_
 refine h.ld (n := 3) (k := .sl) (x := sl1) 3 rfl rfl ?_
 refine h.ixr 2 (s := sl1) (l := [(1, 7)]) (f := insv) (n := 2) (e := 23) (j := 0) rfl (by decide) (y := (1, 7)) rfl insv_len fun ad hc => ?_
 refine ldR (k := .i .i64) (x := 7) (hc 1 (by decide)) rfl ?_
 refine ifT rfl (ifT rfl (ifT rfl (ifT rfl (ifT rfl (ifT rfl ?_)))))
 refine h.rdb 6 (u := tB s2 [0, 0]) rfl Hp.rdSl ⟨#[0, 0]⟩ rfl ?_
 refine ifT (by simp) (ifT rfl (ifT rfl (ifT rfl (ifT rfl ?_))))
 refine ⟨true, fun _ _ => by kernel_rfl, ifT rfl ?_⟩
 have hq := h.nest_see (e := 30) (n := 4) (cells := rtv) (sub := subI) (vis := RV.r) (s := q2) (l := [⟨⟨#[102]⟩, 0, 0, [(22, 0)]⟩]) 9 rfl
 refine h.ld (n := 1) (k := .sl) (x := q2) 10 rfl rfl ?_
 refine ifT (by rw [← hq.1]; rfl) ?_
 refine h.ld (n := 1) (k := .sl) (x := q2) 10 rfl rfl ?_
 obtain ⟨xs, hx, h⟩ := h.nest_open (i := 9) rfl
 obtain ⟨x, rfl⟩ : ∃ x, xs = [x] := List.length_eq_one_iff.1 (by simpa using congrArg List.length hx)
 have hxc : x.code = [(22, 0)] := by
  have : x.r = ⟨⟨#[102]⟩, 0, 0, [(22, 0)]⟩ := by simpa using hx
  exact congrArg RT.code this
 obtain ⟨O, O1, O2, g1, _⟩ := h.see (i := 11) (t := tAll [subI x]) rfl
 have hxl : x.code.length = x.sl.len := g1.1
 refine h.ixr 9 (s := q2) (l := [x]) (f := rtv) (n := 4) (e := 30) (j := 0) rfl (by decide) (y := x) rfl rtv_len fun ad hc => ?_
 refine ldR (k := .sl) (x := x.sl) (hc 3 (by decide)) rfl ?_
 refine ifT (by rw [← hxl, hxc]; rfl) ?_
 refine Name_spec h fun w6 h => ?_
 refine ifT (by rw [str_beq]; rfl) ?_
 refine Number_spec h fun w6 h => ?_
 exact hK w6 (frNil h.fr)
theorem shown_spec (h : Hp [] w0 w its) (hG : Glob w0) {K : Bool → World → Prop} (hK : ∀ w', Hp [] w0 w' its → K true w') : c8 w K :=
 shown0 (hG.fr h.fr) fun w' h2 => hK w' (h.keep h2.fr)
end
end Go.Proofs.YtmfgofbcnlkolaaGreatDoor.F
end

section
namespace Go.Proofs.YtmfgofbcnlkolaaGreatDoor.FW
open F
open Go Go.Den Go.Proofs Go.RowKit
theorem und23s : Tryz.prog.underlying 23 = some (.struct (Tryz.prog.fieldsOf 23)) := by kernel_rfl
theorem und30s : Tryz.prog.underlying 30 = some (.struct (Tryz.prog.fieldsOf 30)) := by kernel_rfl
theorem undI3 : Tryz.prog.underlying 3 = some (.int .i64) := by kernel_rfl
theorem undI2 : Tryz.prog.underlying 2 = some (.int .i64) := by kernel_rfl
theorem und28s : Tryz.prog.underlying 28 = some (.slice 23) := by kernel_rfl
theorem cel2 : Tryz.prog.cellsOf 2 = 1 := by kernel_rfl
theorem cel3 : Tryz.prog.cellsOf 3 = 1 := by kernel_rfl
theorem cel9 : Tryz.prog.cellsOf 9 = 1 := by kernel_rfl
theorem cel23 : Tryz.prog.cellsOf 23 = 2 := by kernel_rfl
theorem cel28 : Tryz.prog.cellsOf 28 = 1 := by kernel_rfl
theorem cel30 : Tryz.prog.cellsOf 30 = 4 := by kernel_rfl
theorem byt23 : Tryz.prog.bytesOf 23 = 16 := by kernel_rfl
theorem byt30 : Tryz.prog.bytesOf 30 = 56 := by kernel_rfl
theorem wf_rng {x : Int} (h : (Lit.int .i64 x).wf = true) : -9223372036854775808 ≤ x ∧ x ≤ 9223372036854775807 := by
 have hm : IntKind.i64.min ≤ x ∧ x ≤ IntKind.i64.max := by simpa [Lit.wf] using h
 have h1 : IntKind.i64.min = -9223372036854775808 := by decide
 have h2 : IntKind.i64.max = 9223372036854775807 := by decide
 omega
theorem dec_ins {w : World} {B m : Nat} {ci : List Value} (hl : ci.length = 2) (h : RdV Tryz.prog w B m 23 ci) : ∃ x : Ins, ci = insv x ∧ (-9223372036854775808 ≤ x.2 ∧ x.2 ≤ 9223372036854775807) := by
 obtain ⟨_, q, hf⟩ := rd_struct und23s h
 match ci, hl with
 | [c0, c1], _ =>
  obtain ⟨m0, e0, h0⟩ := rd_int undI3 (rd_field hf 0 (ft := 3) (off := 0) (sz := 1) (by kernel_rfl) cel3)
  obtain ⟨m1, e1, h1⟩ := rd_int undI2 (rd_field hf 1 (ft := 2) (off := 1) (sz := 1) (by kernel_rfl) cel2)
  simp only [List.drop_zero, List.drop_succ_cons, List.take_succ_cons, List.take_zero, List.cons.injEq, and_true] at e0 e1
  subst e0 e1
  exact ⟨(m0, m1), rfl, wf_rng h1⟩
theorem dec_code {w : World} {B n : Nat} {cs : List Value} (h : RdV Tryz.prog w B n 28 cs) : ∃ (s : Sl) (l : List Ins), cs = [.slice s.a s.len s.cap] ∧ (∃ o, SlR w s 2 insv l o) ∧ l.length ≤ 8796093022208 ∧ ∀ x ∈ l, -9223372036854775808 ≤ x.2 ∧ x.2 ≤ 9223372036854775807 := by
 obtain ⟨s, l, o, h1, h2, h3, hb, h4, h5⟩ := rd_slice (f := insv) (G := fun x => -9223372036854775808 ≤ x.2 ∧ x.2 ≤ 9223372036854775807) und28s cel23 (by omega) (fun m ci hl hr => dec_ins hl hr) h
 rw [byt23] at hb
 unfold reachBytes at hb
 exact ⟨s, l, h1, ⟨o, h2⟩, by omega, h3⟩
theorem dec_rt {w : World} {B m : Nat} {ci : List Value} (hl : ci.length = 4) (h : RdV Tryz.prog w B m 30 ci) : ∃ x : RV, ci = rtv x ∧ x.r.Ok ∧ (∃ o, SlR w x.sl 2 insv x.code o) ∧ x.nm.size ≤ 140737488355328 ∧ (-9223372036854775808 ≤ x.pa ∧ x.pa ≤ 9223372036854775807) ∧ (-9223372036854775808 ≤ x.lo ∧ x.lo ≤ 9223372036854775807) := by
 obtain ⟨_, q, hf⟩ := rd_struct und30s h
 match ci, hl with
 | [c0, c1, c2, c3], _ =>
  obtain ⟨m0, e0, h0, _⟩ := rd_string und9 (rd_field hf 0 (ft := 9) (off := 0) (sz := 1) (by kernel_rfl) cel9)
  obtain ⟨m1, e1, h1⟩ := rd_int undI3 (rd_field hf 1 (ft := 3) (off := 1) (sz := 1) (by kernel_rfl) cel3)
  obtain ⟨m2, e2, h2⟩ := rd_int undI3 (rd_field hf 2 (ft := 3) (off := 2) (sz := 1) (by kernel_rfl) cel3)
  obtain ⟨s, l, e3, h3, h4, h5⟩ := dec_code (rd_field hf 3 (ft := 28) (off := 3) (sz := 1) (by kernel_rfl) cel28)
  simp only [List.drop_zero, List.drop_succ_cons, List.take_succ_cons, List.take_zero, List.cons.injEq, and_true] at e0 e1 e2 e3
  subst e0 e1 e2 e3
  unfold reachBytes at h0
  exact ⟨⟨m0, m1, m2, s, l⟩, rfl, ⟨by show l.length ≤ _; omega, h5⟩, h3, by show m0.size ≤ _; omega, wf_rng h1, wf_rng h2⟩
def pow10s : List Int := [1, 10, 100, 1000, 10000, 100000, 1000000, 10000000, 100000000, 1000000000, 10000000000, 100000000000, 1000000000000, 10000000000000, 100000000000000, 1000000000000000, 10000000000000000, 100000000000000000, 1000000000000000000, 10000000000000000000]
theorem gP : Tryz.prog.globalNamed "internal/strconv.uint64pow10" = some 1 := by kernel_rfl
theorem und39' : (match Tryz.prog.underlying 39 with | some (.interface _) => true | _ => false) = true := by kernel_rfl
theorem und39i : ∃ ms : Array (String × TypeId), Tryz.prog.underlying 39 = some (.interface ms) := by
 have h := und39'
 split at h
 ·exact ⟨_, by assumption⟩
 ·cases h
theorem starE : "*errors.errorString" = "*" ++ "errors.errorString" := by decide
theorem row191 (u : TypeId) (h : Tryz.prog.typeName? 3 u = some "*errors.errorString") : u = 191 :=
 typeName_ptr_named (nm := "errors.errorString") (by rw [← starE]; kernel_rfl) (by kernel_rfl) (by decide) u (by rw [← starE]; exact h)
theorem und191 : Tryz.prog.underlying 191 = some (.pointer 193) := by kernel_rfl
theorem und193 : Tryz.prog.underlying 193 = some (.struct #[⟨"s", 9, 0, false, "", "errors", 0⟩]) := by kernel_rfl
theorem cel193 : Tryz.prog.cellsOf 193 = 1 := by kernel_rfl
theorem gS : Tryz.prog.globalNamed "strconv.ErrSyntax" = some 2 := by kernel_rfl
theorem gR : Tryz.prog.globalNamed "strconv.ErrRange" = some 3 := by kernel_rfl
theorem gST : (Tryz.prog.globals[2]?).map (·.type) = some 39 := by kernel_rfl
theorem gRT : (Tryz.prog.globals[3]?).map (·.type) = some 39 := by kernel_rfl
theorem gPT : (Tryz.prog.globals[1]?).map (·.type) = some 165 := by kernel_rfl
theorem glob_of {w : World} (hs : w.ShapedOpen Tryz.prog) (ht : TabW w) (h2 : ∃ a : Addr, w.var? Tryz.prog "strconv.ErrSyntax" = some #[.iface 191 (.pointer (some a))]) (h3 : ∃ a : Addr, w.var? Tryz.prog "strconv.ErrRange" = some #[.iface 191 (.pointer (some a))]) : Glob w := by
 obtain ⟨a, ha⟩ := h2
 obtain ⟨b, hb⟩ := h3
 exact ⟨ht, cell_of_shapedOpen_int (g := 0) (t := 3) (zero := #[.int .i64 0]) hs (by rw [show Tryz.prog.globals.size = 8 by kernel_rfl]; decide) (by kernel_rfl) rfl (by kernel_rfl) (by kernel_rfl) undI3,
  ⟨.iface 191 (.pointer (some a)), World.var?_cell gS ha 0, .inr ⟨_, _, rfl⟩⟩,
  ⟨.iface 191 (.pointer (some b)), World.var?_cell gR hb 0, .inr ⟨_, _, rfl⟩⟩⟩
end Go.Proofs.YtmfgofbcnlkolaaGreatDoor.FW
end

section
namespace Go.Proofs.YtmfgofbcnlkolaaGreatDoor.F
open Go Go.Den Go.Proofs
theorem insNe {w : World} {x y : Operand} {a b c d : Int} {K : Bool → Prop} (hK : K (!decide ((a, b) = (c, d)))) : RunRo .b Tryz.prog (binSem .neq 23 x y (.agg #[.int .i64 a, .int .i64 b]) (.agg #[.int .i64 c, .int .i64 d])) w K := by
 refine runNe (r := (a == c && (b == d && true))) (by kernel_rfl) (by kernel_rfl) (by kernel_rfl) (by kernel_rfl) ?_
 have e : (a == c && (b == d && true)) = decide ((a, b) = (c, d)) := by
  rw [Bool.eq_iff_iff]; simp
 rw [e]; exact hK
theorem insEq {w : World} {x y : Operand} {a b c d : Int} {K : Bool → Prop} (hK : K (decide ((a, b) = (c, d)))) : RunRo .b Tryz.prog (binSem .eql 23 x y (.agg #[.int .i64 a, .int .i64 b]) (.agg #[.int .i64 c, .int .i64 d])) w K := by
 refine runEq (r := (a == c && (b == d && true))) (by kernel_rfl) (by kernel_rfl) (by kernel_rfl) (by kernel_rfl) ?_
 have e : (a == c && (b == d && true)) = decide ((a, b) = (c, d)) := by
  rw [Bool.eq_iff_iff]; simp
 rw [e]; exact hK
section
variable {S : List Nat} {w0 w : World} {its rest : List Thing}
theorem same_spec (h : Hp S w0 w its) (i j : Nat) {u v : Thing} {s t : Sl} {l m : List Ins} (hi : (its[i]?).map Thing.holds = some u.holds) (hu : Hp.Reads u s 2 insv l) (hj : (its[j]?).map Thing.holds = some v.holds) (hv : Hp.Reads v t 2 insv m) (hl : l.length ≤ 140737488355328)
  {K : Bool → World → Prop} (hK : ∀ w', Hp S w0 w' its → K (decide (l = m)) w') : c65 s t w K := by
 refine c65_of ?_
 unfold f65
 have hls := h.lenU i hi hu
 have hms := h.lenU j hj hv
 by_cases hlen : l.length = m.length
 ·refine ifF (by simp; omega) ?_
  refine ⟨fun k mm w' => ∃ q : Nat, k = q ∧ q ≤ l.length ∧ mm = l.length - q ∧ l.take q = m.take q ∧ Hp S w0 w' its, ⟨_, 0, rfl, by omega, rfl, rfl, h⟩, ?_⟩
  clear h
  rintro k mm w1 ⟨q, rfl, hq, rfl, he, h⟩
  by_cases hend : q = l.length
  ·refine ifF (by simp; omega) ?_
   have e : l = m := by
    rw [List.take_of_length_le (by omega), List.take_of_length_le (by omega)] at he
    exact he
   have := hK w1 h
   rw [decide_eq_true e] at this
   exact this
  ·obtain ⟨x, hx⟩ : ∃ x, l[q]? = some x := ⟨l[q]'(by omega), List.getElem?_eq_getElem (by omega)⟩
   obtain ⟨y, hy⟩ : ∃ y, m[q]? = some y := ⟨m[q]'(by omega), List.getElem?_eq_getElem (by omega)⟩
   refine ifT (by simp; omega) ?_
   refine h.dr fun w1 h => ?_
   obtain ⟨O, hO⟩ := h.see' hi
   obtain ⟨o, hR⟩ := hu.rd hO
   obtain ⟨O2, hO2⟩ := h.see' hj
   obtain ⟨o2, hR2⟩ := hv.rd hO2
   refine SlR.ix insv_len hR (by omega) (x := x) (by rw [Int.toNat_natCast]; exact hx) fun ad hc => ?_
   refine ldR0 (k := .i .i64) (x := x.1) (hc 0 (by omega)) rfl ?_
   refine ldR (k := .i .i64) (x := x.2) (hc 1 (by omega)) rfl ?_
   refine SlR.ix insv_len hR2 (by omega) (x := y) (by rw [Int.toNat_natCast]; exact hy) fun ad hc => ?_
   refine ldR0 (k := .i .i64) (x := y.1) (hc 0 (by omega)) rfl ?_
   refine ldR (k := .i .i64) (x := y.2) (hc 1 (by omega)) rfl ?_
   refine insNe ?_
   by_cases hxy : x = y
   ·subst hxy
    refine ifF (by simp) ⟨l.length - (q + 1), by omega, q + 1, by rw [wr64 (by omega) (by omega)]; omega, by omega, rfl, ?_, h⟩
    rw [List.take_add_one, List.take_add_one, hx, hy, he]
   ·have hne : (!decide ((x.1, x.2) = (y.1, y.2))) = true := by
     rw [decide_eq_false fun e => hxy e]; rfl
    refine ifT hne ?_
    have := hK w1 h
    rw [decide_eq_false fun e => hxy (by rw [e, hy] at hx; exact (Option.some.inj hx).symm)] at this
    exact this
 ·refine ifT (by simp; omega) ?_
  have := hK w h
  rw [decide_eq_false fun e => hlen (by rw [e])] at this
  exact this
theorem setsEq_spec (h : Hp S w0 w its) (i j : Nat) {u v : Thing} {s t : Sl} {l m : List Int} (hi : (its[i]?).map Thing.holds = some u.holds) (hu : Hp.Reads u s 1 iv l) (hj : (its[j]?).map Thing.holds = some v.holds) (hv : Hp.Reads v t 1 iv m) (hl : l.length ≤ 140737488355328)
  {K : Bool → World → Prop} (hK : ∀ w', Hp S w0 w' its → K (decide (l = m)) w') : c41 s t w K := by
 refine c41_of ?_
 unfold f41
 have hls := h.lenU i hi hu
 have hms := h.lenU j hj hv
 by_cases hlen : l.length = m.length
 ·refine ifF (by simp; omega) ?_
  refine ⟨fun k mm w' => ∃ q : Nat, k = q ∧ q ≤ l.length ∧ mm = l.length - q ∧ l.take q = m.take q ∧ Hp S w0 w' its, ⟨_, 0, rfl, by omega, rfl, rfl, h⟩, ?_⟩
  clear h
  rintro k mm w1 ⟨q, rfl, hq, rfl, he, h⟩
  by_cases hend : q = l.length
  ·refine ifF (by simp; omega) ?_
   have e : l = m := by
    rw [List.take_of_length_le (by omega), List.take_of_length_le (by omega)] at he
    exact he
   have := hK w1 h
   rw [decide_eq_true e] at this
   exact this
  ·obtain ⟨x, hx⟩ : ∃ x, l[q]? = some x := ⟨l[q]'(by omega), List.getElem?_eq_getElem (by omega)⟩
   obtain ⟨y, hy⟩ : ∃ y, m[q]? = some y := ⟨m[q]'(by omega), List.getElem?_eq_getElem (by omega)⟩
   refine ifT (by simp; omega) ?_
   refine h.dr fun w1 h => ?_
   obtain ⟨O, hO⟩ := h.see' hi
   obtain ⟨o, hR⟩ := hu.rd hO
   obtain ⟨O2, hO2⟩ := h.see' hj
   obtain ⟨o2, hR2⟩ := hv.rd hO2
   refine SlR.ix iv_len hR (by omega) (x := x) (by rw [Int.toNat_natCast]; exact hx) fun ad hc => ?_
   refine ldR0 (k := .i .i64) (x := x) (hc 0 (by omega)) rfl ?_
   refine SlR.ix iv_len hR2 (by omega) (x := y) (by rw [Int.toNat_natCast]; exact hy) fun ad hc => ?_
   refine ldR0 (k := .i .i64) (x := y) (hc 0 (by omega)) rfl ?_
   by_cases hxy : x = y
   ·subst hxy
    refine ifF (by simp) ⟨l.length - (q + 1), by omega, q + 1, by rw [wr64 (by omega) (by omega)]; omega, by omega, rfl, ?_, h⟩
    rw [List.take_add_one, List.take_add_one, hx, hy, he]
   ·refine ifT (by simpa using hxy) ?_
    have := hK w1 h
    rw [decide_eq_false fun e => hxy (by rw [e, hy] at hx; exact (Option.some.inj hx).symm)] at this
    exact this
 ·refine ifT (by simp; omega) ?_
  have := hK w h
  rw [decide_eq_false fun e => hlen (by rw [e])] at this
  exact this
theorem rt_eq {a b : RT} : a = b ↔ a.code = b.code ∧ a.nm = b.nm ∧ a.pa = b.pa ∧ a.lo = b.lo := by
 obtain ⟨a1, a2, a3, a4⟩ := a
 obtain ⟨b1, b2, b3, b4⟩ := b
 simp only [RT.mk.injEq]
 exact ⟨fun ⟨p, q, r, s⟩ => ⟨s, p, q, r⟩, fun ⟨p, q, r, s⟩ => ⟨q, r, s, p⟩⟩
theorem routines_spec (h : Hp S w0 w its) (i j : Nat) {u v : Thing} {x y : RV} (hi : (its[i]?).map Thing.holds = some u.holds) (hu : Hp.Reads u x.sl 2 insv x.code) (hj : (its[j]?).map Thing.holds = some v.holds) (hv : Hp.Reads v y.sl 2 insv y.code) (hl : x.code.length ≤ 140737488355328)
  {K : Bool → World → Prop} (hK : ∀ (r : Bool) w', (r = true ↔ x.r = y.r) → Hp S w0 w' its → K r w') : c29 x.nm x.pa x.lo x.sl y.nm y.pa y.lo y.sl w K := by
 refine c29_of ?_
 unfold f29
 have hjl : j < its.length := by
  rcases Nat.lt_or_ge j its.length with h1 | h1
  ·exact h1
  ·rw [List.getElem?_eq_none h1] at hj; cases hj
 have hil : i < its.length := by
  rcases Nat.lt_or_ge i its.length with h1 | h1
  ·exact h1
  ·rw [List.getElem?_eq_none h1] at hi; cases hi
 refine h.nw fun a w1 h => ?_
 refine h.nw fun b w1 h => ?_
 have hA : ∀ {t : Thing}, ((its ++ [tBlk a 30 (rtv x)] ++ [t])[its.length]?).map Thing.holds = some (tBlk a 30 (rtv x)).holds := fun {t} => by rw [mid1]; rfl
 have hB : ((its ++ [tBlk a 30 (rtv x)] ++ [tBlk b 30 (rtv y)])[(its ++ [tBlk a 30 (rtv x)]).length]?).map Thing.holds = some (tBlk b 30 (rtv y)).holds := by rw [List.getElem?_concat_length]; rfl
 have h : Hp S w0 w1 (its ++ [tBlk a 30 (rtv x)] ++ [tBlk b 30 (rtv y)]) := h
 refine h.ld (n := 3) (k := .sl) (x := x.sl) _ hA rfl ?_
 refine h.ld (n := 3) (k := .sl) (x := y.sl) _ hB rfl ?_
 refine same_spec h i j (u := u) (v := v) (by rw [List.append_assoc, List.getElem?_append_left hil]; exact hi) hu (by rw [List.append_assoc, List.getElem?_append_left hjl]; exact hj) hv hl fun w1 h => ?_
 have no : ¬ x.r = y.r → K false w1 := fun hn => hK false w1 ⟨(fun e => by cases e), fun e => absurd e hn⟩ h.front.front
 by_cases h1 : x.code = y.code
 ·refine ifT (by simpa using h1) ?_
  refine h.ld0 (k := .s) (x := x.nm) _ hA rfl ?_
  refine h.ld0 (k := .s) (x := y.nm) _ hB rfl ?_
  by_cases h2 : x.nm = y.nm
  ·refine ifT (by rw [h2]; simp) ?_
   refine h.ld (n := 1) (k := .i .i64) (x := x.pa) _ hA rfl ?_
   refine h.ld (n := 1) (k := .i .i64) (x := y.pa) _ hB rfl ?_
   by_cases h3 : x.pa = y.pa
   ·refine ifT (by rw [h3]; simp) ?_
    refine h.ld (n := 2) (k := .i .i64) (x := x.lo) _ hA rfl ?_
    refine h.ld (n := 2) (k := .i .i64) (x := y.lo) _ hB rfl ?_
    refine hK _ w1 ?_ h.front.front
    rw [rt_eq]
    simp [RV.r, h1, h2, h3]
   ·exact ifF (by simpa using h3) (no fun e => h3 (congrArg RT.pa e))
  ·refine ifF ?_ (no fun e => h2 (congrArg RT.nm e))
   rw [str_beq]
   simpa using fun e => h2 (strL_inj e)
 ·exact ifF (by simpa using h1) (no fun e => h1 (congrArg RT.code e))
end
def pad7 : List Ins := List.replicate 80 ((-7, 0) : Ins)
section
variable {S : List Nat} {w0 w : World} {its rest : List Thing}
theorem lent_spec (h : Hp S w0 w its) (j : Nat) {u : Thing} {nm : ByteArray} {pa lo : Int} {sl : Sl} {code : List Ins} (hj : its[j]? = some u) (hu : Hp.Reads u sl 2 insv code) (hl : code.length ≤ 8796093022208)
  {K : ByteArray → Int → Int → Sl → Sl → World → Prop} (hK : ∀ s l w', (∀ ls : List Ins, ls.length = code.length + 80 → Hp.Reads (tSl l 23 2 insv ls) s 2 insv (ls.take code.length)) → s.len = code.length → Hp S w0 w' (its ++ [tSl l 23 2 insv (code ++ pad7)]) → K nm pa lo s l w') : c20 nm pa lo sl w K := by
 refine c20_of ?_
 unfold f20
 have hjl := (List.getElem?_eq_some_iff.1 hj).1
 have hsl := h.lenU j (by rw [hj]; rfl) hu
 obtain ⟨inf, i1, i2, i3, i4⟩ := inf23
 refine h.nw fun R w1 h => ?_
 refine h.nw fun A w1 h => ?_
 have h : Hp S w0 w1 (its ++ [tBlk R 30 [.string nm, .int .i64 pa, .int .i64 lo, .slice sl.a sl.len sl.cap]] ++ [tA0 A]) := h
 have hR : ∀ {B : List Thing}, ((its ++ [tBlk R 30 [.string nm, .int .i64 pa, .int .i64 lo, .slice sl.a sl.len sl.cap]] ++ B)[its.length]?).map Thing.holds = some (tBlk R 30 [.string nm, .int .i64 pa, .int .i64 lo, .slice sl.a sl.len sl.cap]).holds := fun {B} => by rw [mid1]; rfl
 refine h.ld (n := 3) (k := .sl) (x := sl) _ hR rfl ?_
 have e1 : IntKind.i64.wrap ((sl.len : Int) + 80) = ((code.length + 80 : Nat) : Int) := by rw [wr64 (by omega) (by omega)]; omega
 rw [e1]
 refine h.mks (f := insv) (n := 2) (x0 := ((0, 0) : Ins)) insv_len rfl (by omega) (by omega) (by omega) (by omega) ?_
 intro l w1 h hll hlc _
 rw [Int.toNat_natCast] at h hll hlc
 have h : Hp S w0 w1 (its ++ [tBlk R 30 [.string nm, .int .i64 pa, .int .i64 lo, .slice sl.a sl.len sl.cap]] ++ [tA0 A] ++ [tSl l 23 2 insv (List.replicate (code.length + 80) ((0, 0) : Ins))]) := h
 have hR3 : ∀ {B C : List Thing}, ((its ++ [tBlk R 30 [.string nm, .int .i64 pa, .int .i64 lo, .slice sl.a sl.len sl.cap]] ++ B ++ C)[its.length]?).map Thing.holds = some (tBlk R 30 [.string nm, .int .i64 pa, .int .i64 lo, .slice sl.a sl.len sl.cap]).holds := fun {B C} => by rw [List.append_assoc, mid1]; rfl
 refine h.ld (n := 3) (k := .sl) (x := sl) _ hR3 rfl ?_
 refine h.copy _ j (by simp; omega) (l := List.replicate (code.length + 80) ((0, 0) : Ins)) (news := code) List.getElem?_concat_length (u := u) (by rw [List.append_assoc, List.append_assoc, List.getElem?_append_left hjl]; exact hj) hu insv_len und28 i1 i3 (by simp [Value.oneCell']) (by omega) fun w1 h => ?_
 rw [set_last, List.drop_replicate] at h
 have e2 : code.length + 80 - sl.len = 80 := by omega
 rw [e2] at h
 refine h.ld (n := 3) (k := .sl) (x := sl) _ hR3 rfl ?_
 refine ⟨fun i m w' => ∃ q : Nat, i = ((code.length + q : Nat) : Int) ∧ q ≤ 80 ∧ m = 80 - q ∧ Hp S w0 w' (its ++ [tBlk R 30 [.string nm, .int .i64 pa, .int .i64 lo, .slice sl.a sl.len sl.cap]] ++ [tA0 A] ++ [tSl l 23 2 insv (code ++ List.replicate q ((-7, 0) : Ins) ++ List.replicate (80 - q) ((0, 0) : Ins))]), ⟨_, 0, by omega, by omega, rfl, by simpa using h⟩, ?_⟩
 clear h
 rintro i m w2 ⟨q, rfl, hq, rfl, h⟩
 by_cases hend : q = 80
 ·subst hend
  refine ifF (by simp; omega) ?_
  have h : Hp S w0 w2 (its ++ [tBlk R 30 [.string nm, .int .i64 pa, .int .i64 lo, .slice sl.a sl.len sl.cap]] ++ [tA0 A] ++ [tSl l 23 2 insv (code ++ pad7)]) := by
   simpa [pad7] using h
  refine h.ld (n := 3) (k := .sl) (x := sl) _ hR3 rfl ?_
  have hlp : (code ++ pad7).length = l.len := by rw [List.length_append]; unfold pad7; rw [List.length_replicate]; omega
  show Cut l 0 (sl.len : Int) (l.cap : Int) 2 _
  have hall : ∀ ls : List Ins, ls.length = code.length + 80 → Cut l 0 (sl.len : Int) (l.cap : Int) 2 (fun s => Hp.Reads (tSl l 23 2 insv ls) s 2 insv (ls.take code.length) ∧ s.len = code.length) := fun ls hls =>
   Hp.cutv (u := tSl l 23 2 insv ls) (l := ls) Hp.rdSl (by omega) insv_len (by omega) (by omega) (by omega) (by omega) (by omega) fun s hs q1 q2 => by
    simp only [Int.toNat_natCast, Int.toNat_zero, List.drop_zero] at hs q1 q2
    rw [← hsl] at hs q1
    exact ⟨hs, by omega⟩
  have h80 : (code ++ pad7).length = code.length + 80 := by rw [List.length_append]; unfold pad7; rw [List.length_replicate]
  obtain ⟨s, hcut, hs, q1⟩ : ∃ s : Sl, (∀ G : Sl → Prop, G s → Cut l 0 (sl.len : Int) (l.cap : Int) 2 G) ∧ (∀ ls : List Ins, ls.length = code.length + 80 → Hp.Reads (tSl l 23 2 insv ls) s 2 insv (ls.take code.length)) ∧ s.len = code.length :=
   ⟨_, fun G hG => ⟨(hall _ h80).1, (hall _ h80).2.1, (hall _ h80).2.2.1, (hall _ h80).2.2.2.1, hG⟩, fun ls hls => ((hall ls hls).2.2.2.2).1, ((hall _ h80).2.2.2.2).2⟩
  refine hcut _ ?_
  have h : Hp S w0 w2 (its ++ [tBlk R 30 [.string nm, .int .i64 pa, .int .i64 lo, .slice sl.a sl.len sl.cap]] ++ ([tA0 A] ++ [tSl l 23 2 insv (code ++ pad7)])) := by simpa using h
  refine h.st (n := 3) its.length mid1 (by simp) rfl fun w2 h => ?_
  rw [set_mid] at h
  refine h.ld0 (k := .s) (x := nm) its.length (by rw [mid1]; rfl) rfl ?_
  refine h.ld (n := 1) (k := .i .i64) (x := pa) its.length (by rw [mid1]; rfl) rfl ?_
  refine h.ld (n := 2) (k := .i .i64) (x := lo) its.length (by rw [mid1]; rfl) rfl ?_
  refine h.ld (n := 3) (k := .sl) (x := s) its.length (by rw [mid1]; rfl) rfl ?_
  have h : Hp S w0 w2 (its ++ [tR R ⟨nm, pa, lo, code⟩ s] ++ [tA0 A] ++ [tSl l 23 2 insv (code ++ pad7)]) := by simpa using h
  refine h.st0 (its ++ [tR R ⟨nm, pa, lo, code⟩ s]).length mid1 (by simp) rfl fun w2 h => ?_
  rw [set_mid] at h
  refine h.st (n := 1) (its ++ [tR R ⟨nm, pa, lo, code⟩ s]).length mid1 (by simp) rfl fun w2 h => ?_
  rw [set_mid] at h
  refine h.st (n := 2) (its ++ [tR R ⟨nm, pa, lo, code⟩ s]).length mid1 (by simp) rfl fun w2 h => ?_
  rw [set_mid] at h
  refine h.st (n := 3) (its ++ [tR R ⟨nm, pa, lo, code⟩ s]).length mid1 (by simp) rfl fun w2 h => ?_
  rw [set_mid] at h
  refine h.ld0 (k := .s) (x := nm) (its ++ [tR R ⟨nm, pa, lo, code⟩ s]).length (by rw [mid1]; rfl) rfl ?_
  refine h.ld (n := 1) (k := .i .i64) (x := pa) (its ++ [tR R ⟨nm, pa, lo, code⟩ s]).length (by rw [mid1]; rfl) rfl ?_
  refine h.ld (n := 2) (k := .i .i64) (x := lo) (its ++ [tR R ⟨nm, pa, lo, code⟩ s]).length (by rw [mid1]; rfl) rfl ?_
  refine h.ld (n := 3) (k := .sl) (x := s) (its ++ [tR R ⟨nm, pa, lo, code⟩ s]).length (by rw [mid1]; rfl) rfl ?_
  refine hK _ l w2 hs q1 ?_
  refine Hp.dropMid (mid := [tR R ⟨nm, pa, lo, code⟩ s] ++ [tR A ⟨nm, pa, lo, code⟩ s]) ?_
  simpa using h
 ·obtain ⟨r, hr⟩ : ∃ r, 80 - q = r + 1 := ⟨79 - q, by omega⟩
  rw [hr, List.replicate_succ] at h
  refine ifT (by simp; omega) ?_
  refine h.ixst2 _ (y := ((-7, 0) : Ins)) List.getElem?_concat_length (by omega) (by rw [Int.toNat_natCast]; simp) insv_len rfl rfl rfl fun w3 h => ?_
  rw [set_last, Int.toNat_natCast] at h
  have e3 : (code ++ List.replicate q ((-7, 0) : Ins) ++ ((0, 0) : Ins) :: List.replicate r ((0, 0) : Ins)).set (code.length + q) ((-7, 0) : Ins) = code ++ List.replicate (q + 1) ((-7, 0) : Ins) ++ List.replicate (80 - (q + 1)) ((0, 0) : Ins) := by
   have hlq : code.length + q = (code ++ List.replicate q ((-7, 0) : Ins)).length := by simp
   rw [hlq, List.set_append_right _ _ (Nat.le_refl _), Nat.sub_self, List.set_cons_zero, List.replicate_succ']
   have : 80 - (q + 1) = r := by omega
   rw [this]
   simp
  rw [e3] at h
  exact ⟨80 - (q + 1), by omega, q + 1, by rw [wr64 (by omega) (by omega)]; omega, by omega, rfl, h⟩
end
section
variable {S : List Nat} {w0 w : World} {its rest : List Thing}
theorem still_spec (h : Hp S w0 w its) (i j : Nat) (hij : i ≠ j) {u : Thing} {l : Sl} {nm : ByteArray} {pa lo : Int} {sl : Sl} {code : List Ins} (hi : its[i]? = some (tSl l 23 2 insv (code ++ pad7))) (hj : its[j]? = some u) (hu : Hp.Reads u sl 2 insv code) (hl : code.length ≤ 8796093022208)
  {K : Bool → World → Prop} (hK : ∀ w', Hp S w0 w' (its.set i (tSl l 23 2 insv (List.replicate (code.length + 80) ((-8, 0) : Ins)))) → K true w') : c24 l nm pa lo sl w K := by
 refine c24_of ?_
 unfold f24
 have hil := (List.getElem?_eq_some_iff.1 hi).1
 have hjl := (List.getElem?_eq_some_iff.1 hj).1
 have hsl := h.lenU j (by rw [hj]; rfl) hu
 have hp80 : pad7.length = 80 := List.length_replicate
 have hll := h.len (s := l) (e := 23) (n := 2) (f := insv) (l := code ++ pad7) i (by rw [hi]; rfl)
 rw [List.length_append, hp80] at hll
 refine h.nw fun R w1 h => ?_
 have h0 : Hp S w0 w1 (its.set i (tSl l 23 2 insv (List.replicate 0 ((-8, 0) : Ins) ++ (code ++ pad7).drop 0)) ++ [tBlk R 30 [.string nm, .int .i64 pa, .int .i64 lo, .slice sl.a sl.len sl.cap]]) := by
  have : its.set i (tSl l 23 2 insv (List.replicate 0 ((-8, 0) : Ins) ++ (code ++ pad7).drop 0)) = its := by
   simp only [List.replicate_zero, List.nil_append, List.drop_zero]
   exact Hp.set_same' hi
  rw [this]; exact h
 clear h
 refine ⟨fun ok t m w' => ok = true ∧ ∃ q : Nat, t = q ∧ q ≤ code.length + 80 ∧ m = code.length + 80 - q ∧ Hp S w0 w' (its.set i (tSl l 23 2 insv (List.replicate q ((-8, 0) : Ins) ++ (code ++ pad7).drop q)) ++ [tBlk R 30 [.string nm, .int .i64 pa, .int .i64 lo, .slice sl.a sl.len sl.cap]]), ⟨_, rfl, 0, rfl, by omega, rfl, h0⟩, ?_⟩
 clear h0
 rintro ok t m w2 ⟨rfl, q, rfl, hq, rfl, h⟩
 have hset : ∀ (x : Thing) (B : List Thing), (its.set i x ++ B)[i]? = some x := fun x B => by
  rw [List.getElem?_append_left (by rw [List.length_set]; exact hil), List.getElem?_set_self hil]
 have hgj : ∀ (x : Thing) (B : List Thing), (its.set i x ++ B)[j]? = some u := fun x B => by
  rw [List.getElem?_append_left (by rw [List.length_set]; exact hjl), List.getElem?_set_ne hij]; exact hj
 have hR : ∀ (x : Thing), ((its.set i x ++ [tBlk R 30 [.string nm, .int .i64 pa, .int .i64 lo, .slice sl.a sl.len sl.cap]])[(its.set i x).length]?).map Thing.holds = some (tBlk R 30 [.string nm, .int .i64 pa, .int .i64 lo, .slice sl.a sl.len sl.cap]).holds := fun x => by rw [List.getElem?_concat_length]; rfl
 by_cases hend : q = code.length + 80
 ·subst hend
  refine ifF (by simp; omega) ?_
  have e : (code ++ pad7).drop (code.length + 80) = [] := List.drop_of_length_le (by rw [List.length_append, hp80]; exact Nat.le_refl _)
  rw [e, List.append_nil] at h
  exact hK w2 h.front
 ·obtain ⟨x, hx⟩ : ∃ x, (code ++ pad7)[q]? = some x := ⟨(code ++ pad7)[q]'(by rw [List.length_append, hp80]; omega), List.getElem?_eq_getElem _⟩
  refine ifT (by simp; omega) ?_
  have hxl : (List.replicate q ((-8, 0) : Ins) ++ (code ++ pad7).drop q)[q]? = some x := by
   rw [List.getElem?_append_right (by simp), List.length_replicate, Nat.sub_self, List.getElem?_drop]
   exact hx
  have getl : ∀ {w' : World} {G : Int → Int → Prop}, Hp S w0 w' (its.set i (tSl l 23 2 insv (List.replicate q ((-8, 0) : Ins) ++ (code ++ pad7).drop q)) ++ [tBlk R 30 [.string nm, .int .i64 pa, .int .i64 lo, .slice sl.a sl.len sl.cap]]) → G x.1 x.2 → Ix l.a l.len (q : Int) 2 fun a => Ld (.i .i64) w' a fun r1 => Ld (.i .i64) w' (a.add 1) fun r2 => G r1 r2 := by
   intro w' G h hG
   refine h.ixr i (s := l) (l := List.replicate q ((-8, 0) : Ins) ++ (code ++ pad7).drop q) (f := insv) (n := 2) (e := 23) (by rw [hset]; rfl) (by omega) (y := x) (by rw [Int.toNat_natCast]; exact hxl) insv_len fun ad hc => ?_
   refine ldR0 (k := .i .i64) (x := x.1) (hc 0 (by omega)) rfl ?_
   exact ldR (k := .i .i64) (x := x.2) (hc 1 (by omega)) rfl hG
  refine ⟨fun b w' => b = true ∧ Hp S w0 w' (its.set i (tSl l 23 2 insv (List.replicate q ((-8, 0) : Ins) ++ (code ++ pad7).drop q)) ++ [tBlk R 30 [.string nm, .int .i64 pa, .int .i64 lo, .slice sl.a sl.len sl.cap]]), ?_, ?_⟩
  ·refine h.dr fun w2 h => ?_
   refine ifT rfl ?_
   refine h.ld (n := 3) (k := .sl) (x := sl) _ (hR _) rfl ?_
   by_cases hql : q < code.length
   ·refine ifT (by simp; omega) ?_
    refine getl h ?_
    refine h.ld (n := 3) (k := .sl) (x := sl) _ (hR _) rfl ?_
    have hxc : code[q]? = some x := by rw [List.getElem?_append_left hql] at hx; exact hx
    obtain ⟨O, hO⟩ := h.see (hgj _ _)
    obtain ⟨o, hRd⟩ := hu.rd hO
    refine SlR.ix insv_len hRd (by omega) (x := x) (by rw [Int.toNat_natCast]; exact hxc) fun ad hc => ?_
    refine ldR0 (k := .i .i64) (x := x.1) (hc 0 (by omega)) rfl ?_
    refine ldR (k := .i .i64) (x := x.2) (hc 1 (by omega)) rfl ?_
    refine insEq ?_
    exact ifT (by simp) ⟨rfl, h⟩
   ·refine ifF (by simp; omega) ?_
    refine h.ld (n := 3) (k := .sl) (x := sl) _ (hR _) rfl ?_
    refine ifT (by simp; omega) ?_
    refine getl h ?_
    refine insEq ⟨?_, h⟩
    have hx7 : x = (-7, 0) := by
     rw [List.getElem?_append_right (by omega)] at hx
     exact List.eq_of_mem_replicate (List.mem_of_getElem? hx)
    rw [hx7]; rfl
  clear h
  rintro b w3 ⟨rfl, h⟩
  refine h.ixst2 i (y := ((-8, 0) : Ins)) (hset _ _) (by omega) (by rw [Int.toNat_natCast]; exact (List.getElem?_eq_some_iff.1 hxl).1) insv_len rfl rfl rfl fun w4 h => ?_
  rw [List.set_append_left _ _ (by rw [List.length_set]; exact hil), List.set_set, Int.toNat_natCast] at h
  have e3 : (List.replicate q ((-8, 0) : Ins) ++ (code ++ pad7).drop q).set q ((-8, 0) : Ins) = List.replicate (q + 1) ((-8, 0) : Ins) ++ (code ++ pad7).drop (q + 1) := by
   rw [drop_cons hx]
   have : q = (List.replicate q ((-8, 0) : Ins)).length := by simp
   conv => lhs; arg 2; rw [this]
   rw [List.set_append_right _ _ (Nat.le_refl _), Nat.sub_self, List.set_cons_zero, List.replicate_succ']
   simp
  rw [e3] at h
  exact ⟨code.length + 80 - (q + 1), by omega, rfl, q + 1, by rw [wr64 (by omega) (by omega)]; omega, by omega, rfl, h⟩
end
abbrev slv (s : Sl) : List Value := [.slice s.a s.len s.cap]
theorem und50 : Tryz.prog.underlying 50 = some (.slice 28) := by kernel_rfl
theorem inf28 : ∃ inf : TypeInfo, Tryz.prog.info? 28 = some inf ∧ inf.zero = some (.slice none 0 0) ∧ inf.size = 1 ∧ inf.bytes = 24 := infoP (by kernel_rfl)
abbrev y0 : Ins := (-1000, 0)
section
variable {S : List Nat} {w0 w : World} {its rest : List Thing}
end
end Go.Proofs.YtmfgofbcnlkolaaGreatDoor.F
end

section
namespace Go.Proofs.YtmfgofbcnlkolaaGreatDoor.FW
open F
open Go Go.Den Go.Proofs Go.RowKit
theorem dec_rt2 {w : World} {B m : Nat} {ci : List Value} (hl : ci.length = 4) (h : RdV Tryz.prog w B m 30 ci) : ∃ x : RV, ci = rtv x ∧ x.r.Ok ∧ (∃ o, SlR w x.sl 2 insv x.code o) ∧ x.nm.size ≤ 140737488355328 ∧ x.code.length ≤ 8796093022208 := by
 obtain ⟨x, h1, h2, h3, h4, _, _⟩ := dec_rt hl h
 obtain ⟨_, q, hf⟩ := rd_struct und30s h
 obtain ⟨s, l, e3, ⟨o, h6⟩, h7, _⟩ := dec_code (rd_field hf 3 (ft := 28) (off := 3) (sz := 1) (by kernel_rfl) cel28)
 subst h1
 obtain ⟨o', h3'⟩ := h3
 have e4 : s.len = x.sl.len := by
  simp only [rtv, List.drop_succ_cons, List.drop_zero, List.take_succ_cons, List.take_zero, List.cons.injEq, Value.slice.injEq, and_true] at e3
  exact e3.2.1.symm
 have e5 := h6.len
 have e6 := h3'.len
 exact ⟨x, rfl, h2, ⟨o', h3'⟩, h4, by omega⟩
end Go.Proofs.YtmfgofbcnlkolaaGreatDoor.FW
end

section
namespace Go.Proofs.YtmfgofbcnlkolaaGreatDoor.F
open Go Go.Den Go.Proofs
theorem sy_eq {a b : SY} : a = b ↔ a.A = b.A ∧ a.B = b.B ∧ a.C = b.C ∧ a.D = b.D ∧ a.run = b.run := by
 obtain ⟨a1, a2, a3, a4, a5⟩ := a
 obtain ⟨b1, b2, b3, b4, b5⟩ := b
 simp only [SY.mk.injEq]
theorem map_getE {α β : Type} {f : α → β} {l : List α} {k : Nat} {x : α} (h : l[k]? = some x) : (l.map f)[k]? = some (f x) := by rw [List.getElem?_map, h]; rfl
theorem take_eq_step {α : Type} {l m : List α} {k : Nat} {x y : α} (h : l.take k = m.take k) (hx : l[k]? = some x) (hy : m[k]? = some y) (e : x = y) : l.take (k + 1) = m.take (k + 1) := by
 rw [List.take_add_one, List.take_add_one, hx, hy, h, e]
theorem ne_at {α : Type} {l m : List α} {k : Nat} {x y : α} (hx : l[k]? = some x) (hy : m[k]? = some y) (e : x ≠ y) : l ≠ m := fun h => by
 rw [h, hy] at hx
 exact e (Option.some.inj hx).symm
set_option maxHeartbeats 4000000 in
theorem programs_spec {w : World} {s1 s2 t1 t2 : Sl} {p q : PG} (hs : RdS w s1 p.sys) (hr : RdR w s2 p.fns) (hs' : RdS w t1 q.sys) (hr' : RdR w t2 q.fns) (hok : p.Ok) (hn1 : p.sys.length ≤ 140737488355328) (hn2 : p.fns.length ≤ 140737488355328) {K : Bool → World → Prop}
  (hK : ∀ (r : Bool) w', (r = true ↔ p = q) → Hp [] w w' [] → K r w') : c18 s1 s2 t1 t2 w K := by
 refine c18_of ?_
 unfold f18
 obtain ⟨ss, fs⟩ := p
 obtain ⟨ss', fs'⟩ := q
 obtain ⟨xs, O1, rfl, h1⟩ := hs
 obtain ⟨ys, O2, rfl, h2⟩ := hr.thing
 obtain ⟨xs', O3, rfl, h3⟩ := hs'
 obtain ⟨ys', O4, rfl, h4⟩ := hr'.thing
 rw [List.length_map] at hn1 hn2
 have hS : ∀ x ∈ xs, x.m.Ok := fun x hx => hok.sys _ (List.mem_map_of_mem hx)
 have hF : ∀ y ∈ ys, y.r.Ok := fun y hy => hok.fns _ (List.mem_map_of_mem hy)
 have h : Hp [] w w [(tSys s1 xs).ro, (tRts s2 ys).ro, (tSys t1 xs').ro, (tRts t2 ys').ro] := ((((Hp.init w).addRo h1 (by simp)).addRo h2 (by simp)).addRo h3 (by simp)).addRo h4 (by simp)
 have e1 := h.lenU (u := (tSys s1 xs).ro) 0 rfl sys_reads
 have e2 := h.lenU (u := (tRts s2 ys).ro) 1 rfl rts_reads
 have e3 := h.lenU (u := (tSys t1 xs').ro) 2 rfl sys_reads
 have e4 := h.lenU (u := (tRts t2 ys').ro) 3 rfl rts_reads
 refine h.nw fun ab w1 h => ?_
 refine h.nw fun bb w1 h => ?_
 obtain ⟨its, hits⟩ : ∃ its, its = [(tSys s1 xs).ro, (tRts s2 ys).ro, (tSys t1 xs').ro, (tRts t2 ys').ro, tBlk ab 37 [.slice s1.a s1.len s1.cap, .slice s2.a s2.len s2.cap], tBlk bb 37 [.slice t1.a t1.len t1.cap, .slice t2.a t2.len t2.cap]] := ⟨_, rfl⟩
 have h : Hp [] w w1 its := by rw [hits]; exact h
 have bare : ∀ {w' : World}, Hp [] w w' its → Hp [] w w' [] := fun {w'} h => frNil h.fr
 have no : ∀ {w' : World}, ¬ ((⟨xs.map SV.m, ys.map RV.r⟩ : PG) = ⟨xs'.map SV.m, ys'.map RV.r⟩) → Hp [] w w' its → K false w' := fun {w'} hn h => hK false w' ⟨(fun e => by cases e), fun e => absurd e hn⟩ (bare h)
 have la : ∀ {w' : World} {B : List Thing} {G : Sl → Prop}, Hp [] w w' (its ++ B) → G s1 → Ld .sl w' ⟨ab, 0, none⟩ G := fun {w' B G} h hG => by rw [hits] at h; exact h.ld0 (k := .sl) (x := s1) 4 rfl rfl hG
 have la1 : ∀ {w' : World} {B : List Thing} {G : Sl → Prop}, Hp [] w w' (its ++ B) → G s2 → Ld .sl w' ((⟨ab, 0, none⟩ : Addr).add 1) G := fun {w' B G} h hG => by rw [hits] at h; exact h.ld (n := 1) (k := .sl) (x := s2) 4 rfl rfl hG
 have lb : ∀ {w' : World} {B : List Thing} {G : Sl → Prop}, Hp [] w w' (its ++ B) → G t1 → Ld .sl w' ⟨bb, 0, none⟩ G := fun {w' B G} h hG => by rw [hits] at h; exact h.ld0 (k := .sl) (x := t1) 5 rfl rfl hG
 have lb1 : ∀ {w' : World} {B : List Thing} {G : Sl → Prop}, Hp [] w w' (its ++ B) → G t2 → Ld .sl w' ((⟨bb, 0, none⟩ : Addr).add 1) G := fun {w' B G} h hG => by rw [hits] at h; exact h.ld (n := 1) (k := .sl) (x := t2) 5 rfl rfl hG
 have app0 : ∀ {w' : World}, Hp [] w w' its → Hp [] w w' (its ++ []) := fun h => by rw [List.append_nil]; exact h
 refine ⟨fun w' => xs.length = xs'.length ∧ ys.length = ys'.length ∧ Hp [] w w' its, ?_, ?_⟩
 ·refine la (app0 h) (lb (app0 h) ?_)
  by_cases hl : xs.length = xs'.length
  ·refine ifF (by simp; omega) ?_
   refine la1 (app0 h) (lb1 (app0 h) ?_)
   by_cases hl2 : ys.length = ys'.length
   ·exact ifF (by simp; omega) ⟨hl, hl2, h⟩
   ·exact ifT (by simp; omega) (no (fun e => hl2 (by have := congrArg (fun p : PG => p.fns.length) e; simpa using this)) h)
  ·exact ifT (by simp; omega) (no (fun e => hl (by have := congrArg (fun p : PG => p.sys.length) e; simpa using this)) h)
 clear h
 rintro w2 ⟨hl, hl2, h⟩
 refine ⟨fun i m w' => ∃ k : Nat, i = k ∧ k ≤ xs.length ∧ m = xs.length - k ∧ (xs.map SV.m).take k = (xs'.map SV.m).take k ∧ Hp [] w w' its, ⟨_, 0, rfl, by omega, rfl, rfl, h⟩, ?_⟩
 clear h
 rintro i m w3 ⟨k, rfl, hk, rfl, ht, h⟩
 refine la (app0 h) ?_
 by_cases hend : k = xs.length
 ·refine ifF (by simp; omega) ?_
  have hxx : xs.map SV.m = xs'.map SV.m := by
   rw [List.take_of_length_le (by simp; omega), List.take_of_length_le (by simp; omega)] at ht
   exact ht
  refine ⟨fun i m w' => ∃ k : Nat, i = k ∧ k ≤ ys.length ∧ m = ys.length - k ∧ (ys.map RV.r).take k = (ys'.map RV.r).take k ∧ Hp [] w w' its, ⟨_, 0, rfl, by omega, rfl, rfl, h⟩, ?_⟩
  clear h
  rintro i m w4 ⟨j, rfl, hj, rfl, ht2, h⟩
  refine la1 (app0 h) ?_
  by_cases hend2 : j = ys.length
  ·refine ifF (by simp; omega) ?_
   have hyy : ys.map RV.r = ys'.map RV.r := by
    rw [List.take_of_length_le (by simp; omega), List.take_of_length_le (by simp; omega)] at ht2
    exact ht2
   exact hK true w4 ⟨fun _ => by rw [hxx, hyy], fun _ => rfl⟩ (bare h)
  ·obtain ⟨y, hy⟩ : ∃ y, ys[j]? = some y := ⟨ys[j]'(by omega), List.getElem?_eq_getElem (by omega)⟩
   obtain ⟨z, hz⟩ : ∃ z, ys'[j]? = some z := ⟨ys'[j]'(by omega), List.getElem?_eq_getElem (by omega)⟩
   have hym := List.mem_of_getElem? hy
   have hzm := List.mem_of_getElem? hz
   refine ifT (by simp; omega) ?_
   refine h.dr fun w4 h => ?_
   refine la1 (app0 h) ?_
   refine rts_ld h 1 (by rw [hits]; rfl) hy ?_
   refine lb1 (app0 h) ?_
   refine rts_ld h 3 (by rw [hits]; rfl) hz ?_
   refine routines_spec (x := y) (y := z) h 1 3 (u := (tRts s2 ys).ro) (v := (tRts t2 ys').ro) (by rw [hits]; rfl) (rts_code hym) (by rw [hits]; rfl) (rts_code hzm) (hF y hym).len fun ok w4 hok h => ?_
   by_cases he : y.r = z.r
   ·obtain rfl := hok.2 he
    refine ifF (by decide) ?_
    exact ⟨ys.length - (j + 1), by omega, j + 1, by rw [wr64 (by omega) (by omega)]; omega, by omega, rfl, take_eq_step ht2 (map_getE hy) (map_getE hz) he, h⟩
   ·have : ok = false := by
     cases ok
     ·rfl
     ·exact absurd (hok.1 rfl) he
    subst this
    exact ifT rfl (no (fun e => ne_at (map_getE (f := RV.r) hy) (map_getE hz) he (congrArg PG.fns e)) h)
 ·obtain ⟨x, hx⟩ : ∃ x, xs[k]? = some x := ⟨xs[k]'(by omega), List.getElem?_eq_getElem (by omega)⟩
  obtain ⟨z, hz⟩ : ∃ z, xs'[k]? = some z := ⟨xs'[k]'(by omega), List.getElem?_eq_getElem (by omega)⟩
  have hxm := List.mem_of_getElem? hx
  have hzm := List.mem_of_getElem? hz
  have hxl := (hS x hxm).lens
  refine ifT (by simp; omega) ?_
  refine la (app0 h) ?_
  refine sys_ld h 0 (by rw [hits]; rfl) hx ?_
  refine sys_copy h x fun xb w3 h => ?_
  refine lb h ?_
  refine sys_ld h 2 (by rw [hits]; rfl) hz ?_
  refine sys_copy h z fun yb w3 h => ?_
  have h : Hp [] w w3 (its ++ ([tBlk xb 54 (syv x)] ++ [tBlk yb 54 (syv z)])) := by rw [← List.append_assoc]; exact h
  have g0 : ∀ {w' : World}, Hp [] w w' (its ++ ([tBlk xb 54 (syv x)] ++ [tBlk yb 54 (syv z)])) → Hp [] w w' its := fun h => h.front
  obtain ⟨its2, hits2⟩ : ∃ its2, its2 = its ++ ([tBlk xb 54 (syv x)] ++ [tBlk yb 54 (syv z)]) := ⟨_, rfl⟩
  rw [← hits2] at h g0
  have n6 : its.length = 6 := by rw [hits]; rfl
  have i0 : (its2[0]?).map Thing.holds = some (tSys s1 xs).ro.holds := by rw [hits2, hits]; rfl
  have i2 : (its2[2]?).map Thing.holds = some (tSys t1 xs').ro.holds := by rw [hits2, hits]; rfl
  have i6 : (its2[6]?).map Thing.holds = some (tBlk xb 54 (syv x)).holds := by rw [hits2, hits]; rfl
  have i7 : (its2[7]?).map Thing.holds = some (tBlk yb 54 (syv z)).holds := by rw [hits2, hits]; rfl
  refine ⟨fun one w' => (one = true ↔ x.A = z.A ∧ x.B = z.B ∧ x.C = z.C ∧ x.D = z.D) ∧ Hp [] w w' its2, ?_, ?_⟩
  ·refine h.ld0 (k := .sl) (x := x.a) 6 i6 rfl ?_
   refine h.ld0 (k := .sl) (x := z.a) 7 i7 rfl ?_
   refine setsEq_spec h 0 2 i0 (sys_set hxm (y := (x.a, x.A)) (by simp [SV.sls])) i2 (sys_set hzm (y := (z.a, z.A)) (by simp [SV.sls])) (hxl _ (by simp [SV.m, SY.sets])) fun w3 h => ?_
   by_cases d1 : x.A = z.A
   ·refine ifT (by simpa using d1) ?_
    refine h.ld (n := 1) (k := .sl) (x := x.b) 6 i6 rfl ?_
    refine h.ld (n := 1) (k := .sl) (x := z.b) 7 i7 rfl ?_
    refine setsEq_spec h 0 2 i0 (sys_set hxm (y := (x.b, x.B)) (by simp [SV.sls])) i2 (sys_set hzm (y := (z.b, z.B)) (by simp [SV.sls])) (hxl _ (by simp [SV.m, SY.sets])) fun w3 h => ?_
    by_cases d2 : x.B = z.B
    ·refine ifT (by simpa using d2) ?_
     refine h.ld (n := 2) (k := .sl) (x := x.c) 6 i6 rfl ?_
     refine h.ld (n := 2) (k := .sl) (x := z.c) 7 i7 rfl ?_
     refine setsEq_spec h 0 2 i0 (sys_set hxm (y := (x.c, x.C)) (by simp [SV.sls])) i2 (sys_set hzm (y := (z.c, z.C)) (by simp [SV.sls])) (hxl _ (by simp [SV.m, SY.sets])) fun w3 h => ?_
     by_cases d3 : x.C = z.C
     ·refine ifT (by simpa using d3) ?_
      refine h.ld (n := 3) (k := .sl) (x := x.d) 6 i6 rfl ?_
      refine h.ld (n := 3) (k := .sl) (x := z.d) 7 i7 rfl ?_
      refine setsEq_spec h 0 2 i0 (sys_set hxm (y := (x.d, x.D)) (by simp [SV.sls])) i2 (sys_set hzm (y := (z.d, z.D)) (by simp [SV.sls])) (hxl _ (by simp [SV.m, SY.sets])) fun w3 h => ?_
      exact ⟨by simp [d1, d2, d3], h⟩
     ·exact ifF (by simpa using d3) ⟨by simp [d3], h⟩
    ·exact ifF (by simpa using d2) ⟨by simp [d2], h⟩
   ·exact ifF (by simpa using d1) ⟨by simp [d1], h⟩
  clear h
  rintro one w5 ⟨hone, h⟩
  refine h.lda (n := 4) (m := 0) (k := .s) (x := x.run.nm) 6 i6 rfl ?_
  refine h.lda (n := 4) (m := 1) (k := .i .i64) (x := x.run.pa) 6 i6 rfl ?_
  refine h.lda (n := 4) (m := 2) (k := .i .i64) (x := x.run.lo) 6 i6 rfl ?_
  refine h.lda (n := 4) (m := 3) (k := .sl) (x := x.run.sl) 6 i6 rfl ?_
  refine h.lda (n := 4) (m := 0) (k := .s) (x := z.run.nm) 7 i7 rfl ?_
  refine h.lda (n := 4) (m := 1) (k := .i .i64) (x := z.run.pa) 7 i7 rfl ?_
  refine h.lda (n := 4) (m := 2) (k := .i .i64) (x := z.run.lo) 7 i7 rfl ?_
  refine h.lda (n := 4) (m := 3) (k := .sl) (x := z.run.sl) 7 i7 rfl ?_
  refine routines_spec (x := x.run) (y := z.run) h 0 2 i0 (sys_code hxm) i2 (sys_code hzm) (hS x hxm).run.len fun two w5 h2 h => ?_
  by_cases he : x.m = z.m
  ·have he' := sy_eq.1 he
   obtain rfl := hone.2 ⟨he'.1, he'.2.1, he'.2.2.1, he'.2.2.2.1⟩
   obtain rfl := h2.2 he'.2.2.2.2
   refine ifF (by decide) ?_
   exact ⟨xs.length - (k + 1), by omega, k + 1, by rw [wr64 (by omega) (by omega)]; omega, by omega, rfl, take_eq_step ht (map_getE hx) (map_getE hz) he, g0 h⟩
  ·have hb : cond (!one) true (!two) = true := by
    cases h1 : one
    ·rfl
    ·cases h2' : two
     ·rfl
     ·exfalso
      have a1 := hone.1 h1
      exact he (sy_eq.2 ⟨a1.1, a1.2.1, a1.2.2.1, a1.2.2.2, h2.1 h2'⟩)
   exact ifT hb (no (fun e => ne_at (map_getE (f := SV.m) hx) (map_getE hz) he (congrArg PG.sys e)) (g0 h))
def GoodI (x : Ins) : Prop := insOk x = true ∧ -9223372036854775808 ≤ x.2 ∧ x.2 ≤ 9223372036854775807
def GoodR (r : RT) : Prop := rtOk r = true ∧ ∀ x ∈ r.code, -9223372036854775808 ≤ x.2 ∧ x.2 ≤ 9223372036854775807
theorem GoodR.ins {r : RT} (h : GoodR r) : ∀ x ∈ r.code, GoodI x := fun x hx => ⟨by
 have := (rtOk_iff.1 h.1).1
 unfold codeOk at this
 exact List.all_eq_true.1 this x hx, h.2 x hx⟩
def GoodS (s : SY) : Prop := (∀ x ∈ s.sets, risesM x = true) ∧ GoodR s.run
theorem GoodR.of {r : RT} (h : rtOk r = true) (hr : r.Ok) : GoodR r := ⟨h, hr.rng⟩
theorem code_le {t : List RT} {r : RT} (hr : r ∈ t) : r.code.length ≤ codeSum t := by
 unfold codeSum
 induction t with
 | nil => cases hr
 | cons y t ih =>
  rw [List.map_cons, List.sum_cons]
  rcases List.mem_cons.1 hr with rfl | hr
  ·omega
  ·have := ih hr; omega
theorem putU_bytes {n : Int} (h : 0 ≤ n) : Bytes (putU n) := putF_byte 10 n h
theorem bytes_app {a b : List Int} (ha : Bytes a) (hb : Bytes b) : Bytes (a ++ b) := fun x hx => (List.mem_append.1 hx).elim (ha x) (hb x)
theorem bytes_flat {α : Type} {f : α → List Int} {l : List α} (h : ∀ x ∈ l, Bytes (f x)) : Bytes (l.flatMap f) := fun y hy => by
 obtain ⟨x, hx, hy⟩ := List.mem_flatMap.1 hy
 exact h x hx y hy
theorem ins_bytes {x : Ins} (h : GoodI x) : Bytes (encIns x) := by
 have h1 := (insOk_iff.1 h.1).1
 unfold isOpM at h1
 rw [decide_eq_true_iff] at h1
 unfold encIns
 refine bytes_app (putU_bytes (by omega)) ?_
 split
 ·exact putU_bytes (zig_range h.2.1 h.2.2).1
 ·intro x hx; cases hx
theorem rt_bytes {r : RT} (h : GoodR r) : Bytes (encRt r) := by
 obtain ⟨_, _, h3⟩ := rtOk_iff.1 h.1
 unfold encRt encT
 exact bytes_app (bytes_app (bytes_app (bytes_app (bytes_app (putU_bytes (by omega)) (strL_bytes _)) (putU_bytes h3.1)) (putU_bytes (by omega))) (putU_bytes (by omega))) (bytes_flat fun x hx => ins_bytes (h.ins x hx))
theorem set_bytes {l : List Int} (h : risesM l = true) : Bytes (encSet l) := by
 unfold encSet
 exact bytes_app (putU_bytes (by omega)) (bytes_flat fun x hx => putU_bytes (by have := risesF_rng (by decide) h x hx; omega))
theorem sy_bytes {s : SY} (h : GoodS s) : Bytes (encSy s) := by
 unfold encSy
 exact bytes_app (bytes_flat fun x hx => set_bytes (h.1 x hx)) (rt_bytes h.2)
theorem enc_bytes_len {p : PG} (hm : mayM p = true) (hok : p.Ok) : Bytes (encPg p) ∧ (encPg p).length ≤ 10000000 := by
 obtain ⟨m1, m2, m3, m4, m5⟩ := mayM_iff.1 hm
 unfold PG.rts at m5
 rw [sum_append] at m5
 have gs : ∀ x ∈ p.sys, GoodS x := fun x hx => ⟨(syOk_iff.1 (m3 x hx)).1, GoodR.of (syOk_iff.1 (m3 x hx)).2 (hok.sys x hx).run⟩
 have gr : ∀ x ∈ p.fns, GoodR x := fun x hx => GoodR.of (m4 x hx) (hok.fns x hx)
 unfold encPg
 refine ⟨bytes_app (bytes_app (bytes_app (putU_bytes (by omega)) (bytes_flat fun x hx => sy_bytes (gs x hx))) (putU_bytes (by omega))) (bytes_flat fun x hx => rt_bytes (gr x hx)), ?_⟩
 have l1 := flat_len (f := encSy) (B := 100000) (l := p.sys) fun x hx => by
  have e := code_le (List.mem_map.2 ⟨x, hx, rfl⟩ : x.run ∈ p.sys.map SY.run)
  have e2 := encRt_len (r := x.run) (rtOk_iff.1 (gs x hx).2.1).2.1.2
  have e3 := flat_len (f := encSet) (B := 130) (l := x.sets) fun y hy => by
   have := encSet_len y
   have := risesM_len ((gs x hx).1 y hy)
   omega
  have e4 : x.sets.length = 4 := rfl
  unfold encSy
  rw [List.length_append]
  omega
 have l2 := flat_len (f := encRt) (B := 100000) (l := p.fns) fun x hx => by
  have e := code_le hx
  have e2 := encRt_len (r := x) (rtOk_iff.1 (gr x hx).1).2.1.2
  omega
 have l3 := putU_len (p.sys.length : Int)
 have l4 := putU_len (p.fns.length : Int)
 simp only [List.length_append]
 omega
end Go.Proofs.YtmfgofbcnlkolaaGreatDoor.F
end

section
namespace Go.Proofs.YtmfgofbcnlkolaaGreatDoor.FW
open F
open Go Go.Den Go.Proofs Go.RowKit
theorem und37s : Tryz.prog.underlying 37 = some (.struct (Tryz.prog.fieldsOf 37)) := by kernel_rfl
theorem und54s : Tryz.prog.underlying 54 = some (.struct (Tryz.prog.fieldsOf 54)) := by kernel_rfl
theorem cel24 : Tryz.prog.cellsOf 24 = 1 := by kernel_rfl
theorem cel35 : Tryz.prog.cellsOf 35 = 1 := by kernel_rfl
theorem cel37 : Tryz.prog.cellsOf 37 = 2 := by kernel_rfl
theorem cel52 : Tryz.prog.cellsOf 52 = 1 := by kernel_rfl
theorem cel54 : Tryz.prog.cellsOf 54 = 8 := by kernel_rfl
theorem byt3 : Tryz.prog.bytesOf 3 = 8 := by kernel_rfl
theorem byt54 : Tryz.prog.bytesOf 54 = 152 := by kernel_rfl
theorem dec_int {w : World} {B m : Nat} {ci : List Value} (hl : ci.length = 1) (h : RdV Tryz.prog w B m 3 ci) : ∃ x : Int, ci = iv x ∧ True := by
 obtain ⟨m0, e0, h0⟩ := rd_int undI3 h
 exact ⟨m0, e0, trivial⟩
theorem dec_set {w : World} {B n : Nat} {cs : List Value} (h : RdV Tryz.prog w B n 52 cs) : ∃ (s : Sl) (l : List Int), cs = [.slice s.a s.len s.cap] ∧ (∃ o, SlR w s 1 iv l o) ∧ l.length ≤ 17592186044416 := by
 obtain ⟨s, l, o, h1, h2, h3, hb, h4, h5⟩ := rd_slice (f := iv) (G := fun _ => True) und52 cel3 (by omega) (fun m ci hl hr => dec_int hl hr) h
 rw [byt3] at hb
 unfold reachBytes at hb
 exact ⟨s, l, h1, ⟨o, h2⟩, by omega⟩
theorem dec_sy {w : World} {B m : Nat} {ci : List Value} (hl : ci.length = 8) (h : RdV Tryz.prog w B m 54 ci) : ∃ x : SV, ci = syv x ∧ (x.m.Ok ∧ x.run.code.length ≤ 8796093022208 ∧ (∀ y ∈ x.sls, y.2.length ≤ 17592186044416) ∧ SVrd w (List.range w.heap.size) x) := by
 obtain ⟨_, q, hf⟩ := rd_struct und54s h
 match ci, hl with
 | [c0, c1, c2, c3, c4, c5, c6, c7], _ =>
  obtain ⟨s0, l0, e0, ⟨o0, k0⟩, b0⟩ := dec_set (rd_field hf 0 (ft := 52) (off := 0) (sz := 1) (by kernel_rfl) cel52)
  obtain ⟨s1, l1, e1, ⟨o1, k1⟩, b1⟩ := dec_set (rd_field hf 1 (ft := 52) (off := 1) (sz := 1) (by kernel_rfl) cel52)
  obtain ⟨s2, l2, e2, ⟨o2, k2⟩, b2⟩ := dec_set (rd_field hf 2 (ft := 52) (off := 2) (sz := 1) (by kernel_rfl) cel52)
  obtain ⟨s3, l3, e3, ⟨o3, k3⟩, b3⟩ := dec_set (rd_field hf 3 (ft := 52) (off := 3) (sz := 1) (by kernel_rfl) cel52)
  obtain ⟨x, e4, q1, ⟨o4, k4⟩, q2, q3⟩ := dec_rt2 (by simp) (rd_field hf 4 (ft := 30) (off := 4) (sz := 4) (by kernel_rfl) cel30)
  simp only [List.drop_zero, List.drop_succ_cons, List.take_succ_cons, List.take_zero, List.cons.injEq, and_true] at e0 e1 e2 e3 e4
  obtain ⟨e4, e5, e6, e7⟩ := e4
  subst e0 e1 e2 e3 e4 e5 e6 e7
  have rg : ∀ {o : List Nat}, (∀ k ∈ o, k < w.heap.size) → ∀ k ∈ o, k ∈ List.range w.heap.size := fun h k hk => List.mem_range.2 (h k hk)
  refine ⟨⟨s0, s1, s2, s3, l0, l1, l2, l3, x⟩, rfl, ⟨q1, ?_⟩, q3, ?_, ⟨o0, k0, rg k0.lt⟩, ⟨o1, k1, rg k1.lt⟩, ⟨o2, k2, rg k2.lt⟩, ⟨o3, k3, rg k3.lt⟩, o4, k4, rg k4.lt⟩
  ·intro l hl
   simp only [SV.m, SY.sets, List.mem_cons, List.not_mem_nil, or_false] at hl
   rcases hl with rfl | rfl | rfl | rfl <;> omega
  ·intro y hy
   simp only [SV.sls, List.mem_cons, List.not_mem_nil, or_false] at hy
   rcases hy with rfl | rfl | rfl | rfl <;> assumption
theorem dec_pg {w : World} {B m : Nat} {ci : List Value} (hl : ci.length = 2) (h : RdV Tryz.prog w B m 37 ci) : ∃ (s1 s2 : Sl) (xs : List SV) (ys : List RV), ci = [.slice s1.a s1.len s1.cap, .slice s2.a s2.len s2.cap] ∧
  (xs.length ≤ 1000000000000 ∧ xs.length ≤ B) ∧ (ys.length ≤ 2600000000000 ∧ ys.length ≤ B) ∧ (∀ x ∈ xs, x.m.Ok ∧ x.run.code.length ≤ 8796093022208 ∧ (∀ y ∈ x.sls, y.2.length ≤ 17592186044416)) ∧ (∀ y ∈ ys, y.r.Ok ∧ y.code.length ≤ 8796093022208) ∧
  RdS w s1 (xs.map SV.m) ∧ RdR w s2 (ys.map RV.r) ∧ (tSys s1 xs).holds w (List.range w.heap.size) ∧ (tRts s2 ys).holds w (List.range w.heap.size) := by
 obtain ⟨_, q, hf⟩ := rd_struct und37s h
 match ci, hl with
 | [c0, c1], _ =>
  obtain ⟨s1, xs, o1, e1, k1, k2, kb, k3, k4⟩ := rd_slice (f := syv) (G := fun x : SV => x.m.Ok ∧ x.run.code.length ≤ 8796093022208 ∧ (∀ y ∈ x.sls, y.2.length ≤ 17592186044416) ∧ SVrd w (List.range w.heap.size) x) und35 cel54 (by omega) (fun m ci hl hr => dec_sy hl hr) (rd_field hf 0 (ft := 35) (off := 0) (sz := 1) (by kernel_rfl) cel35)
  obtain ⟨s2, ys, o2, e2, m1, m2, mb, m3, m4⟩ := rd_slice (f := rtv) (G := fun x : RV => x.r.Ok ∧ x.code.length ≤ 8796093022208 ∧ ∃ o, SlR w x.sl 2 insv x.code o) und24 cel30 (by omega) (fun m ci hl hr => by
   obtain ⟨x, g1, g2, g3, g4, g5⟩ := dec_rt2 hl hr
   exact ⟨x, g1, g2, g5, g3⟩) (rd_field hf 1 (ft := 24) (off := 1) (sz := 1) (by kernel_rfl) cel24)
  simp only [List.drop_zero, List.drop_succ_cons, List.take_succ_cons, List.take_zero, List.cons.injEq, and_true] at e1 e2
  subst e1 e2
  rw [byt54] at kb
  rw [byt30] at mb
  unfold reachBytes at kb mb
  have rg : ∀ {o : List Nat}, (∀ k ∈ o, k < w.heap.size) → ∀ k ∈ o, k ∈ List.range w.heap.size := fun h k hk => List.mem_range.2 (h k hk)
  have hS : (tSys s1 xs).holds w (List.range w.heap.size) := ⟨fun k hk => List.mem_range.1 hk, ⟨o1, k1, rg k1.lt⟩, fun x hx => (k2 x hx).2.2.2⟩
  have hR : (tRts s2 ys).holds w (List.range w.heap.size) := ⟨fun k hk => List.mem_range.1 hk, ⟨o2, m1, rg m1.lt⟩, fun x hx => by
   obtain ⟨o, ho⟩ := (m2 x hx).2.2
   exact ⟨o, ho, rg ho.lt⟩⟩
  exact ⟨s1, s2, xs, ys, rfl, ⟨by omega, k3⟩, ⟨by omega, m3⟩, fun x hx => ⟨(k2 x hx).1, (k2 x hx).2.1, (k2 x hx).2.2.1⟩, fun y hy => ⟨(m2 y hy).1, (m2 y hy).2.1⟩, ⟨xs, _, rfl, hS⟩, RdR.of hR, hS, hR⟩
end Go.Proofs.YtmfgofbcnlkolaaGreatDoor.FW
end

section
namespace Go.Proofs.YtmfgofbcnlkolaaGreatDoor.F
open Go Go.Den Go.Proofs
theorem und51 : Tryz.prog.underlying 51 = some (.slice 52) := by kernel_rfl
theorem inf52 : ∃ inf : TypeInfo, Tryz.prog.info? 52 = some inf ∧ inf.zero = some (.slice none 0 0) ∧ inf.size = 1 ∧ inf.bytes = 24 := infoP (by kernel_rfl)
abbrev SC := Sl × List Ins
abbrev siv (y : SI) : List Value := slv y.1
abbrev scv (y : SC) : List Value := slv y.1
abbrev subC (y : SC) : Thing := tSl y.1 23 2 insv y.2
abbrev tCs (s : Sl) (l : List SC) : Thing := tNest 28 1 scv subC id s l
abbrev tIs (s : Sl) (l : List SI) : Thing := tNest 52 1 siv tS id s l
def padI : List Int := List.replicate 80 (-7)
def RelI (r m : Sl) (n : Nat) : Prop := (∀ ls : List Int, ls.length = n + 80 → Hp.Reads (tSl m 3 1 iv ls) r 1 iv (ls.take n)) ∧ r.len = n
def RelC (r m : Sl) (n : Nat) : Prop := (∀ ls : List Ins, ls.length = n + 80 → Hp.Reads (tSl m 23 2 insv ls) r 2 insv (ls.take n)) ∧ r.len = n
section
variable {S : List Nat} {w0 w : World} {its rest : List Thing}
theorem set_lent (h : Hp S w0 w its) (i j : Nat) (hij : i ≠ j) {u : Thing} {l all : Sl} {c : List Int} {Ms : List SI} (hi : its[i]? = some (tIs all Ms)) (hj : its[j]? = some u) (hu : Hp.Reads u l 1 iv c) (hc : c.length ≤ 17592186044416) (hM : Ms.length ≤ 100000000)
  {K : Sl → Sl → World → Prop} (hK : ∀ s m all' w', RelI s m c.length → Hp S w0 w' (its.set i (tIs all' (Ms ++ [(m, c ++ padI)]))) → K s all' w') : c21 l all w K := by
 refine c21_of ?_
 unfold f21
 have hil := (List.getElem?_eq_some_iff.1 hi).1
 have hjl := (List.getElem?_eq_some_iff.1 hj).1
 have hsl := h.lenU j (by rw [hj]; rfl) hu
 obtain ⟨inf, i1, i2, i3, i4⟩ := inf3
 obtain ⟨inf', j1, j2, j3, j4⟩ := inf52
 have e1 : IntKind.i64.wrap ((l.len : Int) + 80) = ((c.length + 80 : Nat) : Int) := by rw [wr64 (by omega) (by omega)]; omega
 rw [e1]
 refine h.mks (f := iv) (n := 1) (x0 := (0 : Int)) iv_len rfl (by omega) (by omega) (by omega) (by omega) ?_
 intro m w1 h hml hmc _
 rw [Int.toNat_natCast] at h hml hmc
 refine h.copy its.length j (by omega) (l := List.replicate (c.length + 80) (0 : Int)) (news := c) List.getElem?_concat_length (u := u) (by rw [List.getElem?_append_left hjl]; exact hj) hu iv_len und52 i1 i3 (by simp [Value.oneCell']) (by omega) fun w1 h => ?_
 rw [set_last, List.drop_replicate] at h
 have e2 : c.length + 80 - l.len = 80 := by omega
 rw [e2] at h
 refine ⟨fun i m' w' => ∃ q : Nat, i = ((c.length + q : Nat) : Int) ∧ q ≤ 80 ∧ m' = 80 - q ∧ Hp S w0 w' (its ++ [tSl m 3 1 iv (c ++ List.replicate q (-7 : Int) ++ List.replicate (80 - q) (0 : Int))]), ⟨_, 0, by omega, by omega, rfl, by simpa using h⟩, ?_⟩
 clear h
 rintro i' m' w2 ⟨q, rfl, hq, rfl, h⟩
 by_cases hend : q = 80
 ·subst hend
  refine ifF (by simp; omega) ?_
  have h : Hp S w0 w2 (its ++ [tSl m 3 1 iv (c ++ padI)]) := by simpa [padI] using h
  refine h.dr fun w2 h => ?_
  have hlp : (c ++ padI).length = m.len := by rw [List.length_append]; unfold padI; rw [List.length_replicate]; omega
  have hall : ∀ ls : List Int, ls.length = c.length + 80 → Cut m 0 (l.len : Int) (m.cap : Int) 1 (fun s => Hp.Reads (tSl m 3 1 iv ls) s 1 iv (ls.take c.length) ∧ s.len = c.length) := fun ls hls =>
   Hp.cutv (u := tSl m 3 1 iv ls) (l := ls) Hp.rdSl (by omega) iv_len (by omega) (by omega) (by omega) (by omega) (by omega) fun s hs q1 q2 => by
    simp only [Int.toNat_natCast, Int.toNat_zero, List.drop_zero] at hs q1 q2
    rw [← hsl] at hs q1
    exact ⟨hs, by omega⟩
  have h80 : (c ++ padI).length = c.length + 80 := by rw [List.length_append]; unfold padI; rw [List.length_replicate]
  obtain ⟨s, hcut, hs, q1⟩ : ∃ s : Sl, (∀ G : Sl → Prop, G s → Cut m 0 (l.len : Int) (m.cap : Int) 1 G) ∧ (∀ ls : List Int, ls.length = c.length + 80 → Hp.Reads (tSl m 3 1 iv ls) s 1 iv (ls.take c.length)) ∧ s.len = c.length :=
   ⟨_, fun G hG => ⟨(hall _ h80).1, (hall _ h80).2.1, (hall _ h80).2.2.1, (hall _ h80).2.2.2.1, hG⟩, fun ls hls => ((hall ls hls).2.2.2.2).1, ((hall _ h80).2.2.2.2).2⟩
  show Cut m 0 (l.len : Int) (m.cap : Int) 1 _
  refine hcut _ ?_
  have hil2 : i < (its ++ [tSl m 3 1 iv (c ++ padI)]).length := by rw [List.length_append]; omega
  have hal := h.nest_see i (e := 52) (n := 1) (cells := siv) (sub := tS) (vis := id) (s := all) (l := Ms) (by rw [List.getElem?_append_left hil, hi]; rfl)
  refine h.nest_app (e := 52) (n := 1) (cells := siv) (sub := tS) (vis := id) i its.length (by omega) (m, c ++ padI) (by rw [List.getElem?_append_left hil]; exact hi) List.getElem?_concat_length rfl (fun _ => rfl) und51 j1 j3 j2 rfl rfl (by simp [Value.oneCell']) (by rw [j4]; omega) (by omega) fun all' w' h h2 => ?_
  rw [List.set_append_left _ _ hil] at h
  have h : Hp S w0 w' (its.set i (tIs all' (Ms ++ [(m, c ++ padI)])) ++ [tEmp]) := by
   have e : its.length = (its.set i (tNest 52 1 siv tS id all' (Ms ++ [id (m, c ++ padI)]))).length := by rw [List.length_set]
   rw [e, List.set_append_right _ _ (Nat.le_refl _), Nat.sub_self] at h
   exact h
  exact hK s m all' w' ⟨hs, q1⟩ h.front
 ·refine ifT (by simp; omega) ?_
  obtain ⟨r, hr⟩ : ∃ r, 80 - q = r + 1 := ⟨79 - q, by omega⟩
  rw [hr, List.replicate_succ] at h
  refine h.ixst its.length (y := (-7 : Int)) List.getElem?_concat_length (by omega) (by rw [Int.toNat_natCast]; simp) iv_len rfl rfl fun w3 h => ?_
  rw [set_last, Int.toNat_natCast] at h
  have e3 : (c ++ List.replicate q (-7 : Int) ++ (0 : Int) :: List.replicate r (0 : Int)).set (c.length + q) (-7) = c ++ List.replicate (q + 1) (-7 : Int) ++ List.replicate (80 - (q + 1)) (0 : Int) := by
   rw [List.set_append_right _ _ (by simp)]
   have e4 : c.length + q - (c ++ List.replicate q (-7 : Int)).length = 0 := by simp
   rw [e4, List.set_cons_zero]
   have e5 : 80 - (q + 1) = r := by omega
   rw [e5, List.replicate_succ']
   simp
  rw [e3] at h
  exact ⟨80 - (q + 1), by omega, q + 1, by rw [wr64 (by omega) (by omega)]; omega, by omega, rfl, h⟩
end
structure QS where
 x : SV
 q : SV
 z : Sl
 pw : List (SI × Sl)
structure QS.Ok (y : QS) : Prop where
 m : y.q.m = y.x.m
 sls : ∀ t ∈ y.q.sls, ∃ u ∈ y.pw, RelI t.1 u.1.1 t.2.length ∧ u.1.2 = t.2 ++ padI
 pws : ∀ u ∈ y.pw, ∃ t ∈ y.x.sls, u.2 = t.1 ∧ u.1.2 = t.2 ++ padI
 code : RelC y.q.run.sl y.z y.x.run.code.length
 len : y.pw.length = 4
structure QR where
 x : RV
 q : RV
 z : Sl
structure QR.Ok (y : QR) : Prop where
 m : y.q.r = y.x.r
 code : RelC y.q.sl y.z y.x.code.length
def QS.c (y : QS) : SC := (y.z, y.x.run.code)
def QR.c (y : QR) : SC := (y.z, y.x.code)
def ALL (Y : List QS) (T : List QR) : List SC := Y.map QS.c ++ T.map QR.c
def pad0 (z : SC) : SC := (z.1, z.2 ++ pad7)
def PWs (Y : List QS) : List (SI × Sl) := Y.flatMap QS.pw
abbrev n3 : Sl := ⟨none, 0, 0⟩
abbrev EA (s1 s2 : Sl) (xs : List SV) (ys : List RV) (p q : Nat) (S F L M W : Sl) (Y : List QS) (T : List QR) (lc : List SC) : List Thing :=
 [(tSys s1 xs).ro, (tRts s2 ys).ro, tBlk p 37 [.slice s1.a s1.len s1.cap, .slice s2.a s2.len s2.cap], tBlk q 37 [.slice S.a S.len S.cap, .slice F.a F.len F.cap],
  tSl S 54 8 syv (Y.map QS.q), tSl F 30 4 rtv (T.map QR.q), tCs L lc, tIs M ((PWs Y).map (·.1)), tSl W 52 1 slv ((PWs Y).map (·.2))]
structure Small (xs : List SV) (ys : List RV) : Prop where
 n : xs.length ≤ 1048576
 m : ys.length ≤ 1048576
 sys : ∀ x ∈ xs, x.m.Ok ∧ x.run.code.length ≤ 8796093022208 ∧ ∀ y ∈ x.sls, y.2.length ≤ 17592186044416
 fns : ∀ y ∈ ys, y.r.Ok ∧ y.code.length ≤ 8796093022208
theorem pws_len {Y : List QS} (h : ∀ y ∈ Y, y.Ok) : (PWs Y).length = 4 * Y.length := by
 unfold PWs
 induction Y with
 | nil => rfl
 | cons y Y ih =>
  rw [List.flatMap_cons, List.length_append, (h y (by simp)).len, ih fun z hz => h z (by simp [hz]), List.length_cons]
  omega
theorem pws_app (Y : List QS) (y : QS) : PWs (Y ++ [y]) = PWs Y ++ y.pw := by unfold PWs; simp
section
variable {w0 w : World} {its rest : List Thing}
theorem sta {S : List Nat} (h : Hp S w0 w its) (i : Nat) {b n m : Nat} {e : TypeId} {c : List Value} {v : Value} {K : World → Prop}
  (hi : its[i]? = some (tBlk b e c)) (hlt : n + m < c.length) (h1 : v.oneCell' = true) (hK : ∀ w', Hp S w0 w' (its.set i (tBlk b e (c.set (n + m) v))) → K w') : St (((⟨b, 0, none⟩ : Addr).add n).add m) v w K := by
 rw [Addr.add_add_any]
 exact h.st (n := n + m) i hi hlt h1 hK
set_option maxHeartbeats 4000000 in
theorem enc_sys {s1 s2 : Sl} {xs : List SV} {ys : List RV} {pb qb : Nat} (hsm : Small xs ys) (h : Hp [] w0 w (EA s1 s2 xs ys pb qb n3 n3 n3 n3 n3 [] [] [])) {K : Sl → Sl → Sl → World → Prop}
  (hK : ∀ S L M W Y w', Y.map QS.x = xs → (∀ y ∈ Y, y.Ok) → Hp [] w0 w' (EA s1 s2 xs ys pb qb S n3 L M W Y [] ((ALL Y []).map pad0)) → K L M W w') :
  ∃ Inv_ : Sl → Sl → Sl → Int → Nat → World → Prop, (∃ n : Nat, Inv_ ⟨none, 0, 0⟩ ⟨none, 0, 0⟩ ⟨none, 0, 0⟩ 0 n w) ∧ ∀ lists : Sl, ∀ kinds : Sl, ∀ were : Sl, ∀ i : Int, ∀ m : Nat, ∀ w : World, Inv_ lists kinds were i m w → (Ld .sl w ⟨pb, 0, none⟩ fun (Systems : Sl) =>
 if (decide (i < (Systems.len : Int))) = true then (Ld .sl w ⟨pb, 0, none⟩ fun (Systems2 : Sl) =>
 Ix Systems2.a Systems2.len i 8 fun (a : Addr) =>
 Ld .sl w a fun (s_With : Sl) => Ld .sl w (a.add 1) fun (s_Without : Sl) => Ld .sl w (a.add 2) fun (s_Reads : Sl) => Ld .sl w (a.add 3) fun (s_Writes : Sl) => Ld .s w (a.add 4) fun (s_Run_Name : ByteArray) => Ld (.i .i64) w (a.add 5) fun (s_Run_Params : Int) => Ld (.i .i64) w (a.add 6) fun (s_Run_Locals : Int) => Ld .sl w (a.add 7) fun (s_Run_Code : Sl) =>
 Nw (.cells #[.slice none 0 0, .slice none 0 0, .slice none 0 0, .slice none 0 0, .string (⟨#[]⟩ : ByteArray), .int .i64 0, .int .i64 0, .slice none 0 0] 54) w fun (s : Addr) (w : World) =>
 St s (.slice s_With.a s_With.len s_With.cap) w fun (w : World) =>
 St (s.add 1) (.slice s_Without.a s_Without.len s_Without.cap) w fun (w : World) =>
 St (s.add 2) (.slice s_Reads.a s_Reads.len s_Reads.cap) w fun (w : World) =>
 St (s.add 3) (.slice s_Writes.a s_Writes.len s_Writes.cap) w fun (w : World) =>
 St (s.add 4) (.string s_Run_Name) w fun (w : World) =>
 St (s.add 5) (.int .i64 s_Run_Params) w fun (w : World) =>
 St (s.add 6) (.int .i64 s_Run_Locals) w fun (w : World) =>
 St (s.add 7) (.slice s_Run_Code.a s_Run_Code.len s_Run_Code.cap) w fun (w : World) =>
 Ld .s w (s.add 4) fun (Run_Name : ByteArray) => Ld (.i .i64) w ((s.add 4).add 1) fun (Run_Params : Int) => Ld (.i .i64) w ((s.add 4).add 2) fun (Run_Locals : Int) => Ld .sl w ((s.add 4).add 3) fun (Run_Code : Sl) =>
 c20 Run_Name Run_Params Run_Locals Run_Code w fun (r_Name : ByteArray) (r_Params : Int) (r_Locals : Int) (r_Code : Sl) (l : Sl) (w : World) =>
 Nw (.cells #[.string (⟨#[]⟩ : ByteArray), .int .i64 0, .int .i64 0, .slice none 0 0] 30) w fun (r : Addr) (w : World) =>
 St r (.string r_Name) w fun (w : World) =>
 St (r.add 1) (.int .i64 r_Params) w fun (w : World) =>
 St (r.add 2) (.int .i64 r_Locals) w fun (w : World) =>
 St (r.add 3) (.slice r_Code.a r_Code.len r_Code.cap) w fun (w : World) =>
 Ld .sl w s fun (With : Sl) =>
 Ld .sl w (s.add 1) fun (Without : Sl) =>
 Ld .sl w (s.add 2) fun (Reads : Sl) =>
 Ld .sl w (s.add 3) fun (Writes : Sl) =>
 Nw (.cells #[.slice With.a With.len With.cap, .slice Without.a Without.len Without.cap, .slice Reads.a Reads.len Reads.cap, .slice Writes.a Writes.len Writes.cap] 52) w fun (b : Addr) (w : World) =>
 Run .sl Tryz.prog (Builtin.append_ #[51, 51] 51 #[.slice were.a were.len were.cap, .slice (some b) 4 4]) w fun (were2 : Sl) (w : World) =>
 Ld .sl w s fun (With2 : Sl) =>
 c21 With2 kinds w fun (r2 : Sl) (kinds2 : Sl) (w : World) =>
 St s (.slice r2.a r2.len r2.cap) w fun (w : World) =>
 Ld .sl w (s.add 1) fun (Without2 : Sl) =>
 c21 Without2 kinds2 w fun (r3 : Sl) (kinds3 : Sl) (w : World) =>
 St (s.add 1) (.slice r3.a r3.len r3.cap) w fun (w : World) =>
 Ld .sl w (s.add 2) fun (Reads2 : Sl) =>
 c21 Reads2 kinds3 w fun (r4 : Sl) (kinds4 : Sl) (w : World) =>
 St (s.add 2) (.slice r4.a r4.len r4.cap) w fun (w : World) =>
 Ld .sl w (s.add 3) fun (Writes2 : Sl) =>
 c21 Writes2 kinds4 w fun (r5 : Sl) (kinds5 : Sl) (w : World) =>
 St (s.add 3) (.slice r5.a r5.len r5.cap) w fun (w : World) =>
 Ld .s w r fun (r_Name2 : ByteArray) => Ld (.i .i64) w (r.add 1) fun (r_Params2 : Int) => Ld (.i .i64) w (r.add 2) fun (r_Locals2 : Int) => Ld .sl w (r.add 3) fun (r_Code2 : Sl) =>
 St (s.add 4) (.string r_Name2) w fun (w : World) =>
 St ((s.add 4).add 1) (.int .i64 r_Params2) w fun (w : World) =>
 St ((s.add 4).add 2) (.int .i64 r_Locals2) w fun (w : World) =>
 St ((s.add 4).add 3) (.slice r_Code2.a r_Code2.len r_Code2.cap) w fun (w : World) =>
 Nw (.cells #[.slice l.a l.len l.cap] 28) w fun (b2 : Addr) (w : World) =>
 Run .sl Tryz.prog (Builtin.append_ #[50, 50] 50 #[.slice lists.a lists.len lists.cap, .slice (some b2) 1 1]) w fun (lists2 : Sl) (w : World) =>
 Ld .sl w ⟨qb, 0, none⟩ fun (Systems3 : Sl) =>
 Ld .sl w s fun (s_With2 : Sl) => Ld .sl w (s.add 1) fun (s_Without2 : Sl) => Ld .sl w (s.add 2) fun (s_Reads2 : Sl) => Ld .sl w (s.add 3) fun (s_Writes2 : Sl) => Ld .s w (s.add 4) fun (s_Run_Name2 : ByteArray) => Ld (.i .i64) w (s.add 5) fun (s_Run_Params2 : Int) => Ld (.i .i64) w (s.add 6) fun (s_Run_Locals2 : Int) => Ld .sl w (s.add 7) fun (s_Run_Code2 : Sl) =>
 Nw (.cells #[.slice s_With2.a s_With2.len s_With2.cap, .slice s_Without2.a s_Without2.len s_Without2.cap, .slice s_Reads2.a s_Reads2.len s_Reads2.cap, .slice s_Writes2.a s_Writes2.len s_Writes2.cap, .string s_Run_Name2, .int .i64 s_Run_Params2, .int .i64 s_Run_Locals2, .slice s_Run_Code2.a s_Run_Code2.len s_Run_Code2.cap] 54) w fun (b3 : Addr) (w : World) =>
 Run .sl Tryz.prog (Builtin.append_ #[35, 35] 35 #[.slice Systems3.a Systems3.len Systems3.cap, .slice (some b3) 1 1]) w fun (s2 : Sl) (w : World) =>
 St ⟨qb, 0, none⟩ (.slice s2.a s2.len s2.cap) w fun (w : World) =>
 ∃ m2 : Nat, m2 < m ∧ Inv_ lists2 kinds5 were2 (IntKind.i64.wrap (i + 1)) m2 w) else (K lists kinds were w)) := by
 obtain ⟨inf, i1, i2, i3, i4⟩ := inf52
 obtain ⟨inf', j1, j2, j3, j4⟩ := inf28
 obtain ⟨inf2, k1, k2, k3, k4⟩ := inf54
 have hxl := h.lenU (u := (tSys s1 xs).ro) 0 rfl sys_reads
 refine ⟨fun L M W i m w' => ∃ (k : Nat) (S : Sl) (Y : List QS), i = k ∧ k ≤ xs.length ∧ m = xs.length - k ∧ Y.map QS.x = xs.take k ∧ (∀ y ∈ Y, y.Ok) ∧ Hp [] w0 w' (EA s1 s2 xs ys pb qb S n3 L M W Y [] ((ALL Y []).map pad0)), ⟨_, 0, n3, [], rfl, by omega, rfl, rfl, by simp, h⟩, ?_⟩
 clear h
 rintro L M W i m w1 ⟨k, S, Y, rfl, hk, rfl, hY, hok, h⟩
 have hYl : Y.length = k := by have := congrArg List.length hY; rw [List.length_map, List.length_take] at this; omega
 have hpl := pws_len hok
 have hn := hsm.n
 refine h.ld0 (k := .sl) (x := s1) 2 rfl rfl ?_
 by_cases hend : k = xs.length
 ·subst hend
  refine ifF (by simp; omega) ?_
  rw [List.take_length] at hY
  exact hK S L M W Y w1 hY hok h
 ·obtain ⟨x, hx⟩ : ∃ x, xs[k]? = some x := ⟨xs[k]'(by omega), List.getElem?_eq_getElem (by omega)⟩
  have hxm := List.mem_of_getElem? hx
  obtain ⟨okx, ocl, osl⟩ := hsm.sys x hxm
  refine ifT (by simp; omega) ?_
  refine h.ld0 (k := .sl) (x := s1) 2 rfl rfl ?_
  refine sys_ld h 0 rfl hx ?_
  refine sys_copy h x fun sb w1 h => ?_
  have h : Hp [] w0 w1 (EA s1 s2 xs ys pb qb S n3 L M W Y [] ((ALL Y []).map pad0) ++ [tBlk sb 54 (syv x)]) := h
  refine h.lda (n := 4) (m := 0) (k := .s) (x := x.run.nm) 9 rfl rfl ?_
  refine h.lda (n := 4) (m := 1) (k := .i .i64) (x := x.run.pa) 9 rfl rfl ?_
  refine h.lda (n := 4) (m := 2) (k := .i .i64) (x := x.run.lo) 9 rfl rfl ?_
  refine h.lda (n := 4) (m := 3) (k := .sl) (x := x.run.sl) 9 rfl rfl ?_
  refine lent_spec h 0 (u := (tSys s1 xs).ro) rfl (sys_code hxm) ocl fun rc z w1 hrel hrl h => ?_
  refine rt_copy h (sl := rc) fun rb w1 h => ?_
  have h : Hp [] w0 w1 (EA s1 s2 xs ys pb qb S n3 L M W Y [] ((ALL Y []).map pad0) ++ [tBlk sb 54 (syv x), tSl z 23 2 insv (x.run.code ++ pad7), tBlk rb 30 [.string x.run.nm, .int .i64 x.run.pa, .int .i64 x.run.lo, .slice rc.a rc.len rc.cap]]) := h
  refine h.ld0 (k := .sl) (x := x.a) 9 rfl rfl ?_
  refine h.ld (n := 1) (k := .sl) (x := x.b) 9 rfl rfl ?_
  refine h.ld (n := 2) (k := .sl) (x := x.c) 9 rfl rfl ?_
  refine h.ld (n := 3) (k := .sl) (x := x.d) 9 rfl rfl ?_
  have hwl := h.len (s := W) (e := 52) (n := 1) (f := slv) (l := (PWs Y).map (·.2)) 8 rfl
  rw [List.length_map, hpl] at hwl
  refine h.nwS (l := [x.a, x.b, x.c, x.d]) (f := slv) (n := 1) (m := 4) rfl rfl (fun _ => rfl) fun wb w1 h => ?_
  refine h.appS 8 12 (s := W) (s2 := ⟨some ⟨wb, 0, none⟩, 4, 4⟩) (news := [x.a, x.b, x.c, x.d]) rfl (u := tSl ⟨some ⟨wb, 0, none⟩, 4, 4⟩ 52 1 slv [x.a, x.b, x.c, x.d]) rfl Hp.rdSl (fun _ => rfl) und51 i1 i3 i2 rfl (by simp [Value.oneCell']) (by rw [i4]; show (W.len + 4) * 24 ≤ _; omega) (by show W.len + 4 ≤ _; omega) fun W2 w1 h _ _ => ?_
  obtain ⟨base, hbase⟩ : ∃ base : Sl → List SI → List Value → List Thing, base = fun M2 ms sc => [(tSys s1 xs).ro, (tRts s2 ys).ro, tBlk pb 37 [.slice s1.a s1.len s1.cap, .slice s2.a s2.len s2.cap], tBlk qb 37 [.slice S.a S.len S.cap, .slice none 0 0], tSl S 54 8 syv (Y.map QS.q), tSl n3 30 4 rtv [], tCs L ((ALL Y []).map pad0), tIs M2 ms, tSl W2 52 1 slv ((PWs Y).map (·.2) ++ [x.a, x.b, x.c, x.d]), tBlk sb 54 sc, tSl z 23 2 insv (x.run.code ++ pad7), tBlk rb 30 [.string x.run.nm, .int .i64 x.run.pa, .int .i64 x.run.lo, .slice rc.a rc.len rc.cap]] := ⟨_, rfl⟩
  have h : Hp [] w0 w1 (base M ((PWs Y).map (·.1)) (syv x)) := by rw [hbase]; exact h.front (b := [_])
  have g7 : ∀ M2 ms sc, (base M2 ms sc)[7]? = some (tIs M2 ms) := fun _ _ _ => by rw [hbase]; rfl
  have g9 : ∀ M2 ms sc, (base M2 ms sc)[9]? = some (tBlk sb 54 sc) := fun _ _ _ => by rw [hbase]; rfl
  have g9' : ∀ M2 ms sc, ((base M2 ms sc)[9]?).map Thing.holds = some (tBlk sb 54 sc).holds := fun _ _ _ => by rw [hbase]; rfl
  have g0 : ∀ M2 ms sc, (base M2 ms sc)[0]? = some (tSys s1 xs).ro := fun _ _ _ => by rw [hbase]; rfl
  have t7 : ∀ M2 ms sc M3 ms3, (base M2 ms sc).set 7 (tIs M3 ms3) = base M3 ms3 sc := fun _ _ _ _ _ => by rw [hbase]; rfl
  have t9 : ∀ M2 ms sc sc3, (base M2 ms sc).set 9 (tBlk sb 54 sc3) = base M2 ms sc3 := fun _ _ _ _ => by rw [hbase]; rfl
  have hMl : ((PWs Y).map (·.1)).length = 4 * k := by rw [List.length_map, hpl, hYl]
  refine h.ld0 (k := .sl) (x := x.a) 9 (g9' _ _ _) rfl ?_
  refine set_lent h 7 0 (by decide) (g7 _ _ _) (g0 _ _ _) (sys_set hxm (y := (x.a, x.A)) (by simp [SV.sls])) (osl (x.a, x.A) (by simp [SV.sls])) (by omega) fun ra ma Ma w1 ra_ h => ?_
  rw [t7] at h
  refine h.st0 9 (g9 _ _ _) (by simp) rfl fun w1 h => ?_
  rw [t9] at h
  refine h.ld (n := 1) (k := .sl) (x := x.b) 9 (g9' _ _ _) rfl ?_
  refine set_lent h 7 0 (by decide) (g7 _ _ _) (g0 _ _ _) (sys_set hxm (y := (x.b, x.B)) (by simp [SV.sls])) (osl (x.b, x.B) (by simp [SV.sls])) (by rw [List.length_append, hMl]; simp; omega) fun rb' mb Mb w1 rb_ h => ?_
  rw [t7] at h
  refine h.st (n := 1) 9 (g9 _ _ _) (by simp) rfl fun w1 h => ?_
  rw [t9] at h
  refine h.ld (n := 2) (k := .sl) (x := x.c) 9 (g9' _ _ _) rfl ?_
  refine set_lent h 7 0 (by decide) (g7 _ _ _) (g0 _ _ _) (sys_set hxm (y := (x.c, x.C)) (by simp [SV.sls])) (osl (x.c, x.C) (by simp [SV.sls])) (by rw [List.length_append, List.length_append, hMl]; simp; omega) fun rc' mc Mc w1 rc_ h => ?_
  rw [t7] at h
  refine h.st (n := 2) 9 (g9 _ _ _) (by simp) rfl fun w1 h => ?_
  rw [t9] at h
  refine h.ld (n := 3) (k := .sl) (x := x.d) 9 (g9' _ _ _) rfl ?_
  refine set_lent h 7 0 (by decide) (g7 _ _ _) (g0 _ _ _) (sys_set hxm (y := (x.d, x.D)) (by simp [SV.sls])) (osl (x.d, x.D) (by simp [SV.sls])) (by rw [List.length_append, List.length_append, List.length_append, hMl]; simp; omega) fun rd' md Md w1 rd_ h => ?_
  rw [t7] at h
  refine h.st (n := 3) 9 (g9 _ _ _) (by simp) rfl fun w1 h => ?_
  rw [t9] at h
  have g11 : ∀ M2 ms sc, ((base M2 ms sc)[11]?).map Thing.holds = some (tBlk rb 30 [.string x.run.nm, .int .i64 x.run.pa, .int .i64 x.run.lo, .slice rc.a rc.len rc.cap]).holds := fun _ _ _ => by rw [hbase]; rfl
  refine h.ld0 (k := .s) (x := x.run.nm) 11 (g11 _ _ _) rfl ?_
  refine h.ld (n := 1) (k := .i .i64) (x := x.run.pa) 11 (g11 _ _ _) rfl ?_
  refine h.ld (n := 2) (k := .i .i64) (x := x.run.lo) 11 (g11 _ _ _) rfl ?_
  refine h.ld (n := 3) (k := .sl) (x := rc) 11 (g11 _ _ _) rfl ?_
  refine h.st (n := 4) 9 (g9 _ _ _) (by simp) rfl fun w1 h => ?_
  rw [t9] at h
  refine sta h (n := 4) (m := 1) 9 (g9 _ _ _) (by simp) rfl fun w1 h => ?_
  rw [t9] at h
  refine sta h (n := 4) (m := 2) 9 (g9 _ _ _) (by simp) rfl fun w1 h => ?_
  rw [t9] at h
  refine sta h (n := 4) (m := 3) 9 (g9 _ _ _) (by simp) rfl fun w1 h => ?_
  rw [t9] at h
  -- the program's copy of the system
  obtain ⟨nx, hnx⟩ : ∃ nx : SV, nx = ⟨ra, rb', rc', rd', x.A, x.B, x.C, x.D, ⟨x.run.nm, x.run.pa, x.run.lo, rc, x.run.code⟩⟩ := ⟨_, rfl⟩
  obtain ⟨yn, hyn⟩ : ∃ yn : QS, yn = ⟨x, nx, z, [((ma, x.A ++ padI), x.a), ((mb, x.B ++ padI), x.b), ((mc, x.C ++ padI), x.c), ((md, x.D ++ padI), x.d)]⟩ := ⟨_, rfl⟩
  have hyok : yn.Ok := by
   subst hyn hnx
   refine ⟨rfl, fun t ht => ?_, fun u hu => ?_, ⟨hrel, hrl⟩, rfl⟩
   ·simp only [SV.sls, List.mem_cons, List.not_mem_nil, or_false] at ht
    rcases ht with rfl | rfl | rfl | rfl
    ·exact ⟨((ma, x.A ++ padI), x.a), by simp, ra_, rfl⟩
    ·exact ⟨((mb, x.B ++ padI), x.b), by simp, rb_, rfl⟩
    ·exact ⟨((mc, x.C ++ padI), x.c), by simp, rc_, rfl⟩
    ·exact ⟨((md, x.D ++ padI), x.d), by simp, rd_, rfl⟩
   ·simp only [List.mem_cons, List.not_mem_nil, or_false] at hu
    rcases hu with rfl | rfl | rfl | rfl
    ·exact ⟨(x.a, x.A), by simp [SV.sls], rfl, rfl⟩
    ·exact ⟨(x.b, x.B), by simp [SV.sls], rfl, rfl⟩
    ·exact ⟨(x.c, x.C), by simp [SV.sls], rfl, rfl⟩
    ·exact ⟨(x.d, x.D), by simp [SV.sls], rfl, rfl⟩
  have hsc : ((((((((syv x).set 0 (.slice ra.a ra.len ra.cap)).set 1 (.slice rb'.a rb'.len rb'.cap)).set 2 (.slice rc'.a rc'.len rc'.cap)).set 3 (.slice rd'.a rd'.len rd'.cap)).set 4 (.string x.run.nm)).set (4 + 1) (.int .i64 x.run.pa)).set (4 + 2) (.int .i64 x.run.lo)).set (4 + 3) (.slice rc.a rc.len rc.cap) = syv nx := by rw [hnx]; rfl
  rw [hsc] at h
  have hms : (PWs Y).map (·.1) ++ [(ma, x.A ++ padI)] ++ [(mb, x.B ++ padI)] ++ [(mc, x.C ++ padI)] ++ [(md, x.D ++ padI)] = (PWs (Y ++ [yn])).map (·.1) := by
   rw [pws_app, hyn]; simp
  have hws : (PWs Y).map (·.2) ++ [x.a, x.b, x.c, x.d] = (PWs (Y ++ [yn])).map (·.2) := by
   rw [pws_app, hyn]; simp
  rw [hms, hbase] at h
  rw [hws] at h
  have hLl := h.nest_see (e := 28) (n := 1) (cells := scv) (sub := subC) (vis := id) (s := L) (l := (ALL Y []).map pad0) 6 rfl
  have hAl : ((ALL Y []).map pad0).length = k := by unfold ALL; simp [hYl]
  rw [hAl] at hLl
  refine h.nest_app (e := 28) (n := 1) (cells := scv) (sub := subC) (vis := id) 6 10 (by decide) (z, x.run.code ++ pad7) rfl rfl rfl (fun _ => rfl) und50 j1 j3 j2 rfl rfl (by simp [Value.oneCell']) (by rw [j4]; omega) (by omega) fun L' w2 h hL' => ?_
  have hAn : (ALL Y []).map pad0 ++ [id (z, x.run.code ++ pad7)] = (ALL (Y ++ [yn]) []).map pad0 := by
   rw [hyn]; unfold ALL; simp [pad0, QS.c]
  rw [hAn] at h
  have hSl := h.len (s := S) (e := 54) (n := 8) (f := syv) (l := Y.map QS.q) 4 rfl
  rw [List.length_map] at hSl
  refine h.ld0 (k := .sl) (x := S) 3 rfl rfl ?_
  refine h.ld0 (k := .sl) (x := nx.a) 9 rfl rfl ?_
  refine h.ld (n := 1) (k := .sl) (x := nx.b) 9 rfl rfl ?_
  refine h.ld (n := 2) (k := .sl) (x := nx.c) 9 rfl rfl ?_
  refine h.ld (n := 3) (k := .sl) (x := nx.d) 9 rfl rfl ?_
  refine h.ld (n := 4) (k := .s) (x := nx.run.nm) 9 rfl rfl ?_
  refine h.ld (n := 5) (k := .i .i64) (x := nx.run.pa) 9 rfl rfl ?_
  refine h.ld (n := 6) (k := .i .i64) (x := nx.run.lo) 9 rfl rfl ?_
  refine h.ld (n := 7) (k := .sl) (x := nx.run.sl) 9 rfl rfl ?_
  refine h.nwapp 4 nx (s := S) (l := Y.map QS.q) rfl syv_len und35 k1 k3 k2 rfl rfl (by simp [Value.oneCell']) (by rw [k4]; omega) (by omega) fun S' w2 h _ _ => ?_
  have hqn : Y.map QS.q ++ [nx] = (Y ++ [yn]).map QS.q := by rw [hyn]; simp
  rw [hqn] at h
  refine h.st0 3 rfl (by simp) rfl fun w2 h => ?_
  have h : Hp [] w0 w2 (EA s1 s2 xs ys pb qb S' n3 L' _ W2 (Y ++ [yn]) [] ((ALL (Y ++ [yn]) []).map pad0) ++ [tBlk sb 54 (syv nx), tEmp, tBlk rb 30 [.string x.run.nm, .int .i64 x.run.pa, .int .i64 x.run.lo, .slice rc.a rc.len rc.cap]]) := h
  refine ⟨xs.length - (k + 1), by omega, k + 1, S', Y ++ [yn], by rw [wr64 (by omega) (by omega)]; omega, by omega, rfl, ?_, ?_, h.front⟩
  ·rw [List.map_append, hY, List.take_add_one, hx, hyn]; rfl
  ·intro y hy
   rcases List.mem_append.1 hy with hy | hy
   ·exact hok y hy
   ·rw [List.mem_singleton.1 hy]; exact hyok
end
end Go.Proofs.YtmfgofbcnlkolaaGreatDoor.F
end

section
namespace Go.Den
open Go
section
variable {α : Type} {f : α → List Value} {n : Nat} {e : TypeId}
theorem fm_map {β : Type} {g : β → List Value} {l : List α} {l' : List β} (h : l.map f = l'.map g) : l.flatMap f = l'.flatMap g := by
 rw [List.flatMap_def, List.flatMap_def, h]
theorem SlR.conv {β : Type} {g : β → List Value} {w : World} {s : Sl} {l : List α} {l' : List β} {o : List Nat} (hm : l.map f = l'.map g) (h : SlR w s n f l o) : SlR w s n g l' o := by
 have hl : l.length = l'.length := by have := congrArg List.length hm; simpa using this
 obtain ⟨h1, h2⟩ := h
 refine ⟨by omega, ?_⟩
 rw [fm_map hm] at h2
 exact h2
theorem SlF.conv {β : Type} {g : β → List Value} {w : World} {s : Sl} {l : List α} {l' : List β} {o : List Nat} (hm : l.map f = l'.map g) (h : SlF w s e n f l o) : SlF w s e n g l' o := by
 have hl : l.length = l'.length := by have := congrArg List.length hm; simpa using this
 obtain ⟨h1, h2⟩ := h
 refine ⟨by omega, ?_⟩
 rw [fm_map hm] at h2
 exact h2
theorem map_set_same {β : Type} {g : α → β} {l : List α} {k : Nat} {z z' : α} (hk : l[k]? = some z) (hc : g z' = g z) : (l.set k z').map g = l.map g := by
 rw [List.map_set, hc]
 apply List.ext_getElem?
 intro j
 rw [List.getElem?_set]
 split
 ·rename_i e
  subst e
  have hlt := (List.getElem?_eq_some_iff.1 hk).1
  rw [if_pos (by simpa using hlt), List.getElem?_map, hk]
  rfl
 ·rfl
end
def tHole {X : Type} (e : TypeId) (n : Nat) (cells : X → List Value) (sub : X → Thing) (s : Sl) (l : List X) (k : Nat) : Thing :=
 tStar (tSl s e n cells l) (tAll ((l.map sub).set k tEmp))
theorem tAll_at {ts : List Thing} {t : Thing} {w : World} {O : List Nat} (ht : t ∈ ts) (h : (tAll ts).holds w O) : ∃ O', t.holds w O' ∧ ∀ k ∈ O', k ∈ O := by
 obtain ⟨k, hk⟩ := List.mem_iff_getElem?.1 ht
 obtain ⟨O1, _, h1, _, _, h4⟩ := tAll_pick hk h
 exact ⟨O1, h1, fun k hk => (h4 k).2 (.inl hk)⟩
namespace Hp
section
variable {S : List Nat} {w0 w : World} {its : List Thing}
variable {X : Type} {e : TypeId} {n : Nat} {cells : X → List Value} {sub : X → Thing} {s : Sl} {l : List X}
theorem nestRd : Reads (tNest e n cells sub id s l) s n cells l := ⟨fun {w O} h => by
 obtain ⟨xs, hx, O1, O2, h1, h2, h3, h4⟩ := h
 rw [List.map_id] at hx
 subst hx
 exact ⟨O1, SlF.toR h1⟩⟩
theorem nestSub {z : X} (hz : z ∈ l) {r : Sl} {α : Type} {f : α → List Value} {m : Nat} {c : List α} (hs : Reads (sub z) r m f c) : Reads (tNest e n cells sub id s l) r m f c := ⟨fun {w O} h => by
 obtain ⟨xs, hx, O1, O2, h1, h2, h3, h4⟩ := h
 rw [List.map_id] at hx
 subst hx
 obtain ⟨O', h5, _⟩ := tAll_at (List.mem_map.2 ⟨z, hz, rfl⟩) h2
 exact hs.rd h5⟩
theorem hole (h : Hp S w0 w its) {i k : Nat} {z : X} (hi : its[i]? = some (tNest e n cells sub id s l)) (hk : l[k]? = some z) (ho : (sub z).own = true) : Hp S w0 w (its.set i (tHole e n cells sub s l k) ++ [sub z]) := by
 have h1 := h.weak (t' := tStar (tHole e n cells sub s l k) (sub z)) hi rfl (fun w O hO => by
  obtain ⟨xs, hx, O1, O2, g1, g2, g3, g4⟩ := hO
  rw [List.map_id] at hx
  subst hx
  obtain ⟨P1, P2, q1, q2, q3, q4⟩ := tAll_pick (k := k) (t := sub z) (by rw [List.getElem?_map, hk]; rfl) g2
  refine ⟨O1 ++ P2, P1, ⟨O1, P2, g1, q2, fun x hx hy => g3 x hx ((q4 x).2 (.inr hy)), fun x => List.mem_append⟩, q1, fun x hx hy => ?_, fun x => ?_⟩
  ·rcases List.mem_append.1 hx with hx | hx
   ·exact g3 x hx ((q4 x).2 (.inl hy))
   ·exact q3 x hy hx
  ·rw [g4, q4, List.mem_append]
   constructor
   ·rintro (h | h | h)
    ·exact .inl (.inl h)
    ·exact .inr h
    ·exact .inl (.inr h)
   ·rintro ((h | h) | h)
    ·exact .inl h
    ·exact .inr (.inr h)
    ·exact .inr (.inl h)) rfl
 have hlt := (List.getElem?_eq_some_iff.1 hi).1
 have h2 := h1.split (i := i) (a := tHole e n cells sub s l k) (b := sub z) (by simp [hlt]) rfl ho
 simpa using h2
theorem unhole (h : Hp S w0 w its) {i m k : Nat} {z z' : X} (him : i ≠ m) (hi : its[i]? = some (tHole e n cells sub s l k)) (hm : its[m]? = some (sub z')) (hk : l[k]? = some z) (hc : cells z' = cells z) (ho : (sub z').own = true) :
  Hp S w0 w ((its.set i (tNest e n cells sub id s (l.set k z'))).set m tEmp) :=
 h.join him hi hm rfl ho rfl fun w O1 O2 h1 h2 hd => by
  obtain ⟨P1, P2, g1, g2, g3, g4⟩ := h1
  have hlt := (List.getElem?_eq_some_iff.1 hk).1
  have q := tAll_put (k := k) (t := sub z') (by rw [List.getElem?_set_self (by simpa using hlt)]) h2 g2 (fun x hx hy => hd x ((g4 x).2 (.inr hy)) hx)
  rw [List.set_set] at q
  refine ⟨l.set k z', List.map_id _, P1, O2 ++ P2, g1.conv (map_set_same hk hc).symm, ?_, fun x hx hy => ?_, fun x => ?_⟩
  ·rw [List.map_set]; exact q
  ·rcases List.mem_append.1 hy with hy | hy
   ·exact hd x ((g4 x).2 (.inl hx)) hy
   ·exact g3 x hx hy
  ·rw [List.mem_append, List.mem_append, g4]
   constructor
   ·rintro ((h | h) | h)
    ·exact .inl h
    ·exact .inr (.inr h)
    ·exact .inr (.inl h)
   ·rintro (h | h | h)
    ·exact .inl (.inl h)
    ·exact .inr h
    ·exact .inl (.inr h)
end
end Hp
end Go.Den
end

section
namespace Go.Proofs.YtmfgofbcnlkolaaGreatDoor.F
open Go Go.Den Go.Proofs
section
variable {w0 w : World} {its rest : List Thing}
set_option maxHeartbeats 4000000 in
theorem enc_fns {s1 s2 : Sl} {xs : List SV} {ys : List RV} {pb qb : Nat} {S L0 M W : Sl} {Y : List QS} (hsm : Small xs ys) (hY : Y.map QS.x = xs) (h : Hp [] w0 w (EA s1 s2 xs ys pb qb S n3 L0 M W Y [] ((ALL Y []).map pad0))) {K : Sl → World → Prop}
  (hK : ∀ F L T w', T.map QR.x = ys → (∀ y ∈ T, y.Ok) → Hp [] w0 w' (EA s1 s2 xs ys pb qb S F L M W Y T ((ALL Y T).map pad0)) → K L w') :
  ∃ Inv_2 : Sl → Int → Nat → World → Prop, (∃ n : Nat, Inv_2 L0 0 n w) ∧ ∀ lists3 : Sl, ∀ i2 : Int, ∀ m3 : Nat, ∀ w : World, Inv_2 lists3 i2 m3 w → (Ld .sl w ((⟨pb, 0, none⟩ : Addr).add 1) fun (Funcs : Sl) =>
 if (decide (i2 < (Funcs.len : Int))) = true then (Ld .sl w ((⟨pb, 0, none⟩ : Addr).add 1) fun (Funcs2 : Sl) =>
 Ix Funcs2.a Funcs2.len i2 4 fun (a2 : Addr) =>
 Ld .s w a2 fun (x_Name : ByteArray) => Ld (.i .i64) w (a2.add 1) fun (x_Params : Int) => Ld (.i .i64) w (a2.add 2) fun (x_Locals : Int) => Ld .sl w (a2.add 3) fun (x_Code : Sl) =>
 c20 x_Name x_Params x_Locals x_Code w fun (r_Name3 : ByteArray) (r_Params3 : Int) (r_Locals3 : Int) (r_Code3 : Sl) (l2 : Sl) (w : World) =>
 Nw (.cells #[.string (⟨#[]⟩ : ByteArray), .int .i64 0, .int .i64 0, .slice none 0 0] 30) w fun (r6 : Addr) (w : World) =>
 St r6 (.string r_Name3) w fun (w : World) =>
 St (r6.add 1) (.int .i64 r_Params3) w fun (w : World) =>
 St (r6.add 2) (.int .i64 r_Locals3) w fun (w : World) =>
 St (r6.add 3) (.slice r_Code3.a r_Code3.len r_Code3.cap) w fun (w : World) =>
 Nw (.cells #[.slice l2.a l2.len l2.cap] 28) w fun (b4 : Addr) (w : World) =>
 Run .sl Tryz.prog (Builtin.append_ #[50, 50] 50 #[.slice lists3.a lists3.len lists3.cap, .slice (some b4) 1 1]) w fun (lists4 : Sl) (w : World) =>
 Ld .sl w ((⟨qb, 0, none⟩ : Addr).add 1) fun (Funcs3 : Sl) =>
 Ld .s w r6 fun (r_Name4 : ByteArray) => Ld (.i .i64) w (r6.add 1) fun (r_Params4 : Int) => Ld (.i .i64) w (r6.add 2) fun (r_Locals4 : Int) => Ld .sl w (r6.add 3) fun (r_Code4 : Sl) =>
 Nw (.cells #[.string r_Name4, .int .i64 r_Params4, .int .i64 r_Locals4, .slice r_Code4.a r_Code4.len r_Code4.cap] 30) w fun (b5 : Addr) (w : World) =>
 Run .sl Tryz.prog (Builtin.append_ #[24, 24] 24 #[.slice Funcs3.a Funcs3.len Funcs3.cap, .slice (some b5) 1 1]) w fun (s3 : Sl) (w : World) =>
 St ((⟨qb, 0, none⟩ : Addr).add 1) (.slice s3.a s3.len s3.cap) w fun (w : World) =>
 ∃ m4 : Nat, m4 < m3 ∧ Inv_2 lists4 (IntKind.i64.wrap (i2 + 1)) m4 w) else (K lists3 w)) := by
 obtain ⟨inf', j1, j2, j3, j4⟩ := inf28
 obtain ⟨inf2, k1, k2, k3, k4⟩ := inf30
 have hyl := h.lenU (u := (tRts s2 ys).ro) 1 rfl rts_reads
 have hxn := hsm.n
 have hYl : Y.length = xs.length := by rw [← hY, List.length_map]
 refine ⟨fun L i m w' => ∃ (k : Nat) (F : Sl) (T : List QR), i = k ∧ k ≤ ys.length ∧ m = ys.length - k ∧ T.map QR.x = ys.take k ∧ (∀ y ∈ T, y.Ok) ∧ Hp [] w0 w' (EA s1 s2 xs ys pb qb S F L M W Y T ((ALL Y T).map pad0)), ⟨_, 0, n3, [], rfl, by omega, rfl, rfl, by simp, h⟩, ?_⟩
 clear h
 rintro L i m w1 ⟨k, F, T, rfl, hk, rfl, hT, hok, h⟩
 have hTl : T.length = k := by have := congrArg List.length hT; rw [List.length_map, List.length_take] at this; omega
 have hn := hsm.m
 refine h.ld (n := 1) (k := .sl) (x := s2) 2 rfl rfl ?_
 by_cases hend : k = ys.length
 ·subst hend
  refine ifF (by simp; omega) ?_
  rw [List.take_length] at hT
  exact hK F L T w1 hT hok h
 ·obtain ⟨x, hx⟩ : ∃ x, ys[k]? = some x := ⟨ys[k]'(by omega), List.getElem?_eq_getElem (by omega)⟩
  have hxm := List.mem_of_getElem? hx
  obtain ⟨okx, ocl⟩ := hsm.fns x hxm
  refine ifT (by simp; omega) ?_
  refine h.ld (n := 1) (k := .sl) (x := s2) 2 rfl rfl ?_
  refine rts_ld h 1 rfl hx ?_
  refine lent_spec h 1 (u := (tRts s2 ys).ro) rfl (rts_code hxm) ocl fun rc z w1 hrel hrl h => ?_
  refine rt_copy h (sl := rc) fun rb w1 h => ?_
  have h : Hp [] w0 w1 (EA s1 s2 xs ys pb qb S F L M W Y T ((ALL Y T).map pad0) ++ [tSl z 23 2 insv (x.code ++ pad7), tBlk rb 30 [.string x.nm, .int .i64 x.pa, .int .i64 x.lo, .slice rc.a rc.len rc.cap]]) := h
  have hLl := h.nest_see (e := 28) (n := 1) (cells := scv) (sub := subC) (vis := id) (s := L) (l := (ALL Y T).map pad0) 6 rfl
  have hAl : ((ALL Y T).map pad0).length = xs.length + k := by unfold ALL; simp [hYl, hTl]
  rw [hAl] at hLl
  refine h.nest_app (e := 28) (n := 1) (cells := scv) (sub := subC) (vis := id) 6 9 (by decide) (z, x.code ++ pad7) rfl rfl rfl (fun _ => rfl) und50 j1 j3 j2 rfl rfl (by simp [Value.oneCell']) (by rw [j4]; omega) (by omega) fun L' w2 h hL' => ?_
  obtain ⟨nx, hnx⟩ : ∃ nx : RV, nx = ⟨x.nm, x.pa, x.lo, rc, x.code⟩ := ⟨_, rfl⟩
  obtain ⟨tn, htn⟩ : ∃ tn : QR, tn = ⟨x, nx, z⟩ := ⟨_, rfl⟩
  have htok : tn.Ok := by
   subst htn hnx
   exact ⟨rfl, hrel, hrl⟩
  have hAn : (ALL Y T).map pad0 ++ [id (z, x.code ++ pad7)] = (ALL Y (T ++ [tn])).map pad0 := by
   rw [htn]; unfold ALL; simp [pad0, QR.c]
  rw [hAn] at h
  have hFl := h.len (s := F) (e := 30) (n := 4) (f := rtv) (l := T.map QR.q) 5 rfl
  rw [List.length_map] at hFl
  refine h.ld (n := 1) (k := .sl) (x := F) 3 rfl rfl ?_
  refine h.ld0 (k := .s) (x := x.nm) 10 rfl rfl ?_
  refine h.ld (n := 1) (k := .i .i64) (x := x.pa) 10 rfl rfl ?_
  refine h.ld (n := 2) (k := .i .i64) (x := x.lo) 10 rfl rfl ?_
  refine h.ld (n := 3) (k := .sl) (x := rc) 10 rfl rfl ?_
  refine h.nwapp 5 nx (s := F) (l := T.map QR.q) rfl rtv_len und24 k1 k3 k2 rfl (by rw [hnx]) (by simp [Value.oneCell']) (by rw [k4]; omega) (by omega) fun F' w2 h _ _ => ?_
  have hqn : T.map QR.q ++ [nx] = (T ++ [tn]).map QR.q := by rw [htn]; simp
  rw [hqn] at h
  refine h.st (n := 1) 3 rfl (by simp) rfl fun w2 h => ?_
  have h : Hp [] w0 w2 (EA s1 s2 xs ys pb qb S F' L' M W Y (T ++ [tn]) ((ALL Y (T ++ [tn])).map pad0) ++ [tEmp, tBlk rb 30 [.string x.nm, .int .i64 x.pa, .int .i64 x.lo, .slice rc.a rc.len rc.cap]]) := h
  refine ⟨ys.length - (k + 1), by omega, k + 1, F', T ++ [tn], by rw [wr64 (by omega) (by omega)]; omega, by omega, rfl, ?_, ?_, h.front⟩
  ·rw [List.map_append, hT, List.take_add_one, hx, htn]; rfl
  ·intro y hy
   rcases List.mem_append.1 hy with hy | hy
   ·exact hok y hy
   ·rw [List.mem_singleton.1 hy]; exact htok
def qSy (g : List Ins → List Ins) (y : QS) : SV := { y.q with run := { y.q.run with code := (g y.x.run.code).take y.x.run.code.length } }
def qRt (g : List Ins → List Ins) (y : QR) : RV := { y.q with code := (g y.x.code).take y.x.code.length }
def gC (g : List Ins → List Ins) (z : SC) : SC := (z.1, g z.2)
theorem q_rd {s1 s2 : Sl} {xs : List SV} {ys : List RV} {pb qb : Nat} {S F L M W : Sl} {Y : List QS} {T : List QR} {g : List Ins → List Ins} (hY : ∀ y ∈ Y, y.Ok) (hT : ∀ y ∈ T, y.Ok) (hg : ∀ c, (g c).length = c.length + 80)
  (h : Hp [] w0 w (EA s1 s2 xs ys pb qb S F L M W Y T ((ALL Y T).map (gC g)) ++ rest)) : RdS w S ((Y.map (qSy g)).map SV.m) ∧ RdR w F ((T.map (qRt g)).map RV.r) := by
 obtain ⟨O4, h4⟩ := h.see (i := 4) rfl
 obtain ⟨O5, h5⟩ := h.see (i := 5) rfl
 obtain ⟨O6, h6⟩ := h.see (i := 6) rfl
 obtain ⟨O7, h7⟩ := h.see (i := 7) rfl
 have rg : ∀ {o : List Nat}, (∀ k ∈ o, k < w.heap.size) → ∀ k ∈ o, k ∈ List.range w.heap.size := fun h k hk => List.mem_range.2 (h k hk)
 have code : ∀ (c : List Ins) (z r : Sl), (z, c) ∈ ALL Y T → RelC r z c.length → ∃ o, SlR w r 2 insv ((g c).take c.length) o := fun c z r hm hr => by
  have hz : (z, g c) ∈ (ALL Y T).map (gC g) := List.mem_map.2 ⟨(z, c), hm, rfl⟩
  exact (Hp.nestSub (e := 28) (n := 1) (cells := scv) (s := L) hz (sub := subC) (hr.1 (g c) (hg c))).rd h6
 constructor
 ·refine ⟨Y.map (qSy g), List.range w.heap.size, rfl, fun k hk => List.mem_range.1 hk, ?_, fun x hx => ?_⟩
  ·have h4' : SlR w S 8 syv (Y.map QS.q) O4 := SlF.toR h4
   have h4'' : SlR w S 8 syv (Y.map (qSy g)) O4 := h4'.conv (by rw [List.map_map, List.map_map]; rfl)
   exact ⟨O4, h4'', rg h4''.lt⟩
  ·obtain ⟨y, hy, rfl⟩ := List.mem_map.1 hx
   have ok := hY y hy
   have set : ∀ t ∈ y.q.sls, ∃ o, SlR w t.1 1 iv t.2 o ∧ ∀ k ∈ o, k ∈ List.range w.heap.size := fun t ht => by
    obtain ⟨u, hu, hr, hc⟩ := ok.sls t ht
    have hz : u.1 ∈ (PWs Y).map (·.1) := List.mem_map.2 ⟨u, List.mem_flatMap.2 ⟨y, hy, hu⟩, rfl⟩
    have hl : u.1.2.length = t.2.length + 80 := by rw [hc, List.length_append]; unfold padI; rw [List.length_replicate]
    obtain ⟨o, ho⟩ := (Hp.nestSub (e := 52) (n := 1) (cells := siv) (s := M) hz (sub := tS) (hr.1 u.1.2 hl)).rd h7
    rw [hc, List.take_left] at ho
    exact ⟨o, ho, rg ho.lt⟩
   obtain ⟨o, ho⟩ := code y.x.run.code y.z y.q.run.sl (List.mem_append_left _ (List.mem_map.2 ⟨y, hy, rfl⟩)) ok.code
   exact ⟨set (y.q.a, y.q.A) (by simp [SV.sls]), set (y.q.b, y.q.B) (by simp [SV.sls]), set (y.q.c, y.q.C) (by simp [SV.sls]), set (y.q.d, y.q.D) (by simp [SV.sls]), o, ho, rg ho.lt⟩
 ·refine ⟨T.map (qRt g), rfl, ?_, fun x hx => ?_⟩
  ·have h5' : SlR w F 4 rtv (T.map QR.q) O5 := SlF.toR h5
   exact ⟨O5, h5'.conv (by rw [List.map_map, List.map_map]; rfl)⟩
  ·obtain ⟨y, hy, rfl⟩ := List.mem_map.1 hx
   exact code y.x.code y.z y.q.sl (List.mem_append_right _ (List.mem_map.2 ⟨y, hy, rfl⟩)) (hT y hy).code
end
section
variable {w0 w : World} {its rest : List Thing}
theorem pws_mem {Y : List QS} {u : SI × Sl} (h : u ∈ PWs Y) : ∃ y ∈ Y, u ∈ y.pw := List.mem_flatMap.1 h
set_option maxHeartbeats 4000000 in
theorem enc_kinds {s1 s2 : Sl} {xs : List SV} {ys : List RV} {pb qb : Nat} {S F L kinds were : Sl} {Y : List QS} {T : List QR} {lc : List SC} (hsm : Small xs ys) (hx : Y.map QS.x = xs) (hY : ∀ y ∈ Y, y.Ok) (h : Hp [] w0 w (EA s1 s2 xs ys pb qb S F L kinds were Y T lc ++ rest)) {K : Bool → World → Prop}
  (hK : ∀ w', Hp [] w0 w' (EA s1 s2 xs ys pb qb S F L kinds were Y T lc ++ rest) → K true w') :
  ∃ Inv_3 : Bool → Int → Nat → World → Prop, (∃ n : Nat, Inv_3 true 0 n w) ∧ ∀ kept2 : Bool, ∀ i3 : Int, ∀ m5 : Nat, ∀ w : World, Inv_3 kept2 i3 m5 w → (if (decide (i3 < (kinds.len : Int))) = true then (∃ Inv_4 : Bool → Int → Nat → World → Prop, (∃ n : Nat, Inv_4 kept2 0 n w) ∧ ∀ kept3 : Bool, ∀ k : Int, ∀ m7 : Nat, ∀ w : World, Inv_4 kept3 k m7 w → (Ix kinds.a kinds.len i3 1 fun (a3 : Addr) =>
 Ld .sl w a3 fun (x3 : Sl) =>
 if (decide (k < (x3.len : Int))) = true then (Dr w fun (w : World) =>
 if kept3 = true then (Ix were.a were.len i3 1 fun (a4 : Addr) =>
 Ld .sl w a4 fun (x4 : Sl) =>
 if (decide (k < (x4.len : Int))) = true then (Ix kinds.a kinds.len i3 1 fun (a5 : Addr) =>
 Ld .sl w a5 fun (x5 : Sl) =>
 Ix x5.a x5.len k 1 fun (a6 : Addr) =>
 Ld (.i .i64) w a6 fun (x6 : Int) =>
 Ix were.a were.len i3 1 fun (a7 : Addr) =>
 Ld .sl w a7 fun (x7 : Sl) =>
 Ix x7.a x7.len k 1 fun (a8 : Addr) =>
 Ld (.i .i64) w a8 fun (x8 : Int) =>
 if (x6 == x8) = true then (∃ m8 : Nat, m8 < m7 ∧ Inv_4 true (IntKind.i64.wrap (k + 1)) m8 w) else (Ix were.a were.len i3 1 fun (a9 : Addr) =>
 Ld .sl w a9 fun (x9 : Sl) =>
 if (decide (k ≥ (x9.len : Int))) = true then (Ix kinds.a kinds.len i3 1 fun (a10 : Addr) =>
 Ld .sl w a10 fun (x10 : Sl) =>
 Ix x10.a x10.len k 1 fun (a11 : Addr) =>
 Ld (.i .i64) w a11 fun (x11 : Int) =>
 ∃ m8 : Nat, m8 < m7 ∧ Inv_4 (x11 == (-7)) (IntKind.i64.wrap (k + 1)) m8 w) else (∃ m8 : Nat, m8 < m7 ∧ Inv_4 false (IntKind.i64.wrap (k + 1)) m8 w))) else (Ix were.a were.len i3 1 fun (a12 : Addr) =>
 Ld .sl w a12 fun (x12 : Sl) =>
 if (decide (k ≥ (x12.len : Int))) = true then (Ix kinds.a kinds.len i3 1 fun (a13 : Addr) =>
 Ld .sl w a13 fun (x13 : Sl) =>
 Ix x13.a x13.len k 1 fun (a14 : Addr) =>
 Ld (.i .i64) w a14 fun (x14 : Int) =>
 ∃ m8 : Nat, m8 < m7 ∧ Inv_4 (x14 == (-7)) (IntKind.i64.wrap (k + 1)) m8 w) else (∃ m8 : Nat, m8 < m7 ∧ Inv_4 false (IntKind.i64.wrap (k + 1)) m8 w))) else (∃ m8 : Nat, m8 < m7 ∧ Inv_4 false (IntKind.i64.wrap (k + 1)) m8 w)) else (∃ m6 : Nat, m6 < m5 ∧ Inv_3 kept3 (IntKind.i64.wrap (i3 + 1)) m6 w))) else (K kept2 w)) := by
 have hyl : Y.length = xs.length := by rw [← hx, List.length_map]
 have hpl := pws_len hY
 have hn := hsm.n
 have hml := h.nest_see (e := 52) (n := 1) (cells := siv) (sub := tS) (vis := id) (s := kinds) (l := (PWs Y).map (·.1)) 7 rfl
 rw [List.length_map, hpl] at hml
 refine ⟨fun kp i m w' => kp = true ∧ ∃ j : Nat, i = j ∧ j ≤ 4 * Y.length ∧ m = 4 * Y.length - j ∧ Hp [] w0 w' (EA s1 s2 xs ys pb qb S F L kinds were Y T lc ++ rest), ⟨_, rfl, 0, rfl, by omega, rfl, h⟩, ?_⟩
 clear h
 rintro kp i m w1 ⟨rfl, j, rfl, hj, rfl, h⟩
 by_cases hend : j = 4 * Y.length
 ·exact ifF (by simp; omega) (hK w1 h)
 obtain ⟨u, hu⟩ : ∃ u, (PWs Y)[j]? = some u := ⟨(PWs Y)[j]'(by omega), List.getElem?_eq_getElem (by omega)⟩
 obtain ⟨y, hy, huy⟩ := pws_mem (List.mem_of_getElem? hu)
 obtain ⟨t, ht, e1, e2⟩ := (hY y hy).pws u huy
 have hyx : y.x ∈ xs := by rw [← hx]; exact List.mem_map.2 ⟨y, hy, rfl⟩
 have hz : ((PWs Y).map (·.1))[((j : Nat) : Int).toNat]? = some u.1 := by rw [Int.toNat_natCast, List.getElem?_map, hu]; rfl
 have hw : ((PWs Y).map (·.2))[((j : Nat) : Int).toNat]? = some u.2 := by rw [Int.toNat_natCast, List.getElem?_map, hu]; rfl
 have hrd : Hp.Reads (tIs kinds ((PWs Y).map (·.1))) u.1.1 1 iv u.1.2 := Hp.nestSub (List.mem_of_getElem? hz) Hp.rdSl
 have hrw : Hp.Reads (tSys s1 xs).ro u.2 1 iv t.2 := by rw [e1]; exact sys_set hyx ht
 have hcl := (hsm.sys y.x hyx).2.2 t ht
 have hl80 : u.1.2.length = t.2.length + 80 := by rw [e2, List.length_append]; unfold padI; rw [List.length_replicate]
 refine ifT (by simp; omega) ?_
 refine ⟨fun kp k m w' => kp = true ∧ ∃ q : Nat, k = q ∧ q ≤ t.2.length + 80 ∧ m = t.2.length + 80 - q ∧ Hp [] w0 w' (EA s1 s2 xs ys pb qb S F L kinds were Y T lc ++ rest), ⟨_, rfl, 0, rfl, by omega, rfl, h⟩, ?_⟩
 clear h
 rintro kp k m w2 ⟨rfl, q, rfl, hq, rfl, h⟩
 have lk : ∀ {w' : World} {G : Sl → Prop}, Hp [] w0 w' (EA s1 s2 xs ys pb qb S F L kinds were Y T lc ++ rest) → G u.1.1 → Ix kinds.a kinds.len (j : Int) 1 fun a => Ld .sl w' a G := fun {w' G} h hG =>
  h.ixldU (k := .sl) (u := tIs kinds ((PWs Y).map (·.1))) (y := u.1) (x := u.1.1) 7 rfl Hp.nestRd (by omega) hz (fun _ => rfl) rfl hG
 have lw : ∀ {w' : World} {G : Sl → Prop}, Hp [] w0 w' (EA s1 s2 xs ys pb qb S F L kinds were Y T lc ++ rest) → G u.2 → Ix were.a were.len (j : Int) 1 fun a => Ld .sl w' a G := fun {w' G} h hG =>
  h.ixldU (k := .sl) (u := tSl were 52 1 slv ((PWs Y).map (·.2))) (y := u.2) (x := u.2) 8 rfl Hp.rdSl (by omega) hw (fun _ => rfl) rfl hG
 have hln := h.lenU (u := tIs kinds ((PWs Y).map (·.1))) 7 rfl hrd
 have hlw := h.lenU (u := (tSys s1 xs).ro) 0 rfl hrw
 refine lk h ?_
 by_cases hend2 : q = t.2.length + 80
 ·subst hend2
  refine ifF (by simp; omega) ?_
  exact ⟨4 * Y.length - (j + 1), by omega, rfl, j + 1, by rw [wr64 (by omega) (by omega)]; omega, by omega, rfl, h⟩
 refine ifT (by simp; omega) ?_
 refine h.dr fun w2 h => ?_
 refine ifT rfl (lw h ?_)
 have nxt : ∀ {b : Bool} {w' : World}, b = true → Hp [] w0 w' (EA s1 s2 xs ys pb qb S F L kinds were Y T lc ++ rest) → ∃ m8 : Nat, m8 < t.2.length + 80 - q ∧ b = true ∧ ∃ q' : Nat, (IntKind.i64.wrap ((q : Int) + 1)) = q' ∧ q' ≤ t.2.length + 80 ∧ m8 = t.2.length + 80 - q' ∧ Hp [] w0 w' (EA s1 s2 xs ys pb qb S F L kinds were Y T lc ++ rest) := fun {b w'} hb h =>
  ⟨t.2.length + 80 - (q + 1), by omega, hb, q + 1, by rw [wr64 (by omega) (by omega)]; omega, by omega, rfl, h⟩
 by_cases hin : q < t.2.length
 ·obtain ⟨v, hv⟩ : ∃ v, t.2[q]? = some v := ⟨t.2[q]'hin, List.getElem?_eq_getElem hin⟩
  have hv1 : u.1.2[((q : Nat) : Int).toNat]? = some v := by rw [Int.toNat_natCast, e2, List.getElem?_append_left hin]; exact hv
  refine ifT (by simp; omega) (lk h ?_)
  refine h.ixldU (k := .i .i64) (u := tIs kinds ((PWs Y).map (·.1))) (y := v) (x := v) 7 rfl hrd (by omega) hv1 iv_len rfl ?_
  refine lw h ?_
  refine h.ixldU (k := .i .i64) (u := (tSys s1 xs).ro) (y := v) (x := v) 0 rfl hrw (by omega) (by rw [Int.toNat_natCast]; exact hv) iv_len rfl ?_
  exact ifT (by simp) (nxt rfl h)
 ·have hv1 : u.1.2[((q : Nat) : Int).toNat]? = some (-7 : Int) := by
   rw [Int.toNat_natCast, e2, List.getElem?_append_right (by omega)]
   unfold padI
   rw [List.getElem?_replicate, if_pos (by omega)]
  refine ifF (by simp; omega) (lw h ?_)
  refine ifT (by simp; omega) (lk h ?_)
  refine h.ixldU (k := .i .i64) (u := tIs kinds ((PWs Y).map (·.1))) (y := (-7 : Int)) (x := (-7 : Int)) 7 rfl hrd (by omega) hv1 iv_len rfl ?_
  exact nxt rfl h
def pad8 (z : SC) : SC := (z.1, List.replicate (z.2.length + 80) ((-8, 0) : Ins))
def pad24 (z : SC) : SC := (z.1, List.replicate (z.2.length + 80) ((24, 0) : Ins))
def mix {α β : Type} (f g : α → β) (k : Nat) (l : List α) : List β := (l.take k).map f ++ (l.drop k).map g
theorem mix_zero {α β : Type} {f g : α → β} {l : List α} : mix f g 0 l = l.map g := by simp [mix]
theorem mix_all {α β : Type} {f g : α → β} {l : List α} {k : Nat} (h : l.length ≤ k) : mix f g k l = l.map f := by unfold mix; rw [List.take_of_length_le h, List.drop_of_length_le h]; simp
theorem mix_len {α β : Type} {f g : α → β} {l : List α} {k : Nat} : (mix f g k l).length = l.length := by unfold mix; simp; omega
theorem mix_at {α β : Type} {f g : α → β} {l : List α} {k : Nat} {z : α} (h : l[k]? = some z) : (mix f g k l)[k]? = some (g z) := by
 have hlt := (List.getElem?_eq_some_iff.1 h).1
 unfold mix
 rw [List.getElem?_append_right (by simp; omega)]
 have e : k - ((l.take k).map f).length = 0 := by simp; omega
 rw [e, List.getElem?_map, List.getElem?_drop, Nat.add_zero, h]; rfl
theorem mix_set {α β : Type} {f g : α → β} {l : List α} {k : Nat} {z : α} (h : l[k]? = some z) : (mix f g k l).set k (f z) = mix f g (k + 1) l := by
 have hlt := (List.getElem?_eq_some_iff.1 h).1
 unfold mix
 rw [List.set_append_right _ _ (by simp; omega)]
 have e : k - ((l.take k).map f).length = 0 := by simp; omega
 rw [e, drop_cons h, List.map_cons, List.set_cons_zero, List.take_add_one, h]
 simp
end
section
variable {w0 w : World} {its rest : List Thing}
theorem all_len (Y : List QS) (T : List QR) : (ALL Y T).length = Y.length + T.length := by unfold ALL; simp
set_option maxHeartbeats 4000000 in
theorem enc_lists {s1 s2 : Sl} {xs : List SV} {ys : List RV} {pb qb : Nat} {S F lists3 M W : Sl} {Y : List QS} {T : List QR} (hsm : Small xs ys) (hx : Y.map QS.x = xs) (hy : T.map QR.x = ys) (h : Hp [] w0 w (EA s1 s2 xs ys pb qb S F lists3 M W Y T ((ALL Y T).map pad0) ++ rest)) {K : Bool → World → Prop}
  (hK : ∀ w', Hp [] w0 w' (EA s1 s2 xs ys pb qb S F lists3 M W Y T ((ALL Y T).map pad8) ++ rest) → K true w') :
  ∃ Inv_5 : Bool → Int → Nat → World → Prop, (∃ n : Nat, Inv_5 true 0 n w) ∧ ∀ kept4 : Bool, ∀ i4 : Int, ∀ m9 : Nat, ∀ w : World, Inv_5 kept4 i4 m9 w → (if (decide (i4 < (lists3.len : Int))) = true then (Nw (.cells #[.string (⟨#[]⟩ : ByteArray), .int .i64 0, .int .i64 0, .slice none 0 0] 30) w fun (r7 : Addr) (w : World) =>
 St r7 (.string (⟨#[]⟩ : ByteArray)) w fun (w : World) =>
 St (r7.add 1) (.int .i64 0) w fun (w : World) =>
 St (r7.add 2) (.int .i64 0) w fun (w : World) =>
 St (r7.add 3) (.slice none 0 0) w fun (w : World) =>
 ∃ J_2 : World → Prop, (Ld .sl w ⟨pb, 0, none⟩ fun (Systems4 : Sl) =>
 if (decide (i4 < (Systems4.len : Int))) = true then (Ld .sl w ⟨pb, 0, none⟩ fun (Systems5 : Sl) =>
 Ix Systems5.a Systems5.len i4 8 fun (a15 : Addr) =>
 Ld .s w (a15.add 4) fun (Run_Name2 : ByteArray) => Ld (.i .i64) w ((a15.add 4).add 1) fun (Run_Params2 : Int) => Ld (.i .i64) w ((a15.add 4).add 2) fun (Run_Locals2 : Int) => Ld .sl w ((a15.add 4).add 3) fun (Run_Code2 : Sl) =>
 St r7 (.string Run_Name2) w fun (w : World) =>
 St (r7.add 1) (.int .i64 Run_Params2) w fun (w : World) =>
 St (r7.add 2) (.int .i64 Run_Locals2) w fun (w : World) =>
 St (r7.add 3) (.slice Run_Code2.a Run_Code2.len Run_Code2.cap) w fun (w : World) =>
 J_2  w) else (Ld .sl w ((⟨pb, 0, none⟩ : Addr).add 1) fun (Funcs4 : Sl) =>
 Ld .sl w ⟨pb, 0, none⟩ fun (Systems6 : Sl) =>
 Ix Funcs4.a Funcs4.len (IntKind.i64.wrap (i4 - (Systems6.len : Int))) 4 fun (a16 : Addr) =>
 Ld .s w a16 fun (r_Name5 : ByteArray) => Ld (.i .i64) w (a16.add 1) fun (r_Params5 : Int) => Ld (.i .i64) w (a16.add 2) fun (r_Locals5 : Int) => Ld .sl w (a16.add 3) fun (r_Code5 : Sl) =>
 St r7 (.string r_Name5) w fun (w : World) =>
 St (r7.add 1) (.int .i64 r_Params5) w fun (w : World) =>
 St (r7.add 2) (.int .i64 r_Locals5) w fun (w : World) =>
 St (r7.add 3) (.slice r_Code5.a r_Code5.len r_Code5.cap) w fun (w : World) =>
 J_2  w)) ∧ ∀ w : World, J_2  w → (Dr w fun (w : World) =>
 Ix lists3.a lists3.len i4 1 fun (a17 : Addr) =>
 Ld .sl w a17 fun (x15 : Sl) =>
 Ld .s w r7 fun (r_Name6 : ByteArray) => Ld (.i .i64) w (r7.add 1) fun (r_Params6 : Int) => Ld (.i .i64) w (r7.add 2) fun (r_Locals6 : Int) => Ld .sl w (r7.add 3) fun (r_Code6 : Sl) =>
 c24 x15 r_Name6 r_Params6 r_Locals6 r_Code6 w fun (k2 : Bool) (w : World) =>
 ∃ m10 : Nat, m10 < m9 ∧ Inv_5 (cond kept4 k2 false) (IntKind.i64.wrap (i4 + 1)) m10 w)) else (K kept4 w)) := by
 have hyl : Y.length = xs.length := by rw [← hx, List.length_map]
 have htl : T.length = ys.length := by rw [← hy, List.length_map]
 have hn := hsm.n
 have hn2 := hsm.m
 have hxl := h.lenU (u := (tSys s1 xs).ro) 0 rfl sys_reads
 have hyl2 := h.lenU (u := (tRts s2 ys).ro) 1 rfl rts_reads
 have hll := h.nest_see (e := 28) (n := 1) (cells := scv) (sub := subC) (vis := id) (s := lists3) (l := (ALL Y T).map pad0) 6 rfl
 rw [List.length_map, all_len] at hll
 have hal := all_len Y T
 refine ⟨fun kp i m w' => kp = true ∧ ∃ j : Nat, i = j ∧ j ≤ (ALL Y T).length ∧ m = (ALL Y T).length - j ∧ Hp [] w0 w' (EA s1 s2 xs ys pb qb S F lists3 M W Y T (mix pad8 pad0 j (ALL Y T)) ++ rest), ⟨_, rfl, 0, rfl, by omega, rfl, by rw [mix_zero]; exact h⟩, ?_⟩
 clear h
 rintro kp i m w1 ⟨rfl, j, rfl, hj, rfl, h⟩
 by_cases hend : j = (ALL Y T).length
 ·subst hend
  rw [mix_all (Nat.le_refl _)] at h
  exact ifF (by simp; omega) (hK w1 h)
 obtain ⟨z, hz⟩ : ∃ z, (ALL Y T)[j]? = some z := ⟨(ALL Y T)[j]'(by omega), List.getElem?_eq_getElem (by omega)⟩
 obtain ⟨lc, hlc⟩ : ∃ lc, lc = mix pad8 pad0 j (ALL Y T) := ⟨_, rfl⟩
 rw [← hlc] at h
 refine ifT (by simp; omega) ?_
 obtain ⟨A, hA⟩ : ∃ A, A = EA s1 s2 xs ys pb qb S F lists3 M W Y T lc ++ rest := ⟨_, rfl⟩
 have hAl : A.length = 9 + rest.length := by rw [hA]; simp; omega
 rw [← hA] at h
 have A0 : ∀ B, (A ++ B)[0]? = some (tSys s1 xs).ro := fun B => by rw [hA]; rfl
 have A1 : ∀ B, (A ++ B)[1]? = some (tRts s2 ys).ro := fun B => by rw [hA]; rfl
 have A2 : ∀ B, ((A ++ B)[2]?).map Thing.holds = some (tBlk pb 37 [.slice s1.a s1.len s1.cap, .slice s2.a s2.len s2.cap]).holds := fun B => by rw [hA]; rfl
 have A6 : ∀ B, (A ++ B)[6]? = some (tCs lists3 lc) := fun B => by rw [hA]; rfl
 have an : ∀ t : Thing, (A ++ [t])[A.length]? = some t := fun t => List.getElem?_concat_length
 refine rt_copy h (nm := ⟨#[]⟩) (pa := 0) (lo := 0) (sl := n3) fun rb w1 h => ?_
 refine ⟨fun w' => ∃ (nm : ByteArray) (pa lo : Int) (sl : Sl) (ix : Nat) (u : Thing), ix < 6 ∧ (∀ B, (A ++ B)[ix]? = some u) ∧ Hp.Reads u sl 2 insv z.2 ∧ z.2.length ≤ 8796093022208 ∧ Hp [] w0 w' (A ++ [tBlk rb 30 [.string nm, .int .i64 pa, .int .i64 lo, .slice sl.a sl.len sl.cap]]), ?_, ?_⟩
 ·have st4 : ∀ {nm : ByteArray} {pa lo : Int} {sl : Sl} {w' : World} {G : World → Prop}, Hp [] w0 w' (A ++ [tBlk rb 30 [.string ⟨#[]⟩, .int .i64 0, .int .i64 0, .slice none 0 0]]) → (∀ w', Hp [] w0 w' (A ++ [tBlk rb 30 [.string nm, .int .i64 pa, .int .i64 lo, .slice sl.a sl.len sl.cap]]) → G w') →
    St ⟨rb, 0, none⟩ (.string nm) w' fun (w : World) => St ((⟨rb, 0, none⟩ : Addr).add 1) (.int .i64 pa) w fun (w : World) => St ((⟨rb, 0, none⟩ : Addr).add 2) (.int .i64 lo) w fun (w : World) => St ((⟨rb, 0, none⟩ : Addr).add 3) (.slice sl.a sl.len sl.cap) w fun (w : World) => G w := fun {nm pa lo sl w' G} h hG => by
   refine h.st0 A.length (an _) (by simp) rfl fun w2 h => ?_
   rw [set_last] at h
   refine h.st (n := 1) A.length (an _) (by simp) rfl fun w2 h => ?_
   rw [set_last] at h
   refine h.st (n := 2) A.length (an _) (by simp) rfl fun w2 h => ?_
   rw [set_last] at h
   refine h.st (n := 3) A.length (an _) (by simp) rfl fun w2 h => ?_
   rw [set_last] at h
   exact hG w2 h
  refine h.ld0 (k := .sl) (x := s1) 2 (A2 _) rfl ?_
  by_cases hin : j < xs.length
  ·refine ifT (by simp; omega) ?_
   refine h.ld0 (k := .sl) (x := s1) 2 (A2 _) rfl ?_
   obtain ⟨x, hxj⟩ : ∃ x, xs[j]? = some x := ⟨xs[j]'hin, List.getElem?_eq_getElem hin⟩
   have hxm := List.mem_of_getElem? hxj
   have hzx : z.2 = x.run.code := by
    unfold ALL at hz
    rw [List.getElem?_append_left (by simp; omega), List.getElem?_map] at hz
    obtain ⟨y, hy1, rfl⟩ := Option.map_eq_some_iff.1 hz
    rw [← hx, List.getElem?_map, hy1] at hxj
    cases hxj
    rfl
   obtain ⟨O, hO⟩ := h.see (i := 0) (t := (tSys s1 xs).ro) (A0 _)
   obtain ⟨o, hR⟩ := sys_reads.rd hO
   refine SlR.ix syv_len hR (by omega) (x := x) (by rw [Int.toNat_natCast]; exact hxj) fun ad hc => ?_
   refine ldR (k := .s) (x := x.run.nm) (hc 4 (by decide)) rfl ?_
   rw [Addr.add_add_any, Addr.add_add_any, Addr.add_add_any]
   refine ldR (k := .i .i64) (x := x.run.pa) (hc 5 (by decide)) rfl ?_
   refine ldR (k := .i .i64) (x := x.run.lo) (hc 6 (by decide)) rfl ?_
   refine ldR (k := .sl) (x := x.run.sl) (hc 7 (by decide)) rfl ?_
   refine st4 h fun w2 h => ?_
   exact ⟨_, _, _, _, 0, (tSys s1 xs).ro, by decide, A0, by rw [hzx]; exact sys_code hxm, by rw [hzx]; exact (hsm.sys x hxm).2.1, h⟩
  ·refine ifF (by simp; omega) ?_
   refine h.ld (n := 1) (k := .sl) (x := s2) 2 (A2 _) rfl ?_
   refine h.ld0 (k := .sl) (x := s1) 2 (A2 _) rfl ?_
   obtain ⟨x, hxj⟩ : ∃ x, ys[j - xs.length]? = some x := ⟨ys[j - xs.length]'(by omega), List.getElem?_eq_getElem (by omega)⟩
   have hxm := List.mem_of_getElem? hxj
   have hzx : z.2 = x.code := by
    unfold ALL at hz
    rw [List.getElem?_append_right (by simp; omega), List.getElem?_map, List.length_map, hyl] at hz
    obtain ⟨y, hy1, rfl⟩ := Option.map_eq_some_iff.1 hz
    rw [← hy, List.getElem?_map, hy1] at hxj
    cases hxj
    rfl
   have ew : IntKind.i64.wrap ((j : Int) - (s1.len : Int)) = ((j - xs.length : Nat) : Int) := by rw [wr64 (by omega) (by omega)]; omega
   rw [ew]
   refine rts_ld h 1 (A1 _) hxj ?_
   refine st4 h fun w2 h => ?_
   exact ⟨_, _, _, _, 1, (tRts s2 ys).ro, by decide, A1, by rw [hzx]; exact rts_code hxm, by rw [hzx]; exact (hsm.fns x hxm).2, h⟩
 clear h
 rintro w2 ⟨nm, pa, lo, sl, ix, u, hix, hu, hur, hzl, h⟩
 have hlz : lc[j]? = some (pad0 z) := by rw [hlc]; exact mix_at hz
 refine h.dr fun w2 h => ?_
 refine h.ixldU (k := .sl) (u := tCs lists3 lc) (y := pad0 z) (x := z.1) 6 (by rw [A6]; rfl) Hp.nestRd (by omega) (by rw [Int.toNat_natCast]; exact hlz) (fun _ => rfl) rfl ?_
 refine h.ld0 (k := .s) (x := nm) A.length (by rw [an]; rfl) rfl ?_
 refine h.ld (n := 1) (k := .i .i64) (x := pa) A.length (by rw [an]; rfl) rfl ?_
 refine h.ld (n := 2) (k := .i .i64) (x := lo) A.length (by rw [an]; rfl) rfl ?_
 refine h.ld (n := 3) (k := .sl) (x := sl) A.length (by rw [an]; rfl) rfl ?_
 obtain ⟨rbT, hrbT⟩ : ∃ rbT, rbT = tBlk rb 30 [.string nm, .int .i64 pa, .int .i64 lo, .slice sl.a sl.len sl.cap] := ⟨_, rfl⟩
 rw [← hrbT] at h
 have h := h.hole (e := 28) (n := 1) (cells := scv) (sub := subC) (s := lists3) (l := lc) (i := 6) (k := j) (z := pad0 z) (A6 _) hlz rfl
 have hset6 : (A ++ [rbT]).set 6 (tHole 28 1 scv subC lists3 lc j) = A.set 6 (tHole 28 1 scv subC lists3 lc j) ++ [rbT] := List.set_append_left _ _ (by omega)
 rw [hset6] at h
 obtain ⟨A', hA'⟩ : ∃ A', A' = A.set 6 (tHole 28 1 scv subC lists3 lc j) := ⟨_, rfl⟩
 rw [← hA'] at h
 have hAl' : A'.length = A.length := by rw [hA', List.length_set]
 have hu2 : ∀ B : List Thing, (A' ++ B)[ix]? = some u := fun B => by
  have := hu B
  rw [List.getElem?_append_left (by omega)] at this ⊢
  rw [hA', List.getElem?_set_ne (by omega)]
  exact this
 have b2 : ∀ t t' : Thing, (A' ++ [t] ++ [t'])[A'.length + 1]? = some t' := fun t t' => by simp
 have b3 : ∀ t t' v : Thing, (A' ++ [t] ++ [t']).set (A'.length + 1) v = A' ++ [t] ++ [v] := fun t t' v => by rw [List.set_append_right _ _ (by simp)]; simp
 have b6 : ∀ B : List Thing, (A' ++ B)[6]? = some (tHole 28 1 scv subC lists3 lc j) := fun B => by
  rw [List.getElem?_append_left (by omega), hA', List.getElem?_set_self (by omega)]
 refine still_spec h (A'.length + 1) ix (by omega) (u := u) (l := z.1) (code := z.2) (b2 _ _) (by rw [List.append_assoc]; exact hu2 _) hur hzl fun w3 h => ?_
 rw [b3] at h
 have h := h.unhole (e := 28) (n := 1) (cells := scv) (sub := subC) (s := lists3) (l := lc) (i := 6) (m := A'.length + 1) (k := j) (z := pad0 z) (z' := pad8 z) (by omega) (by rw [List.append_assoc]; exact b6 _) (b2 _ _) hlz rfl rfl
 have hset : lc.set j (pad8 z) = mix pad8 pad0 (j + 1) (ALL Y T) := by rw [hlc]; exact mix_set hz
 rw [hset] at h
 have e7 : ((A' ++ [rbT] ++ [tSl z.1 23 2 insv (List.replicate (z.2.length + 80) ((-8, 0) : Ins))]).set 6 (tNest 28 1 scv subC id lists3 (mix pad8 pad0 (j + 1) (ALL Y T)))).set (A'.length + 1) tEmp = (EA s1 s2 xs ys pb qb S F lists3 M W Y T (mix pad8 pad0 (j + 1) (ALL Y T)) ++ rest) ++ [rbT] ++ [tEmp] := by
  rw [List.append_assoc, List.set_append_left _ _ (by omega), List.set_append_right _ _ (by simp)]
  rw [hA', List.set_set, hA]
  simp
 rw [e7] at h
 have h := h.front.front
 exact ⟨(ALL Y T).length - (j + 1), by omega, rfl, j + 1, by rw [wr64 (by omega) (by omega)]; omega, by omega, rfl, h⟩
set_option maxHeartbeats 4000000 in
theorem enc_step {s1 s2 : Sl} {xs : List SV} {ys : List RV} {pb qb : Nat} {S F lists3 M W : Sl} {Y : List QS} {T : List QR} (hsm : Small xs ys) (hx : Y.map QS.x = xs) (hy : T.map QR.x = ys) (h : Hp [] w0 w (EA s1 s2 xs ys pb qb S F lists3 M W Y T ((ALL Y T).map pad8) ++ rest)) {K : World → Prop}
  (hK : ∀ w', Hp [] w0 w' (EA s1 s2 xs ys pb qb S F lists3 M W Y T ((ALL Y T).map pad24) ++ rest) → K w') :
  ∃ Inv_6 : Int → Nat → World → Prop, (∃ n : Nat, Inv_6 0 n w) ∧ ∀ i5 : Int, ∀ m11 : Nat, ∀ w : World, Inv_6 i5 m11 w → (if (decide (i5 < (lists3.len : Int))) = true then (∃ Inv_7 : Int → Nat → World → Prop, (∃ n : Nat, Inv_7 0 n w) ∧ ∀ k3 : Int, ∀ m13 : Nat, ∀ w : World, Inv_7 k3 m13 w → (Ix lists3.a lists3.len i5 1 fun (a18 : Addr) =>
 Ld .sl w a18 fun (x16 : Sl) =>
 if (decide (k3 < (x16.len : Int))) = true then (Ix lists3.a lists3.len i5 1 fun (a19 : Addr) =>
 Ld .sl w a19 fun (x17 : Sl) =>
 Ix x17.a x17.len k3 2 fun (a20 : Addr) =>
 St a20 (.int .i64 24) w fun (w : World) =>
 St (a20.add 1) (.int .i64 0) w fun (w : World) =>
 ∃ m14 : Nat, m14 < m13 ∧ Inv_7 (IntKind.i64.wrap (k3 + 1)) m14 w) else (∃ m12 : Nat, m12 < m11 ∧ Inv_6 (IntKind.i64.wrap (i5 + 1)) m12 w))) else (K w)) := by
 have hyl : Y.length = xs.length := by rw [← hx, List.length_map]
 have htl : T.length = ys.length := by rw [← hy, List.length_map]
 have hn := hsm.n
 have hn2 := hsm.m
 have hll := h.nest_see (e := 28) (n := 1) (cells := scv) (sub := subC) (vis := id) (s := lists3) (l := (ALL Y T).map pad8) 6 rfl
 rw [List.length_map, all_len] at hll
 have hal := all_len Y T
 have hcl : ∀ z ∈ ALL Y T, z.2.length ≤ 8796093022208 := fun z hz => by
  unfold ALL at hz
  rcases List.mem_append.1 hz with hz | hz
  ·obtain ⟨y, hy1, rfl⟩ := List.mem_map.1 hz
   exact (hsm.sys y.x (by rw [← hx]; exact List.mem_map.2 ⟨y, hy1, rfl⟩)).2.1
  ·obtain ⟨y, hy1, rfl⟩ := List.mem_map.1 hz
   exact (hsm.fns y.x (by rw [← hy]; exact List.mem_map.2 ⟨y, hy1, rfl⟩)).2
 refine ⟨fun i m w' => ∃ j : Nat, i = j ∧ j ≤ (ALL Y T).length ∧ m = (ALL Y T).length - j ∧ Hp [] w0 w' (EA s1 s2 xs ys pb qb S F lists3 M W Y T (mix pad24 pad8 j (ALL Y T)) ++ rest), ⟨_, 0, rfl, by omega, rfl, by rw [mix_zero]; exact h⟩, ?_⟩
 clear h
 rintro i m w1 ⟨j, rfl, hj, rfl, h⟩
 by_cases hend : j = (ALL Y T).length
 ·subst hend
  rw [mix_all (Nat.le_refl _)] at h
  exact ifF (by simp; omega) (hK w1 h)
 obtain ⟨z, hz⟩ : ∃ z, (ALL Y T)[j]? = some z := ⟨(ALL Y T)[j]'(by omega), List.getElem?_eq_getElem (by omega)⟩
 have hzl := hcl z (List.mem_of_getElem? hz)
 obtain ⟨lc, hlc⟩ : ∃ lc, lc = mix pad24 pad8 j (ALL Y T) := ⟨_, rfl⟩
 rw [← hlc] at h
 have hlz : lc[j]? = some (pad8 z) := by rw [hlc]; exact mix_at hz
 refine ifT (by simp; omega) ?_
 have hset : lc.set j (pad24 z) = mix pad24 pad8 (j + 1) (ALL Y T) := by rw [hlc]; exact mix_set hz
 have hst : ∀ q : Nat, lc.set j (z.1, List.replicate q ((24, 0) : Ins) ++ List.replicate (z.2.length + 80 - q) ((-8, 0) : Ins)) = lc.set j (z.1, List.replicate q ((24, 0) : Ins) ++ List.replicate (z.2.length + 80 - q) ((-8, 0) : Ins)) := fun _ => rfl
 refine ⟨fun k m w' => ∃ q : Nat, k = q ∧ q ≤ z.2.length + 80 ∧ m = z.2.length + 80 - q ∧ Hp [] w0 w' (EA s1 s2 xs ys pb qb S F lists3 M W Y T (lc.set j (z.1, List.replicate q ((24, 0) : Ins) ++ List.replicate (z.2.length + 80 - q) ((-8, 0) : Ins))) ++ rest), ⟨_, 0, rfl, by omega, rfl, ?_⟩, ?_⟩
 ·have e : lc.set j (z.1, List.replicate 0 ((24, 0) : Ins) ++ List.replicate (z.2.length + 80 - 0) ((-8, 0) : Ins)) = lc := by
   rw [List.replicate_zero, List.nil_append, Nat.sub_zero]
   exact Hp.set_same' hlz
  rw [e]; exact h
 clear h
 rintro k m w2 ⟨q, rfl, hq, rfl, h⟩
 have hjl : j < lc.length := by rw [hlc, mix_len]; omega
 obtain ⟨zc, hzc⟩ : ∃ zc : SC, zc = (z.1, List.replicate q ((24, 0) : Ins) ++ List.replicate (z.2.length + 80 - q) ((-8, 0) : Ins)) := ⟨_, rfl⟩
 rw [← hzc] at h
 have hlz2 : (lc.set j zc)[j]? = some zc := by rw [List.getElem?_set_self hjl]
 have hz1 : zc.1 = z.1 := by rw [hzc]
 have hrd : Hp.Reads (tCs lists3 (lc.set j zc)) zc.1 2 insv zc.2 := Hp.nestSub (List.mem_of_getElem? hlz2) Hp.rdSl
 have hln := h.lenU (u := tCs lists3 (lc.set j zc)) 6 rfl hrd
 have hl2 : zc.2.length = z.2.length + 80 := by rw [hzc]; simp; omega
 refine h.ixldU (k := .sl) (u := tCs lists3 (lc.set j zc)) (y := zc) (x := zc.1) 6 rfl Hp.nestRd (by omega) (by rw [Int.toNat_natCast]; exact hlz2) (fun _ => rfl) rfl ?_
 by_cases hend2 : q = z.2.length + 80
 ·refine ifF (by simp; omega) ?_
  have e : zc = pad24 z := by rw [hzc, hend2, Nat.sub_self]; simp [pad24]
  rw [e, hset] at h
  exact ⟨(ALL Y T).length - (j + 1), by omega, j + 1, by rw [wr64 (by omega) (by omega)]; omega, by omega, rfl, h⟩
 refine ifT (by simp; omega) ?_
 refine h.ixldU (k := .sl) (u := tCs lists3 (lc.set j zc)) (y := zc) (x := zc.1) 6 rfl Hp.nestRd (by omega) (by rw [Int.toNat_natCast]; exact hlz2) (fun _ => rfl) rfl ?_
 have hEl : (EA s1 s2 xs ys pb qb S F lists3 M W Y T (lc.set j zc) ++ rest).length = 9 + rest.length := by simp; omega
 have h := h.hole (e := 28) (n := 1) (cells := scv) (sub := subC) (s := lists3) (l := lc.set j zc) (i := 6) (k := j) (z := zc) rfl hlz2 rfl
 obtain ⟨hd, hhd⟩ : ∃ hd : List Thing, hd = (EA s1 s2 xs ys pb qb S F lists3 M W Y T (lc.set j zc) ++ rest).set 6 (tHole 28 1 scv subC lists3 (lc.set j zc) j) := ⟨_, rfl⟩
 rw [← hhd] at h
 have hdl : hd.length = 9 + rest.length := by rw [hhd, List.length_set, hEl]
 refine h.ixst2 hd.length (y := ((24, 0) : Ins)) List.getElem?_concat_length (by omega) (by rw [Int.toNat_natCast]; omega) insv_len rfl rfl rfl fun w4 h => ?_
 rw [set_last, Int.toNat_natCast] at h
 have e3 : zc.2.set q ((24, 0) : Ins) = List.replicate (q + 1) ((24, 0) : Ins) ++ List.replicate (z.2.length + 80 - (q + 1)) ((-8, 0) : Ins) := by
  obtain ⟨r, hr⟩ : ∃ r, z.2.length + 80 - q = r + 1 := ⟨z.2.length + 79 - q, by omega⟩
  rw [hzc]
  show (List.replicate q ((24, 0) : Ins) ++ List.replicate (z.2.length + 80 - q) ((-8, 0) : Ins)).set q (24, 0) = _
  rw [hr, List.replicate_succ, List.set_append_right _ _ (by simp)]
  have e4 : q - (List.replicate q ((24, 0) : Ins)).length = 0 := by simp
  rw [e4, List.set_cons_zero, List.replicate_succ']
  have : z.2.length + 80 - (q + 1) = r := by omega
  rw [this]; simp
 rw [e3] at h
 obtain ⟨zn, hzn⟩ : ∃ zn : SC, zn = (z.1, List.replicate (q + 1) ((24, 0) : Ins) ++ List.replicate (z.2.length + 80 - (q + 1)) ((-8, 0) : Ins)) := ⟨_, rfl⟩
 have h : Hp [] w0 w4 (hd ++ [subC zn]) := by rw [hzn]; rw [hz1] at h; exact h
 have h := h.unhole (e := 28) (n := 1) (cells := scv) (sub := subC) (s := lists3) (l := lc.set j zc) (i := 6) (m := hd.length) (k := j) (z := zc) (z' := zn) (by omega) (by rw [List.getElem?_append_left (by omega), hhd]; rfl) List.getElem?_concat_length hlz2 (by rw [hzn]; show slv z.1 = slv zc.1; rw [hz1]) rfl
 rw [List.set_set] at h
 have e5 : ((hd ++ [subC zn]).set 6 (tNest 28 1 scv subC id lists3 (lc.set j zn))).set hd.length tEmp = (EA s1 s2 xs ys pb qb S F lists3 M W Y T (lc.set j zn) ++ rest) ++ [tEmp] := by
  rw [List.set_append_left _ _ (by omega), List.set_append_right _ _ (by simp), List.length_set, Nat.sub_self, hhd, List.set_set]
  rfl
 rw [e5] at h
 have h := h.front
 rw [hzn] at h
 exact ⟨z.2.length + 80 - (q + 1), by omega, q + 1, by rw [wr64 (by omega) (by omega)]; omega, by omega, rfl, h⟩
end
end Go.Proofs.YtmfgofbcnlkolaaGreatDoor.F
end
