/-
  Part 4 of the proof: CodeWords is true of the given program: its row, and the card tied to the program's text.
-/
import Derived.Test.YtmfgofbcnlkolaaGreatDoorPkC
import Derived.Tactics
import Derived.Tactics2
import Derived.Defers
import Derived.Recover
import Derived.Shelf.Strings.Builder1
import Derived.Shelf.Strings.BuilderF
import Derived.Shelf.Strings.BuilderK
import Derived.Shelf.Utf8.RuneCount
import Derived.Shelf.Strconv.Itoa0
import Derived.Shelf.Strconv.Itoa1
import Derived.Shelf.LaysM
import Derived.Shelf.Strconv.Itoa2
import Derived.Shelf.Strconv.Itoa3
import Derived.Shelf.Strconv.Itoa4
import Derived.Shelf.Strconv.ParseIntEmpty
import Derived.Shelf.Strconv.Clone
import Derived.Shelf.Strconv.SyntaxError
import Derived.Shelf.LaysC
import Derived.Shelf.Strconv.ToError
import Derived.Shelf.Strconv.Lower
import Derived.Shelf.Strconv.ParseUint10
import Derived.Shelf.Strconv.ParseUint10Empty
import Derived.Shelf.Strconv.ParseUint10Any
import Derived.Shelf.Strconv.ParseInt10
import Derived.Shelf.Strconv.RangeError
import Derived.Shelf.Strconv.ToErrorRange
import Derived.Shelf.Strconv.ParseUintEmpty
import Derived.Shelf.Strconv.ParseUint10b64
import Derived.Shelf.Strconv.ParseUint10b32
import Derived.Shelf.Strconv.ParseUint10b16
import Derived.Shelf.Strconv.ParseUint10b8
import Derived.Shelf.Strconv.ParseUint10At
import Derived.Shelf.Strconv.ParseInt10At64
import Derived.Shelf.Strconv.ParseInt10At32
import Derived.Shelf.Strconv.ParseInt10At16
import Derived.Shelf.Strconv.ParseInt10At8
import Derived.Shelf.Strconv.ParseInt10All
import Derived.Shelf.Strconv.ParseIntPublic10
import Derived.Shelf.Strconv.ErrVarParseInt
import Derived.Shelf.Strings.Search1
import Derived.Shelf.Strings.Search2
import Derived.Shelf.Strings.Search3
import Derived.Shelf.Strings.Cut
import Derived.Shelf.Strings.Count
import Derived.Shelf.Strings.Shaped
import Derived.Shelf.Strings.Split
import Derived.Shelf.Strings.SplitShaped
import Derived.Shelf.Unicode.Decode
import Derived.Shelf.Strings.RuneCount
import Derived.Shelf.Strings.Explode
import Derived.Shelf.Unicode.DecodeSlow
import Derived.Shelf.Unicode.DecodeAny
import Derived.Shelf.Strings.BuilderCap
import Derived.Lib.ItoaLen
import Derived.Lib.AppendIntMem
import Derived.Lib.SplitLaws
import Derived.Lib.AtoiErrMem
import Derived.Lib.Overlaps
import Derived.Lib.AppendZerosOnto
import Derived.Below
import Derived.OpenShut
import Derived.SizedLaws
import Derived.ChangeOld
import Derived.Shelf.Vars
import Derived.Stop.LaidErr
import Derived.Lib.LaidTab
set_option linter.unusedSimpArgs false
set_option linter.unusedVariables false
set_option maxRecDepth 100000
section
namespace Go.Proofs.YtmfgofbcnlkolaaGreatDoor.F
open Go Go.Den Go.Proofs
section
variable {S : List Nat} {w0 w : World} {its rest : List Thing}
theorem midst3 {rb fb e : Nat} {c : List Value} {ub : Thing} {X : List Thing} (h : Hp S w0 w (tBlk rb 84 c :: ub :: (X ++ rest) ++ [tFault fb e])) : Hp S w0 w (tBlk rb 84 c :: ub :: rest ++ [tFault fb e]) :=
 midst2 (X := X) (Y := []) (by simpa using h)
theorem set_two {A : List Thing} {t u v e : Thing} {i : Nat} (hi : i < A.length) : ((A ++ [t] ++ [u]).set i v).set (A.length + 1) e = A.set i v ++ [t] ++ [e] := by
 rw [List.append_assoc, List.set_append_left _ _ hi, List.set_append_right _ _ (by simp)]; simp
abbrev ST (rb : Nat) (b : Sl) (ub : Thing) (rest : List Thing) (A P : Nat) (a : Nat) (left : Int) (ss : Sl) (sy : List SY) (fs : Sl) (fn : List RT) : List Thing :=
 rdr rb b a left :: ub :: ([tBlk A 37 [.slice none 0 0, .slice none 0 0], tBlk P 37 [.slice ss.a ss.len ss.cap, .slice fs.a fs.len fs.cap], tSyN ss sy, tFnN fs fn] ++ rest)
theorem program_spec {rb : Nat} {b : Sl} {ub : Thing} {l : List Int} (h : Hp S w0 w (rdr rb b 0 2000 :: ub :: rest)) (hs : Src ub b l)
  {R : Sl → Sl → World → Prop} {E : List PanicEntry → World → Prop}
  (hok : ∀ p, pgD l = .ok p → ∀ s1 s2 c w', Hp S w0 w' (tBlk rb 84 c :: ub :: rest ++ [tSyN s1 p.sys, tFnN s2 p.fns]) → R s1 s2 w')
  (herr : ∀ e, pgD l = .error e → ∀ fb c w', Hp S w0 w' (tBlk rb 84 c :: ub :: rest ++ [tFault fb e]) → E (flt fb) w') : c37 (some ⟨rb, 0, none⟩) w R E := by
 refine c37_of ?_
 unfold f37
 obtain ⟨inf, i1, i2, i3, i4⟩ := inf54
 obtain ⟨inf', j1, j2, j3, j4⟩ := inf30
 have hln := hs.len
 unfold pgD at hok herr
 refine h.nw fun A w1 h => ?_
 refine h.nw fun P w1 h => ?_
 have h := (h.nest_nil 54 8 syv subY SV.m).nest_nil 30 4 rtv subI RV.r
 have h : Hp S w0 w1 ([rdr rb b (0 : Nat) 2000, ub] ++ rest ++ [tBlk A 37 [.slice none 0 0, .slice none 0 0], tBlk P 37 [.slice none 0 0, .slice none 0 0], tSyN ⟨none, 0, 0⟩ [], tFnN ⟨none, 0, 0⟩ []]) := by simpa using h
 have h := h.swap2
 have h : Hp S w0 w1 (ST rb b ub rest A P 0 2000 ⟨none, 0, 0⟩ [] ⟨none, 0, 0⟩ []) := h
 refine number_spec h hs (by omega) (by decide) (by decide) (by decide) (by decide) (fun n a1 hn w2 h => ?_) (fun e he fb c w2 h => herr e (by rw [he]; rfl) fb c w2 (midst3 h))
 rw [hn, bnd_ok] at hok herr
 obtain ⟨n1, n2, n3, n4, n5, _⟩ := numD_ok hs.by_ hn
 refine ⟨fun t m w' => ∃ (k a' : Nat) (left : Int) (sy : List SY) (ss : Sl), t = k ∧ k ≤ n.toNat ∧ m = k ∧ sy.length + k = n.toNat ∧ a' ≤ l.length ∧ 0 ≤ left ∧ left ≤ 2000 ∧ sysF l n.toNat 2000 a1 = bnd (sysF l k left a') (fun r x => .ok ((sy ++ r.1, r.2), x)) ∧ Hp S w0 w' (ST rb b ub rest A P a' left ss sy ⟨none, 0, 0⟩ []),
  ⟨n.toNat, n.toNat, a1, 2000, [], ⟨none, 0, 0⟩, by omega, by omega, rfl, by simp, n5, by decide, by decide, ?_, h⟩, ?_⟩
 ·cases sysF l n.toNat 2000 a1 with
  | error e => rfl
  | ok x => rfl
 clear h
 rintro t k w3 ⟨_, a2, left, sy, ss, rfl, hk, rfl, hsy, ha2, hl0, hl1, hF, h⟩
 rw [hF] at hok herr
 by_cases hk0 : k = 0
 ·subst hk0
  refine ifF (by simp) ?_
  have e0 : bnd (sysF l 0 left a2) (fun r x => (Except.ok ((sy ++ r.1, r.2), x) : DR (List SY × Int))) = .ok ((sy, left), a2) := by
   show bnd (.ok (([], left), a2)) _ = _
   rw [bnd_ok, List.append_nil]
  rw [e0, bnd_ok] at hok herr
  clear hF e0
  refine number_spec h hs ha2 (by decide) (by decide) (by decide) (by decide) (fun n2 a3 hn2 w4 h => ?_) (fun e he fb c w4 h => herr e (by rw [he]; rfl) fb c w4 (midst3 h))
  rw [hn2, bnd_ok] at hok herr
  obtain ⟨m1, m2, m3, m4, m5, _⟩ := numD_ok hs.by_ hn2
  refine ⟨fun t m w' => ∃ (k a' : Nat) (left' : Int) (fn : List RT) (fs : Sl), t = k ∧ k ≤ n2.toNat ∧ m = k ∧ fn.length + k = n2.toNat ∧ a' ≤ l.length ∧ 0 ≤ left' ∧ left' ≤ 2000 ∧ fnsF l n2.toNat left a3 = bnd (fnsF l k left' a') (fun r x => .ok ((fn ++ r.1, r.2), x)) ∧ Hp S w0 w' (ST rb b ub rest A P a' left' ss sy fs fn),
   ⟨n2.toNat, n2.toNat, a3, left, [], ⟨none, 0, 0⟩, by omega, by omega, rfl, by simp, m5, hl0, hl1, ?_, h⟩, ?_⟩
  ·cases fnsF l n2.toNat left a3 with
   | error e => rfl
   | ok x => rfl
  clear h
  rintro t k w5 ⟨_, a4, left', fn, fs, rfl, hk, rfl, hfn, ha4, hf0, hf1, hF, h⟩
  rw [hF] at hok herr
  by_cases hk0 : k = 0
  ·subst hk0
   refine ifF (by simp) ?_
   have e0 : bnd (fnsF l 0 left' a4) (fun r x => (Except.ok ((fn ++ r.1, r.2), x) : DR (List RT × Int))) = .ok ((fn, left'), a4) := by
    show bnd (.ok (([], left'), a4)) _ = _
    rw [bnd_ok, List.append_nil]
   rw [e0, bnd_ok] at hok herr
   refine h.dr fun w6 h => ?_
   rw [NN_some]
   refine h.ld (n := 1) (k := .i .i64) (x := a4) 0 rfl rfl ?_
   rw [NN_some]
   refine h.ld0 (k := .sl) (x := b) 0 rfl rfl ?_
   have hbl := hs.sl
   by_cases hend : a4 < l.length
   ·rw [if_pos hend] at herr
    refine ifT (by simp; omega) ?_
    rw [NN_some]
    refine h.ld (n := 1) (k := .i .i64) (x := a4) 0 rfl rfl ?_
    exact wrong_spec h fun fb w7 h => herr a4 rfl fb [.slice b.a b.len b.cap, .int .i64 a4, .int .i64 left'] w7 (midst3 h)
   ·rw [if_neg hend] at hok
    refine ifF (by simp; omega) ?_
    refine h.ld0 (k := .sl) (x := ss) 3 rfl rfl ?_
    refine h.ld (n := 1) (k := .sl) (x := fs) 3 rfl rfl ?_
    refine h.st0 2 rfl (by simp) rfl fun w7 h => ?_
    refine h.st (n := 1) 2 rfl (by simp) rfl fun w7 h => ?_
    refine h.ld0 (k := .sl) (x := ss) 2 rfl rfl ?_
    refine h.ld (n := 1) (k := .sl) (x := fs) 2 rfl rfl ?_
    refine hok _ rfl ss fs [.slice b.a b.len b.cap, .int .i64 a4, .int .i64 left'] w7 ?_
    have h : Hp S w0 w7 ([rdr rb b a4 left', ub] ++ [tBlk A 37 [.slice ss.a ss.len ss.cap, .slice fs.a fs.len fs.cap], tBlk P 37 [.slice ss.a ss.len ss.cap, .slice fs.a fs.len fs.cap]] ++ ([tSyN ss sy, tFnN fs fn] ++ rest)) := h
    have h := h.cutMid
    have h : Hp S w0 w7 ([rdr rb b a4 left', ub] ++ [tSyN ss sy, tFnN fs fn] ++ rest) := by simpa using h
    simpa using h.swap2
  ·obtain ⟨q, rfl⟩ : ∃ q, k = q + 1 := ⟨k - 1, by omega⟩
   refine ifT (by simp) ?_
   refine h.dr fun w6 h => ?_
   refine h.ld (n := 1) (k := .sl) (x := fs) 3 rfl rfl ?_
   refine routine_spec h hs ha4 hf0 hf1 (fun r left2 a5 hr ha5 g0 g1 sl w7 h => ?_) (fun e he fb c w7 h => ?_)
   ·refine ⟨h.cel (n := 1) 3 rfl rfl, ?_⟩
    have hsee := h.nest_see (e := 30) (n := 4) (cells := rtv) (sub := subI) (vis := RV.r) (s := fs) (l := fn) 5 rfl
    have h : Hp S w0 w7 (ST rb b ub rest A P a5 left2 ss sy fs fn ++ [subI ⟨r.nm, r.pa, r.lo, sl, r.code⟩]) := h
    refine h.nest_app (c := rtv ⟨r.nm, r.pa, r.lo, sl, r.code⟩) 5 (ST rb b ub rest A P a5 left2 ss sy fs fn).length (by simp) ⟨r.nm, r.pa, r.lo, sl, r.code⟩ rfl List.getElem?_concat_length rfl rtv_len und24 j1 j3 j2 rfl rfl (by simp [Value.oneCell']) (by rw [j4]; omega) (by omega) fun s2 w8 h _ => ?_
    rw [List.set_append_left _ _ (by simp)] at h
    rw [List.set_append_right _ _ (by simp)] at h
    have h := h.front
    refine h.st (n := 1) 3 rfl (by simp) rfl fun w9 h => ?_
    refine ⟨q, by omega, q, a5, left2, fn ++ [r], s2, by rw [wr64 (by omega) (by omega)]; omega, by omega, rfl, by simp; omega, ha5, g0, g1, ?_, h⟩
    rw [hF]
    show bnd (bnd (rtD l left' a4) _) _ = _
    rw [hr, bnd_ok]
    cases fnsF l q left2 a5 with
    | error e => rfl
    | ok r => simp [bnd]
   ·refine herr e ?_ fb c w7 (midst3 h)
    show bnd (bnd (bnd (rtD l left' a4) _) _) _ = _
    rw [he]; rfl
 ·obtain ⟨q, rfl⟩ : ∃ q, k = q + 1 := ⟨k - 1, by omega⟩
  refine ifT (by simp) ?_
  refine h.nw fun sb w4 h => ?_
  have h : Hp S w0 w4 (ST rb b ub rest A P a2 left ss sy ⟨none, 0, 0⟩ [] ++ [tBlk sb 54 (c8v nil4)]) := h
  refine sets_spec h _ List.getElem?_concat_length fun w4 h => ?_
  refine sets4 h hs ha2 (fun ys a3 hy hys ha3 w5 h => ?_) (fun e he fb c w5 h => ?_)
  ·have h : Hp S w0 w5 (rdr rb b a3 left :: ub :: ([tBlk A 37 [.slice none 0 0, .slice none 0 0], tBlk P 37 [.slice ss.a ss.len ss.cap, .slice none 0 0], tSyN ss sy, tFnN ⟨none, 0, 0⟩ []] ++ rest ++ ([tBlk sb 54 (c8v ys)] ++ ys.map tS))) := by simpa using h
   refine routine_spec h hs ha3 hl0 hl1 (fun r left2 a4 hr ha4 g0 g1 sl w6 h => ?_) (fun e he fb c w6 h => ?_)
   ·obtain ⟨y0, y1, y2, y3, rfl⟩ : ∃ y0 y1 y2 y3, ys = [y0, y1, y2, y3] := by
     match ys, hys with
     | [y0, y1, y2, y3], _ => exact ⟨y0, y1, y2, y3, rfl⟩
    obtain ⟨x, hx⟩ : ∃ x : SV, x = ⟨y0.1, y1.1, y2.1, y3.1, y0.2, y1.2, y2.2, y3.2, ⟨r.nm, r.pa, r.lo, sl, r.code⟩⟩ := ⟨_, rfl⟩
    have h : Hp S w0 w6 ((ST rb b ub rest A P a4 left2 ss sy ⟨none, 0, 0⟩ [] ++ [tBlk sb 54 (c8v [y0, y1, y2, y3])]) ++ (x.sls.map tS ++ [subI x.run])) := by
     rw [hx]
     simpa [SV.sls, subI] using h
    have h := h.gather _ rfl
    have h : Hp S w0 w6 (ST rb b ub rest A P a4 left2 ss sy ⟨none, 0, 0⟩ [] ++ [tBlk sb 54 (c8v [y0, y1, y2, y3])] ++ [subY x]) := h
    refine h.st (n := 4) (ST rb b ub rest A P a4 left2 ss sy ⟨none, 0, 0⟩ []).length mid1 (by simp [c8v]) rfl fun w6 h => ?_
    rw [List.set_append_left _ _ (by simp), set_last] at h
    refine h.st (n := 5) (ST rb b ub rest A P a4 left2 ss sy ⟨none, 0, 0⟩ []).length mid1 (by simp [c8v]) rfl fun w6 h => ?_
    rw [List.set_append_left _ _ (by simp), set_last] at h
    refine h.st (n := 6) (ST rb b ub rest A P a4 left2 ss sy ⟨none, 0, 0⟩ []).length mid1 (by simp [c8v]) rfl fun w6 h => ?_
    rw [List.set_append_left _ _ (by simp), set_last] at h
    refine h.st (n := 7) (ST rb b ub rest A P a4 left2 ss sy ⟨none, 0, 0⟩ []).length mid1 (by simp [c8v]) rfl fun w6 h => ?_
    rw [List.set_append_left _ _ (by simp), set_last] at h
    have h : Hp S w0 w6 (ST rb b ub rest A P a4 left2 ss sy ⟨none, 0, 0⟩ [] ++ [tBlk sb 54 (syv x)] ++ [subY x]) := by
     rw [hx] at h ⊢
     exact h
    refine h.ld0 (k := .sl) (x := ss) 3 rfl rfl ?_
    have hb0 : ((ST rb b ub rest A P a4 left2 ss sy ⟨none, 0, 0⟩ [] ++ [tBlk sb 54 (syv x)] ++ [subY x])[(ST rb b ub rest A P a4 left2 ss sy ⟨none, 0, 0⟩ []).length]?).map Thing.holds = some (tBlk sb 54 (syv x)).holds := by rw [mid1]; rfl
    refine h.ld0 (k := .sl) (x := x.a) _ hb0 rfl ?_
    refine h.ld (n := 1) (k := .sl) (x := x.b) _ hb0 rfl ?_
    refine h.ld (n := 2) (k := .sl) (x := x.c) _ hb0 rfl ?_
    refine h.ld (n := 3) (k := .sl) (x := x.d) _ hb0 rfl ?_
    refine h.ld (n := 4) (k := .s) (x := x.run.nm) _ hb0 rfl ?_
    refine h.ld (n := 5) (k := .i .i64) (x := x.run.pa) _ hb0 rfl ?_
    refine h.ld (n := 6) (k := .i .i64) (x := x.run.lo) _ hb0 rfl ?_
    refine h.ld (n := 7) (k := .sl) (x := x.run.sl) _ hb0 rfl ?_
    have hsee := h.nest_see (e := 54) (n := 8) (cells := syv) (sub := subY) (vis := SV.m) (s := ss) (l := sy) 4 rfl
    refine h.nest_app (c := syv x) 4 ((ST rb b ub rest A P a4 left2 ss sy ⟨none, 0, 0⟩ []).length + 1) (by simp) x rfl last2 (subY_own x) syv_len und35 i1 i3 i2 rfl rfl (by simp [Value.oneCell']) (by rw [i4]; omega) (by omega) fun s2 w8 h _ => ?_
    rw [set_two (by simp)] at h
    have h := h.front.front
    refine h.st0 3 rfl (by simp) rfl fun w9 h => ?_
    refine ⟨q, by omega, q, a4, left2, sy ++ [x.m], s2, by rw [wr64 (by omega) (by omega)]; omega, by omega, rfl, by simp; omega, ha4, g0, g1, ?_, h⟩
    rw [hF]
    show bnd (bnd (setsF l 4 a2) _) _ = _
    rw [hy, bnd_ok]
    show bnd (bnd (rtD l left a3) _) _ = _
    rw [hr, bnd_ok]
    have ex : syOf ([y0, y1, y2, y3].map (·.2)) r = x.m := by rw [hx]; rfl
    rw [ex]
    cases sysF l q left2 a4 with
    | error e => rfl
    | ok r => simp [bnd]
   ·refine herr e ?_ fb c w6 (midst2 h)
    show bnd (bnd (bnd (setsF l 4 a2) _) _) _ = _
    rw [hy, bnd_ok]
    show bnd (bnd (bnd (rtD l left a3) _) _) _ = _
    rw [he]; rfl
  ·refine herr e ?_ fb c w5 (midst3 h)
   show bnd (bnd (bnd (setsF l 4 a2) _) _) _ = _
   rw [he]; rfl
end
theorem caught_idle (p : Addr) (w : World) :
  CallsD Tryz.prog 36 #[.pointer (some p)] .returning w fun e u' w' => e = .returned (.tuple #[]) ∧ u' = .returning ∧ w' = w := by
 refine callsD_of_wpS Tryz.func36 rfl fun c₀ cs hu => ?_
 apply wpS_seq
 apply wpS_region
 simp [wpOpsS, go_sem, recoverD, hu, Tryz.ntmps36, Exit.thenS]
 refine wpS_of_wp ?_
 go_wp2
 cases c₀
 simp_all [bodyPostS, results, Tryz.results36]
theorem ta_fault (fb : Nat) (w : World) : (Instr.typeAssert (.iface 86 (.pointer (some ⟨fb, 0, none⟩))) 20 86 true).run Tryz.prog w = .ok (.tuple #[.pointer (some ⟨fb, 0, none⟩), .bool true]) w := by kernel_rfl
theorem mk_fault (fb : Nat) (w : World) : (Instr.makeInterface 86 (.pointer (some ⟨fb, 0, none⟩))).run Tryz.prog w = .ok (.iface 86 (.pointer (some ⟨fb, 0, none⟩))) w := by kernel_rfl
theorem eq_fault (fb : Nat) (w : World) : (binOp .eql 20 (.iface 86 (.pointer (some ⟨fb, 0, none⟩))) .nilIface).run Tryz.prog w = .ok (.bool false) w := by kernel_rfl
theorem caught_fault (p : Addr) (fb : Nat) (x : Value) (w : World) (hc : w.cell? p = some x) (hx : x.cells = #[x]) (hz : w.frozen? p = false) :
  CallsD Tryz.prog 36 #[.pointer (some p)] (.panicking (flt fb)) w fun e u' w' => e = .returned (.tuple #[]) ∧ u' = .panicking [{ v := .iface 86 (.pointer (some ⟨fb, 0, none⟩)), recovered := true }] ∧ w' = w.setCell p (.iface 86 (.pointer (some ⟨fb, 0, none⟩))) := by
 have h1 := ta_fault fb
 have h2 := mk_fault fb
 have h3 := eq_fault fb
 refine callsD_of_wpS Tryz.func36 rfl fun c₀ cs hu => ?_
 simp only [Tryz.ntmps36, List.size_toArray, List.length_cons, List.length_nil, Nat.reduceAdd, Nat.reduceSub, Array.replicate_succ, Array.replicate_zero, List.push_toArray, List.append_toArray, List.nil_append, List.cons_append]
 apply wpS_seq
 apply wpS_region
 simp [wpOpsS, go_sem, recoverD, hu, Exit.thenS]
 refine wpS_of_wp ?_
 go_wp2
 simp_all [bodyPostS, results, Tryz.results36]
theorem zero_idle (p q : Addr) (w : World) (hc : w.cell? p = some .nilIface) :
  CallsD Tryz.prog 35 #[.pointer (some p), .pointer (some q)] .returning w fun e u' w' => u' = .returning ∧ e = .returned (.tuple #[]) ∧ w' = w := by
 go_enter_d Tryz.func35, Tryz.ntmps35
 go_wp2
 simp_all [bodyPost, results, Tryz.results35]
theorem ne_fault (fb : Nat) (w : World) : (binOp .neq 39 (.iface 86 (.pointer (some ⟨fb, 0, none⟩))) .nilIface).run Tryz.prog w = .ok (.bool true) w := by kernel_rfl
theorem zero_fault (p : Addr) (qb fb : Nat) (x y : Value) (w : World) (hc : w.cell? p = some (.iface 86 (.pointer (some ⟨fb, 0, none⟩)))) (hq0 : w.cell? ⟨qb, 0, none⟩ = some x) (hx : x.cells = #[x]) (hq1 : w.cell? ⟨qb, 1, none⟩ = some y) (hy : y.cells = #[y]) (hz0 : w.frozen? ⟨qb, 0, none⟩ = false) (hz1 : w.frozen? ⟨qb, 1, none⟩ = false) :
  CallsD Tryz.prog 35 #[.pointer (some p), .pointer (some ⟨qb, 0, none⟩)] .returning w fun e u' w' => u' = .returning ∧ e = .returned (.tuple #[]) ∧ w' = (w.setCell ⟨qb, 0, none⟩ (.slice none 0 0)).setCell ⟨qb, 1, none⟩ (.slice none 0 0) := by
 have h1 := ne_fault fb
 go_enter_d Tryz.func35, Tryz.ntmps35
 go_wp2
 simp_all [bodyPost, results, Tryz.results35]
section
variable {S : List Nat} {w0 w : World} {its rest : List Thing}
theorem nw_now (h : Hp S w0 w its) (c : List Value) (e : TypeId) : Hp S w0 (w.alloc (.cells c.toArray e)) (its ++ [tBlk w.heap.size e c]) := by
 have := h.nw (c := c) (e := e) (K := fun a w' => ∀ b, a = ⟨b, 0, none⟩ → Hp S w0 w' (its ++ [tBlk b e c])) (fun b w' h b' e => by cases e; exact h)
 exact this _ rfl
theorem _root_.Go.Den.Hp.cutFst2 {t u : Thing} (h : Hp S w0 w (t :: u :: its)) : Hp S w0 w its := by
 have h : Hp S w0 w ([] ++ [t, u] ++ its) := h
 exact h.cutMid
theorem program_calls {rb : Nat} {b : Sl} {ub : Thing} {l : List Int} (h : Hp S w0 w (rdr rb b (0 : Nat) 2000 :: ub :: rest)) (hs : Src ub b l) :
  Calls Tryz.prog 37 #[.pointer (some ⟨rb, 0, none⟩)] w fun e w' => (∃ s1 s2 p c, e = .returned (.agg #[.slice s1.a s1.len s1.cap, .slice s2.a s2.len s2.cap]) ∧ pgD l = .ok p ∧ Hp S w0 w' (tBlk rb 84 c :: ub :: rest ++ [tSyN s1 p.sys, tFnN s2 p.fns])) ∨
   ∃ fb x c, e = .panicked (flt fb) ∧ pgD l = .error x ∧ Hp S w0 w' (tBlk rb 84 c :: ub :: rest ++ [tFault fb x]) := by
 have hc := program_spec h hs (R := curry [.sl, .sl] fun cs w' => ∃ (s1 s2 : Sl) (p : PG) (c : List Value), cs = [.slice s1.a s1.len s1.cap, .slice s2.a s2.len s2.cap] ∧ pgD l = .ok p ∧ Hp S w0 w' (tBlk rb 84 c :: ub :: rest ++ [tSyN s1 p.sys, tFnN s2 p.fns]))
  (E := fun ch w' => ∃ fb x c, ch = flt fb ∧ pgD l = .error x ∧ Hp S w0 w' (tBlk rb 84 c :: ub :: rest ++ [tFault fb x]))
  (fun p hp s1 s2 c w' h => ⟨s1, s2, p, c, rfl, hp, h⟩) (fun e he fb c w' h => ⟨fb, e, c, rfl, he, h⟩)
 refine Calls.mono hc fun e w' hd => ?_
 rcases hd with ⟨v, rfl, hv⟩ | ⟨ch, rfl, fb, x, c, rfl, h1, h2⟩
 ·obtain ⟨cs, ⟨s1, s2, p, c, rfl, h1, h2⟩, rfl⟩ := of_viewRet_curry hv
  exact .inl ⟨s1, s2, p, c, rfl, h1, h2⟩
 ·exact .inr ⟨fb, x, c, rfl, h1, h2⟩
theorem Decode_spec {b : Sl} {ub : Thing} {l : List Int} (h : Hp S w0 w (ub :: rest)) (hs : Src ub b l)
  {K : Sl → Sl → Value → World → Prop}
  (hok : ∀ p, pgD l = .ok p → ∀ s1 s2 w', Hp S w0 w' (ub :: rest ++ [tSyN s1 p.sys, tFnN s2 p.fns]) → K s1 s2 .nilIface w')
  (herr : ∀ e, pgD l = .error e → ∀ fb w', Hp S w0 w' (ub :: rest ++ [tFault fb e]) → K ⟨none, 0, 0⟩ ⟨none, 0, 0⟩ (.iface 86 (.pointer (some ⟨fb, 0, none⟩))) w') : c15 b w K := by
 unfold c15 CallK
 have h := nw_now (nw_now (nw_now h [.slice none 0 0, .slice none 0 0] 37) [.nilIface] 39) [.slice b.a b.len b.cap, .int .i64 0, .int .i64 2000] 84
 have h := h.comm
 have hC := program_calls (rb := w.heap.size + 1 + 1) (b := b) (ub := ub) (rest := rest ++ [tBlk w.heap.size 37 [.slice none 0 0, .slice none 0 0]] ++ [tBlk (w.heap.size + 1) 39 [.nilIface]]) (w := ((w.alloc (.cells #[.slice none 0 0, .slice none 0 0] 37)).alloc (.cells #[.nilIface] 39)).alloc (.cells #[.slice b.a b.len b.cap, .int .i64 0, .int .i64 2000] 84)) (by simpa [rdr] using h) hs
 have hmf : ∀ (fn : Fn) (first cap : Array Value) (w : World), (Instr.makeFunc fn first cap).run Tryz.prog w = .ok (.func fn first cap) w := fun _ _ _ _ => rfl
 go_enter_defers Tryz.func15, Tryz.ntmps15
 iterate 55 go_step
 refine Calls.mono hC ?_
 clear h hC
 rintro e w2 (⟨s1, s2, p, c, rfl, hp, h⟩ | ⟨fb, x, c, rfl, hp, h⟩)
 ·have h : Hp S w0 w2 ([] ++ [tBlk (w.heap.size + 1 + 1) 84 c] ++ ((ub :: rest) ++ [tBlk w.heap.size 37 [.slice none 0 0, .slice none 0 0], tBlk (w.heap.size + 1) 39 [.nilIface]] ++ [tSyN s1 p.sys, tFnN s2 p.fns])) := by simpa using h
  have h := h.cutMid
  have h := h.rot
  have h : Hp S w0 w2 (tBlk w.heap.size 37 [.slice none 0 0, .slice none 0 0] :: tBlk (w.heap.size + 1) 39 [.nilIface] :: (ub :: rest ++ [tSyN s1 p.sys, tFnN s2 p.fns])) := by simpa using h
  have c0 : w2.cell? ⟨w.heap.size, 0, none⟩ = some (.slice none 0 0) := h.cel0 0 rfl rfl
  have c1 : w2.cell? ⟨w.heap.size, 1, none⟩ = some (.slice none 0 0) := h.cel (n := 1) 0 rfl rfl
  have c2 : w2.cell? ⟨w.heap.size + 1, 0, none⟩ = some .nilIface := h.cel0 1 rfl rfl
  obtain ⟨_, _, z0, h⟩ := h.st0 0 (v := .slice s1.a s1.len s1.cap) (K := fun w' => Hp S w0 w' (tBlk w.heap.size 37 [.slice s1.a s1.len s1.cap, .slice none 0 0] :: tBlk (w.heap.size + 1) 39 [.nilIface] :: (ub :: rest ++ [tSyN s1 p.sys, tFnN s2 p.fns]))) rfl (by simp) rfl (fun w' h => h)
  obtain ⟨_, _, z1, h⟩ := h.st (n := 1) 0 (v := .slice s2.a s2.len s2.cap) (K := fun w' => Hp S w0 w' (tBlk w.heap.size 37 [.slice s1.a s1.len s1.cap, .slice s2.a s2.len s2.cap] :: tBlk (w.heap.size + 1) 39 [.nilIface] :: (ub :: rest ++ [tSyN s1 p.sys, tFnN s2 p.fns]))) rfl (by simp) rfl (fun w' h => h)
  obtain ⟨_, _, z2, h⟩ := h.st0 1 (v := .nilIface) (K := fun w' => Hp S w0 w' (tBlk w.heap.size 37 [.slice s1.a s1.len s1.cap, .slice s2.a s2.len s2.cap] :: tBlk (w.heap.size + 1) 39 [.nilIface] :: (ub :: rest ++ [tSyN s1 p.sys, tFnN s2 p.fns]))) rfl (by simp) rfl (fun w' h => h)
  have z1 : w2.frozen? ⟨w.heap.size, 1, none⟩ = false := by
   simp at z1
   exact z1
  have z2 : w2.frozen? ⟨w.heap.size + 1, 0, none⟩ = false := by simpa using z2
  have hK := hok p hp s1 s2 _ h.cutFst2
  clear hok herr
  dsimp only
  go_wp2
  have e1 : (⟨w.heap.size, 0, none⟩ : Addr).add 1 = ⟨w.heap.size, 1, none⟩ := rfl
  rw [e1] at h hK
  have d0 := h.cel0 (v := .slice s1.a s1.len s1.cap) 0 rfl rfl
  have d1 : World.cell? _ ⟨w.heap.size, 1, none⟩ = _ := h.cel (n := 1) (v := .slice s2.a s2.len s2.cap) 0 rfl rfl
  have d2 := h.cel0 (v := .nilIface) 1 rfl rfl
  generalize ((w2.setCell ⟨w.heap.size, 0, none⟩ (.slice s1.a s1.len s1.cap)).setCell ⟨w.heap.size, 1, none⟩ (.slice s2.a s2.len s2.cap)).setCell ⟨w.heap.size + 1, 0, none⟩ .nilIface = w3 at *
  refine leaves_cons (f := 36) (args := #[.pointer (some ⟨w.heap.size + 1, 0, none⟩)]) (by simp) (by simp [go_sem]) ?_
  refine (caught_idle _ _).mono ?_
  rintro e u' w'' ⟨rfl, rfl, rfl⟩
  refine leaves_cons (f := 35) (args := #[.pointer (some ⟨w.heap.size + 1, 0, none⟩), .pointer (some ⟨w.heap.size, 0, none⟩)]) (by simp [settle]) (by simp [go_sem]) ?_
  refine (zero_idle _ _ _ d2).mono ?_
  rintro e u' w'' ⟨rfl, rfl, rfl⟩
  refine ⟨.tuple #[.agg #[.slice s1.a s1.len s1.cap, .slice s2.a s2.len s2.cap], .nilIface], ?_, _, rfl, hK⟩
  simp [results, Tryz.results15, go_sem, d0, d1, d2]
 ·have h : Hp S w0 w2 ([] ++ [tBlk (w.heap.size + 1 + 1) 84 c] ++ ((ub :: rest) ++ [tBlk w.heap.size 37 [.slice none 0 0, .slice none 0 0], tBlk (w.heap.size + 1) 39 [.nilIface]] ++ [tFault fb x])) := by simpa using h
  have h := h.cutMid
  have h := h.rot
  have h : Hp S w0 w2 (tBlk w.heap.size 37 [.slice none 0 0, .slice none 0 0] :: tBlk (w.heap.size + 1) 39 [.nilIface] :: (ub :: rest ++ [tFault fb x])) := by simpa using h
  have c2 : w2.cell? ⟨w.heap.size + 1, 0, none⟩ = some .nilIface := h.cel0 1 rfl rfl
  obtain ⟨_, _, z2, h⟩ := h.st0 1 (v := .iface 86 (.pointer (some ⟨fb, 0, none⟩))) (K := fun w' => Hp S w0 w' (tBlk w.heap.size 37 [.slice none 0 0, .slice none 0 0] :: tBlk (w.heap.size + 1) 39 [.iface 86 (.pointer (some ⟨fb, 0, none⟩))] :: (ub :: rest ++ [tFault fb x]))) rfl (by simp) rfl (fun w' h => h)
  have d2 := h.cel0 (v := .iface 86 (.pointer (some ⟨fb, 0, none⟩))) 1 rfl rfl
  have c0 := h.cel0 (v := .slice none 0 0) 0 rfl rfl
  have c1 : World.cell? _ ⟨w.heap.size, 1, none⟩ = _ := h.cel (n := 1) (v := .slice none 0 0) 0 rfl rfl
  obtain ⟨_, _, z0, h2⟩ := h.st0 0 (v := .slice none 0 0) (K := fun w' => Hp S w0 w' (tBlk w.heap.size 37 [.slice none 0 0, .slice none 0 0] :: tBlk (w.heap.size + 1) 39 [.iface 86 (.pointer (some ⟨fb, 0, none⟩))] :: (ub :: rest ++ [tFault fb x]))) rfl (by simp) rfl (fun w' h => h)
  obtain ⟨_, _, z1, h3⟩ := h2.st (n := 1) 0 (v := .slice none 0 0) (K := fun w' => Hp S w0 w' (tBlk w.heap.size 37 [.slice none 0 0, .slice none 0 0] :: tBlk (w.heap.size + 1) 39 [.iface 86 (.pointer (some ⟨fb, 0, none⟩))] :: (ub :: rest ++ [tFault fb x]))) rfl (by simp) rfl (fun w' h => h)
  have e1 : (⟨w.heap.size, 0, none⟩ : Addr).add 1 = ⟨w.heap.size, 1, none⟩ := rfl
  rw [e1] at h3 z1
  have z1 : (w2.setCell ⟨w.heap.size + 1, 0, none⟩ (.iface 86 (.pointer (some ⟨fb, 0, none⟩)))).frozen? ⟨w.heap.size, 1, none⟩ = false := by simpa using z1
  have hK := herr x hp fb _ h3.cutFst2
  have d3 := h3.cel0 (v := .slice none 0 0) 0 rfl rfl
  have d4 : World.cell? _ ⟨w.heap.size, 1, none⟩ = _ := h3.cel (n := 1) (v := .slice none 0 0) 0 rfl rfl
  have d5 := h3.cel0 (v := .iface 86 (.pointer (some ⟨fb, 0, none⟩))) 1 rfl rfl
  clear hok herr
  dsimp only
  show Leaves Tryz.prog Tryz.f15 _ _ _ (.panicking (flt fb)) w2
  refine leaves_cons (f := 36) (args := #[.pointer (some ⟨w.heap.size + 1, 0, none⟩)]) (by simp) (by simp [go_sem]) ?_
  refine (caught_fault _ _ _ _ c2 rfl z2).mono ?_
  rintro e u' w'' ⟨rfl, rfl, rfl⟩
  refine leaves_cons (f := 35) (args := #[.pointer (some ⟨w.heap.size + 1, 0, none⟩), .pointer (some ⟨w.heap.size, 0, none⟩)]) (by simp [settle]) (by simp [go_sem]) ?_
  refine (zero_fault _ _ _ _ _ _ d2 c0 rfl c1 rfl z0 z1).mono ?_
  rintro e u' w'' ⟨rfl, rfl, rfl⟩
  refine ⟨.tuple #[.agg #[.slice none 0 0, .slice none 0 0], .iface 86 (.pointer (some ⟨fb, 0, none⟩))], ?_, _, rfl, hK⟩
  simp [results, Tryz.results15, go_sem, d3, d4, d5]
end
section
variable {S : List Nat} {w0 w : World} {its rest : List Thing}
theorem RunRoL_pb {P : Program} {sem : Sem Value} {x : Option Addr} {ok : Bool} {R : Option Addr → Bool → World → Prop} (h : ∀ w', sem.run P w' = .ok (.tuple #[.pointer x, .bool ok]) w') (hR : R x ok w) : RunRoL [.one .p, .one .b] P sem w R := ⟨_, fun w' _ => h w', hR⟩
theorem fault_spec (h : Hp S w0 w its) (i : Nat) {fb e : Nat} (hi : its[i]? = some (tFault fb e)) {K : Int → Int → Bool → World → Prop} (hK : ∀ w', Hp S w0 w' its → K e 130 true w') : c16 (.iface 86 (.pointer (some ⟨fb, 0, none⟩))) w K := by
 refine c16_of ?_
 unfold f16
 refine ⟨false, fun _ _ => by kernel_rfl, ?_⟩
 refine RunRoL_pb (x := some ⟨fb, 0, none⟩) (ok := true) (fun _ => by kernel_rfl) ?_
 rw [if_neg (by simp)]
 refine h.dr fun w1 h => ?_
 rw [NN_some]
 refine h.ld0 (k := .i .i64) (x := e) i (by rw [hi]; rfl) rfl ?_
 rw [NN_some]
 refine h.ld (n := 1) (k := .i .i64) (x := 130) i (by rw [hi]; rfl) rfl ?_
 rw [NN_some]
 refine h.ld (n := 1) (k := .i .i64) (x := 130) i (by rw [hi]; rfl) rfl ?_
 exact hK w1 h
def effM (op a : Int) (fs : List RV) : Int × Int :=
 if isOpM op = true then
  (if (row op).tk = -1 then (if 0 ≤ a ∧ a < fs.length then (match fs[a.toNat]? with | some x => (if 0 > x.pa then 0 else x.pa) | none => 0) else 0)
   else if (row op).tk = -2 then (if 0 ≤ a then Int.tmod a 8 else 0) else (row op).tk, (row op).pt)
 else (0, 0)
theorem tk_range (op : Int) : -2 ≤ (row op).tk := by
 cases hi : isOpM op with
 | false => rw [row_no hi]; decide
 | true =>
  obtain ⟨n, rfl, hn⟩ := op_of hi
  have key : ∀ k : Fin 40, -2 ≤ (tab.getD k.val noRw).tk := by decide
  unfold row
  rw [if_pos hi]
  exact key ⟨n + 1, by omega⟩
theorem Effect_spec (h : Hp S w0 w its) (j : Nat) {u : Thing} {op a : Int} {s : Sl} {fs : List RV} (hj : (its[j]?).map Thing.holds = some u.holds) (hu : Hp.Reads u s 4 rtv fs) {K : Int → Int → World → Prop} (hK : ∀ w', Hp S w0 w' its → K (effM op a fs).1 (effM op a fs).2 w') : c9 op a s w K := by
 refine c9_of ?_
 unfold f9
 have hjl : j < its.length := by
  rcases Nat.lt_or_ge j its.length with h1 | h1
  ·exact h1
  ·rw [List.getElem?_eq_none h1] at hj; cases hj
 refine h.nw fun i w1 h => ?_
 refine h.ld0 (k := .i .i64) (x := op) its.length (by rw [List.getElem?_concat_length]; rfl) rfl ?_
 refine isOp_spec ?_
 unfold effM at hK
 cases hi : isOpM op with
 | false =>
  rw [hi] at hK
  exact ifT rfl (hK w1 h.front)
 | true =>
  rw [if_pos hi] at hK
  refine ifF (by decide) ?_
  refine h.ld0 (k := .i .i64) (x := op) its.length (by rw [List.getElem?_concat_length]; rfl) rfl ?_
  refine shape_spec h fun w1 h => ?_
  have hlen := h.lenU (i := j) (by rw [List.getElem?_append_left hjl]; exact hj) hu
  refine h.nw fun s1 w1 h => ?_
  refine h.st0 _ List.getElem?_concat_length (by simp) rfl fun w1 h => ?_
  rw [set_last] at h
  refine h.st (n := 1) _ List.getElem?_concat_length (by simp) rfl fun w1 h => ?_
  rw [set_last] at h
  refine h.st (n := 2) _ List.getElem?_concat_length (by simp) rfl fun w1 h => ?_
  rw [set_last] at h
  refine h.st (n := 3) _ List.getElem?_concat_length (by simp) rfl fun w1 h => ?_
  rw [set_last] at h
  refine h.st (n := 4) _ List.getElem?_concat_length (by simp) rfl fun w1 h => ?_
  rw [set_last] at h
  have h : Hp S w0 w1 (its ++ [tBlk i 23 [.int .i64 op, .int .i64 a]] ++ [tBlk s1 74 [.string (row op).word, .bool (row op).num, .int .i64 (takesOf (row op)), .int .i64 (row op).pt, .int .i64 (byOf (row op))]]) := h
  have hI : ∀ {t : Thing}, ((its ++ [tBlk i 23 [.int .i64 op, .int .i64 a]] ++ [t])[its.length]?).map Thing.holds = some (tBlk i 23 [.int .i64 op, .int .i64 a]).holds := fun {t} => by rw [mid1]; rfl
  have hLs : ∀ {A : List Thing} {b : Nat} {e : TypeId} {c : List Value}, ((A ++ [tBlk b e c])[A.length]?).map Thing.holds = some (tBlk b e c).holds := fun {A b e c} => by rw [List.getElem?_concat_length]; rfl
  have htk := tk_range op
  refine ⟨fun w' => Hp S w0 w' (its ++ [tBlk i 23 [.int .i64 op, .int .i64 a]] ++ [tBlk s1 74 [.string (row op).word, .bool (row op).num, .int .i64 (if (row op).tk = -1 then (if 0 ≤ a ∧ a < fs.length then (match fs[a.toNat]? with | some x => (if 0 > x.pa then 0 else x.pa) | none => 0) else 0) else if (row op).tk = -2 then (if 0 ≤ a then Int.tmod a 8 else 0) else (row op).tk), .int .i64 (row op).pt, .int .i64 (byOf (row op))]]), ?_, ?_⟩
  ·refine ⟨fun t w' => w' = w1 ∧ t = decide ((row op).tk = -1 ∧ 0 ≤ a ∧ a < fs.length), ?_, ?_⟩
   ·refine h.ld (n := 4) (k := .i .i64) (x := byOf (row op)) _ hLs rfl ?_
    by_cases h1 : (row op).tk = -1
    ·refine ifT (by simp [byOf, h1]) ?_
     refine h.ld (n := 1) (k := .i .i64) (x := a) _ hI rfl ?_
     by_cases h2 : 0 ≤ a
     ·refine ifT (by simpa using h2) ?_
      refine h.ld (n := 1) (k := .i .i64) (x := a) _ hI rfl ?_
      exact ⟨rfl, by simp [h1, h2, hlen]⟩
     ·exact ifF (by simpa using h2) ⟨rfl, by simp [h2]⟩
    ·refine ifF ?_ ⟨rfl, by simp [h1]⟩
     unfold byOf
     rw [if_neg h1]
     split <;> simp
   rintro t w2 ⟨hw, rfl⟩
   obtain rfl := hw.symm
   by_cases h1 : (row op).tk = -1 ∧ 0 ≤ a ∧ a < fs.length
   ·refine ifT (by simpa using h1) ?_
    obtain ⟨g1, g2, g3⟩ := h1
    obtain ⟨x, hx⟩ : ∃ x, fs[a.toNat]? = some x := ⟨fs[a.toNat]'(by omega), List.getElem?_eq_getElem (by omega)⟩
    refine h.ld (n := 1) (k := .i .i64) (x := a) _ hI rfl ?_
    obtain ⟨O, hO⟩ := h.see' (i := j) (t := u) (by rw [List.getElem?_append_left (by rw [List.length_append]; omega), List.getElem?_append_left hjl]; exact hj)
    obtain ⟨o, hR⟩ := hu.rd hO
    refine SlR.ix rtv_len hR g2 (x := x) hx fun ad hc => ?_
    refine ldR (k := .i .i64) (x := x.pa) (hc 1 (by omega)) rfl ?_
    refine h.st (n := 2) _ List.getElem?_concat_length (by simp) rfl fun w2 h => ?_
    rw [set_last] at h
    rw [if_pos g1, if_pos ⟨g2, g3⟩, hx]
    exact h
   ·refine ifF (by simpa using h1) ?_
    refine ⟨fun t w' => w' = w1 ∧ t = decide ((row op).tk = -2 ∧ 0 ≤ a), ?_, ?_⟩
    ·refine h.ld (n := 4) (k := .i .i64) (x := byOf (row op)) _ hLs rfl ?_
     by_cases h2 : (row op).tk = -2
     ·refine ifT (by simp [byOf, h2]) ?_
      refine h.ld (n := 1) (k := .i .i64) (x := a) _ hI rfl ?_
      exact ⟨rfl, by simp [h2]⟩
     ·refine ifF ?_ ⟨rfl, by simp [h2]⟩
      unfold byOf
      split
      ·simp
      ·simp [h2]
    rintro t w2 ⟨hw, rfl⟩
    obtain rfl := hw.symm
    by_cases h2 : (row op).tk = -2 ∧ 0 ≤ a
    ·refine ifT (by simpa using h2) ?_
     refine h.ld (n := 1) (k := .i .i64) (x := a) _ hI rfl ?_
     refine ⟨by decide, ?_⟩
     refine h.st (n := 2) _ List.getElem?_concat_length (by simp) rfl fun w2 h => ?_
     rw [set_last] at h
     rw [if_neg (by omega), if_pos h2.1, if_pos h2.2]
     exact h
    ·refine ifF (by simpa using h2) ?_
     have e : (if (row op).tk = -1 then (if 0 ≤ a ∧ a < fs.length then (match fs[a.toNat]? with | some x => (if 0 > x.pa then 0 else x.pa) | none => 0) else 0) else if (row op).tk = -2 then (if 0 ≤ a then Int.tmod a 8 else 0) else (row op).tk) = takesOf (row op) := by
      unfold takesOf
      by_cases k1 : (row op).tk = -1
      ·rw [if_pos k1, if_neg (fun k => h1 ⟨k1, k⟩), if_pos (by omega)]
      ·rw [if_neg k1]
       by_cases k2 : (row op).tk = -2
       ·rw [if_pos k2, if_neg (fun k => h2 ⟨k2, k⟩), if_pos (by omega)]
       ·rw [if_neg k2, if_neg (by omega)]
     rw [e]
     exact h
  ·intro w2 h
   refine h.dr fun w3 h => ?_
   refine h.ld (n := 2) (k := .i .i64) _ hLs rfl ?_
   refine h.ld (n := 3) (k := .i .i64) _ hLs rfl ?_
   exact hK w3 h.front.front
theorem REffect_spec (h : Hp S w0 w its) (j : Nat) {u : Thing} {op a : Int} {s : Sl} {fs : List RV} (hj : (its[j]?).map Thing.holds = some u.holds) (hu : Hp.Reads u s 4 rtv fs) {K : Int → Int → World → Prop} (hK : ∀ w', Hp S w0 w' its → K (effM op a fs).1 (effM op a fs).2 w') : c10 op a s w K := by
 refine c10_of ?_
 unfold f10
 have hjl : j < its.length := by
  rcases Nat.lt_or_ge j its.length with h1 | h1
  ·exact h1
  ·rw [List.getElem?_eq_none h1] at hj; cases hj
 refine h.nw fun i w1 h => ?_
 refine h.ld0 (k := .i .i64) (x := op) its.length (by rw [List.getElem?_concat_length]; rfl) rfl ?_
 refine RisOp_spec ?_
 unfold effM at hK
 cases hi : isOpM op with
 | false =>
  rw [hi] at hK
  exact ifT rfl (hK w1 h.front)
 | true =>
  rw [if_pos hi] at hK
  refine ifF (by decide) ?_
  refine h.dr fun w1 h => ?_
  refine h.ld0 (k := .i .i64) (x := op) its.length (by rw [List.getElem?_concat_length]; rfl) rfl ?_
  have hlen := h.lenU (i := j) (by rw [List.getElem?_append_left hjl]; exact hj) hu
  have h := h.opt 77 [.string (⟨#[]⟩ : ByteArray), .bool false, .int .i64 0, .int .i64 0]
  refine h.fls _ List.getElem?_concat_length fun y w1 h => ?_
  rw [set_last] at h
  refine table_spec h fun ts w1 h => ?_
  have ho := isOp_iff.1 hi
  refine ⟨h.cel0 its.length (by rw [List.append_assoc, List.append_assoc, ← List.append_assoc, mid1]; rfl) rfl, ?_⟩
  refine h.ixr (its ++ [tBlk i 23 [.int .i64 op, .int .i64 a]] ++ [Hp.tOpt y 77 [.string (⟨#[]⟩ : ByteArray), .bool false, .int .i64 0, .int .i64 0]]).length (s := ts) (l := tab) (f := rwv) (n := 4) (e := 77) (by rw [List.getElem?_concat_length]; rfl) (by omega) (y := row op) (tab_at hi) rwv_len fun ad hc => ?_
  refine ldR0 (k := .s) (x := (row op).word) (hc 0 (by omega)) rfl ?_
  refine ldR (k := .b) (x := (row op).num) (hc 1 (by omega)) rfl ?_
  refine ldR (k := .i .i64) (x := (row op).tk) (hc 2 (by omega)) rfl ?_
  refine ldR (k := .i .i64) (x := (row op).pt) (hc 3 (by omega)) rfl ?_
  have h := h.front
  refine h.fls _ List.getElem?_concat_length fun y w1 h => ?_
  rw [set_last] at h
  refine h.need _ List.getElem?_concat_length fun s1 h => ?_
  rw [set_last] at h
  refine h.st0 _ List.getElem?_concat_length (by simp) rfl fun w1 h => ?_
  rw [set_last] at h
  refine h.st (n := 1) _ List.getElem?_concat_length (by simp) rfl fun w1 h => ?_
  rw [set_last] at h
  refine h.st (n := 2) _ List.getElem?_concat_length (by simp) rfl fun w1 h => ?_
  rw [set_last] at h
  refine h.st (n := 3) _ List.getElem?_concat_length (by simp) rfl fun w1 h => ?_
  rw [set_last] at h
  have h : Hp S w0 w1 (its ++ [tBlk i 23 [.int .i64 op, .int .i64 a]] ++ [tBlk s1 77 [.string (row op).word, .bool (row op).num, .int .i64 (row op).tk, .int .i64 (row op).pt]]) := h
  have hI : ∀ {t : Thing}, ((its ++ [tBlk i 23 [.int .i64 op, .int .i64 a]] ++ [t])[its.length]?).map Thing.holds = some (tBlk i 23 [.int .i64 op, .int .i64 a]).holds := fun {t} => by rw [mid1]; rfl
  have hLs : ∀ {A : List Thing} {b : Nat} {e : TypeId} {c : List Value}, ((A ++ [tBlk b e c])[A.length]?).map Thing.holds = some (tBlk b e c).holds := fun {A b e c} => by rw [List.getElem?_concat_length]; rfl
  have hix : ∀ {w' : World}, Hp S w0 w' (its ++ [tBlk i 23 [.int .i64 op, .int .i64 a]] ++ [tBlk s1 77 [.string (row op).word, .bool (row op).num, .int .i64 (row op).tk, .int .i64 (row op).pt]]) → 0 ≤ a → ∀ x, fs[a.toNat]? = some x → ∀ {K : Int → Prop}, K x.pa → Ix s.a s.len a 4 fun ad => Ld (.i .i64) w' (ad.add 1) fun Params => K Params := by
   intro w' h g2 x hx K hK
   obtain ⟨O, hO⟩ := h.see' (i := j) (t := u) (by rw [List.getElem?_append_left (by rw [List.length_append]; omega), List.getElem?_append_left hjl]; exact hj)
   obtain ⟨o, hR⟩ := hu.rd hO
   refine SlR.ix rtv_len hR g2 (x := x) hx fun ad hc => ?_
   exact ldR (k := .i .i64) (x := x.pa) (hc 1 (by omega)) rfl hK
  refine h.ld (n := 2) (k := .i .i64) (x := (row op).tk) _ hLs rfl ?_
  by_cases h1 : (row op).tk = -1
  ·rw [if_pos h1] at hK
   refine ifT (by simpa using h1) ?_
   refine ⟨fun t w' => w' = w1 ∧ t = decide (¬ (0 ≤ a ∧ a < fs.length ∧ ∀ x, fs[a.toNat]? = some x → 0 ≤ x.pa)), ?_, ?_⟩
   ·refine h.ld (n := 1) (k := .i .i64) (x := a) _ hI rfl ?_
    by_cases h2 : a < 0
    ·exact ifT (by simpa using h2) ⟨rfl, by rw [eq_comm, decide_eq_true_iff]; omega⟩
    ·refine ifF (by simpa using h2) ?_
     refine h.ld (n := 1) (k := .i .i64) (x := a) _ hI rfl ?_
     by_cases h3 : a < fs.length
     ·refine ifF (by simp; omega) ?_
      obtain ⟨x, hx⟩ : ∃ x, fs[a.toNat]? = some x := ⟨fs[a.toNat]'(by omega), List.getElem?_eq_getElem (by omega)⟩
      refine h.ld (n := 1) (k := .i .i64) (x := a) _ hI rfl ?_
      refine hix h (by omega) x hx ⟨rfl, ?_⟩
      rw [decide_eq_decide]
      constructor
      ·intro k1 k2
       have := k2.2.2 x hx
       omega
      ·intro k1
       refine Decidable.byContradiction fun k2 => k1 ⟨by omega, h3, fun x' hx' => ?_⟩
       rw [hx] at hx'
       cases hx'
       omega
     ·exact ifT (by simp; omega) ⟨rfl, by rw [eq_comm, decide_eq_true_iff]; omega⟩
   rintro t w2 ⟨hw, rfl⟩
   obtain rfl := hw.symm
   by_cases h2 : 0 ≤ a ∧ a < fs.length ∧ ∀ x, fs[a.toNat]? = some x → 0 ≤ x.pa
   ·obtain ⟨g1, g2, g3⟩ := h2
    obtain ⟨x, hx⟩ : ∃ x, fs[a.toNat]? = some x := ⟨fs[a.toNat]'(by omega), List.getElem?_eq_getElem (by omega)⟩
    have gx := g3 x hx
    refine ifF (by rw [decide_eq_true_iff]; exact fun k => k ⟨g1, g2, g3⟩) ?_
    refine h.dr fun w3 h => ?_
    refine h.ld (n := 1) (k := .i .i64) (x := a) _ hI rfl ?_
    refine hix h g1 x hx ?_
    refine h.ld (n := 3) (k := .i .i64) (x := (row op).pt) _ hLs rfl ?_
    have := hK w3 h.front.front
    rw [if_pos ⟨g1, g2⟩, hx] at this
    dsimp only at this
    rw [if_neg (by omega)] at this
    exact this
   ·refine ifT (by rw [decide_eq_true_iff]; exact h2) ?_
    refine h.dr fun w3 h => ?_
    refine h.ld (n := 3) (k := .i .i64) (x := (row op).pt) _ hLs rfl ?_
    have := hK w3 h.front.front
    have e : (if 0 ≤ a ∧ a < fs.length then (match fs[a.toNat]? with | some x => (if 0 > x.pa then 0 else x.pa) | none => 0) else 0) = (0 : Int) := by
     by_cases k : 0 ≤ a ∧ a < fs.length
     ·rw [if_pos k]
      cases hx : fs[a.toNat]? with
      | none => rfl
      | some x =>
       dsimp only
       have : ¬ 0 ≤ x.pa := fun g => h2 ⟨k.1, k.2, fun x' hx' => by rw [hx] at hx'; cases hx'; exact g⟩
       rw [if_pos (by omega)]
     ·rw [if_neg k]
    rw [e] at this
    exact this
  ·rw [if_neg h1] at hK
   refine ifF (by simpa using h1) ?_
   refine h.ld (n := 2) (k := .i .i64) (x := (row op).tk) _ hLs rfl ?_
   by_cases h2 : (row op).tk = -2
   ·rw [if_pos h2] at hK
    refine ifT (by simpa using h2) ?_
    refine h.ld (n := 1) (k := .i .i64) (x := a) _ hI rfl ?_
    by_cases h3 : a < 0
    ·rw [if_neg (by omega)] at hK
     refine ifT (by simpa using h3) ?_
     refine h.dr fun w3 h => ?_
     refine h.ld (n := 3) (k := .i .i64) (x := (row op).pt) _ hLs rfl ?_
     exact hK w3 h.front.front
    ·rw [if_pos (by omega)] at hK
     refine ifF (by simpa using h3) ?_
     refine h.dr fun w3 h => ?_
     refine h.ld (n := 1) (k := .i .i64) (x := a) _ hI rfl ?_
     refine ⟨by decide, ?_⟩
     refine h.ld (n := 3) (k := .i .i64) (x := (row op).pt) _ hLs rfl ?_
     exact hK w3 h.front.front
   ·rw [if_neg h2] at hK
    refine ifF (by simpa using h2) ?_
    refine h.dr fun w3 h => ?_
    refine h.ld (n := 2) (k := .i .i64) (x := (row op).tk) _ hLs rfl ?_
    refine h.ld (n := 3) (k := .i .i64) (x := (row op).pt) _ hLs rfl ?_
    exact hK w3 h.front.front
end
end Go.Proofs.YtmfgofbcnlkolaaGreatDoor.F
end

section
namespace Go.Proofs
open Go.Shelf
def Tryz.lays169_ren : Go.Shelf.Ren := ⟨fun | 169 => 56 | n => n, fun | 70 => 110 | 9 => 9 | 0 => 0 | 72 => 112 | 37 => 34 | 127 => 138 | 3 => 3 | 5 => 5 | n => n, fun | n => n⟩
theorem Tryz.lays169 : Go.Proofs.Lays.n169 Tryz.prog Tryz.lays169_ren := {
 mixed := by kernel_rfl
 f169 := Tryz.func56.trans (congrArg some (by kernel_rfl))
 t0 := Tryz.underlying0
 a0 := Tryz.isAgg0
 z0 := Tryz.sizeOf0
 v0 := Tryz.zeroValue0
 t3 := Tryz.underlying3
 a3 := Tryz.isAgg3
 z3 := Tryz.sizeOf3
 v3 := Tryz.zeroValue3
 t9 := Tryz.underlying9
 a9 := Tryz.isAgg9
 z9 := Tryz.sizeOf9
 v9 := Tryz.zeroValue9
 t37 := Tryz.underlying34
 a37 := Tryz.isAgg34
 z37 := Tryz.sizeOf34
 v37 := Tryz.zeroValue34
 t70 := Tryz.underlying110
 a70 := Tryz.isAgg110
 z70 := Tryz.sizeOf110
 v70 := Tryz.zeroValue110
 t72 := Tryz.underlying112
 a72 := Tryz.isAgg112
 z72 := Tryz.sizeOf112
 v72 := Tryz.zeroValue112
 t127 := Tryz.underlying138
 a127 := Tryz.isAgg138
 z127 := Tryz.sizeOf138
 v127 := Tryz.zeroValue138 }
theorem Tryz.Builder_Extra_169 : Builder.Extra Tryz.prog Tryz.lays169_ren := {
 sizeBuilder := by kernel_rfl
 liesBuilder := by kernel_rfl
 t5 := Tryz.underlying5
 a5 := Tryz.isAgg5
 z5 := Tryz.sizeOf5
 v5 := Tryz.zeroValue5
 infoByte := by kernel_rfl
 cellsByte := by kernel_rfl
 sizeByte := by kernel_rfl
 neB5 := by decide }
open Go.RowKit in
theorem Tryz.Builder_String_any (B b : Nat) (l : List UInt8) (w : World) (h : Lib.IsBuilder 112 5 B b (Lib.byteCells l) w) (hBw : B ≤ w.heap.size) :
  Calls Tryz.prog 56 #[.pointer (some ⟨b, 0, none⟩)] w fun e w' => e = .returned (.string ⟨l.toArray⟩) ∧ Below B w w' := Any.Builder_String_any Tryz.lays169 Tryz.Builder_Extra_169 B b l w h hBw
def Tryz.laysM246_ren : Go.Shelf.Ren := ⟨fun | 246 => 103 | 283 => 108 | 284 => 109 | 285 => 110 | 286 => 111 | 129 => 122 | 317 => 121 | 318 => 123 | 319 => 124 | 320 => 125 | 337 => 136 | 338 => 137 | n => n, fun | 2 => 2 | 3 => 3 | 9 => 9 | 4 => 4 | 171 => 155 | 0 => 0 | 53 => 105 | 37 => 34 | 5 => 5 | 173 => 158 | 212 => 165 | 51 => 166 | 20 => 20 | 213 => 167 | 46 => 154 | 232 => 185 | 233 => 186 | n => n, fun | 17 => 1 | 18 => 4 | 19 => 5 | n => n⟩
theorem Tryz.laysM246 : Go.Proofs.LaysM.n246 Tryz.prog Tryz.laysM246_ren := {
 mixed := by kernel_rfl
 f129 := Tryz.func122.trans (congrArg some (by kernel_rfl))
 f246 := Tryz.func103.trans (congrArg some (by kernel_rfl))
 f283 := Tryz.func108.trans (congrArg some (by kernel_rfl))
 f284 := Tryz.func109.trans (congrArg some (by kernel_rfl))
 f285 := Tryz.func110.trans (congrArg some (by kernel_rfl))
 f286 := Tryz.func111.trans (congrArg some (by kernel_rfl))
 f317 := Tryz.func121.trans (congrArg some (by kernel_rfl))
 f318 := Tryz.func123.trans (congrArg some (by kernel_rfl))
 f319 := Tryz.func124.trans (congrArg some (by kernel_rfl))
 f320 := Tryz.func125.trans (congrArg some (by kernel_rfl))
 f337 := Tryz.func136.trans (congrArg some (by kernel_rfl))
 f338 := Tryz.func137.trans (congrArg some (by kernel_rfl))
 t0 := Tryz.underlying0
 a0 := Tryz.isAgg0
 z0 := Tryz.sizeOf0
 v0 := Tryz.zeroValue0
 t2 := Tryz.underlying2
 a2 := Tryz.isAgg2
 z2 := Tryz.sizeOf2
 v2 := Tryz.zeroValue2
 t3 := Tryz.underlying3
 a3 := Tryz.isAgg3
 z3 := Tryz.sizeOf3
 v3 := Tryz.zeroValue3
 t4 := Tryz.underlying4
 a4 := Tryz.isAgg4
 z4 := Tryz.sizeOf4
 v4 := Tryz.zeroValue4
 t5 := Tryz.underlying5
 a5 := Tryz.isAgg5
 z5 := Tryz.sizeOf5
 v5 := Tryz.zeroValue5
 t9 := Tryz.underlying9
 a9 := Tryz.isAgg9
 z9 := Tryz.sizeOf9
 v9 := Tryz.zeroValue9
 t20 := Tryz.underlying20
 a20 := Tryz.isAgg20
 z20 := Tryz.sizeOf20
 v20 := Tryz.zeroValue20
 t37 := Tryz.underlying34
 a37 := Tryz.isAgg34
 z37 := Tryz.sizeOf34
 v37 := Tryz.zeroValue34
 t46 := Tryz.underlying154
 a46 := Tryz.isAgg154
 z46 := Tryz.sizeOf154
 v46 := Tryz.zeroValue154
 t51 := Tryz.underlying166
 a51 := Tryz.isAgg166
 z51 := Tryz.sizeOf166
 v51 := Tryz.zeroValue166
 t53 := Tryz.underlying105
 a53 := Tryz.isAgg105
 z53 := Tryz.sizeOf105
 v53 := Tryz.zeroValue105
 t171 := Tryz.underlying155
 a171 := Tryz.isAgg155
 z171 := Tryz.sizeOf155
 v171 := Tryz.zeroValue155
 t173 := Tryz.underlying158
 a173 := Tryz.isAgg158
 z173 := Tryz.sizeOf158
 v173 := Tryz.zeroValue158
 t212 := Tryz.underlying165
 a212 := Tryz.isAgg165
 z212 := Tryz.sizeOf165
 v212 := Tryz.zeroValue165
 t213 := Tryz.underlying167
 a213 := Tryz.isAgg167
 z213 := Tryz.sizeOf167
 t232 := Tryz.underlying185
 a232 := Tryz.isAgg185
 z232 := Tryz.sizeOf185
 v232 := Tryz.zeroValue185
 t233 := Tryz.underlying186
 a233 := Tryz.isAgg186
 z233 := Tryz.sizeOf186
 v233 := Tryz.zeroValue186
 g17 := by kernel_rfl
 g18 := by kernel_rfl
 g19 := by kernel_rfl
 i0 := by kernel_rfl
 i2 := by kernel_rfl
 i3 := by kernel_rfl
 i4 := by kernel_rfl
 i5 := by kernel_rfl
 i9 := by kernel_rfl
 i20 := by kernel_rfl
 i37 := by kernel_rfl
 i46 := by kernel_rfl
 i51 := by kernel_rfl
 i53 := by kernel_rfl
 i171 := by kernel_rfl
 i173 := by kernel_rfl
 i212 := by kernel_rfl
 i232 := by kernel_rfl
 i233 := by kernel_rfl
 m17 := by kernel_rfl
 m18 := by kernel_rfl
 m19 := by kernel_rfl }
open Go.RowKit Go.Sort Go.Lib in
theorem Tryz.internal_strconv_FormatInt_10 (n : Int) (h0 : -9223372036854775808 ≤ n) (h1 : n ≤ 9223372036854775807) (w : World) (htab : Lib.TabIs Tryz.prog w "internal/strconv.uint64pow10" .u64 Lib.pow10Tab) :
  Calls Tryz.prog 103 #[.int .i64 n, .int .i64 10] w fun e w' => e = .returned (.string ⟨(Lib.itoa n).toArray⟩) ∧ ∃ k os, w' = grow (w.drewN k) os := Any.internal_strconv_FormatInt_10 Tryz.laysM246 n h0 h1 w htab
def Tryz.laysM243_ren : Go.Shelf.Ren := ⟨fun | 243 => 86 | 246 => 103 | 283 => 108 | 284 => 109 | 285 => 110 | 286 => 111 | 129 => 122 | 317 => 121 | 318 => 123 | 319 => 124 | 320 => 125 | 337 => 136 | 338 => 137 | n => n, fun | 3 => 3 | 9 => 9 | 2 => 2 | 4 => 4 | 171 => 155 | 0 => 0 | 53 => 105 | 37 => 34 | 5 => 5 | 173 => 158 | 212 => 165 | 51 => 166 | 20 => 20 | 213 => 167 | 46 => 154 | 232 => 185 | 233 => 186 | n => n, fun | 17 => 1 | 18 => 4 | 19 => 5 | n => n⟩
theorem Tryz.laysM243 : Go.Proofs.LaysM.n243 Tryz.prog Tryz.laysM243_ren := {
 mixed := by kernel_rfl
 f129 := Tryz.func122.trans (congrArg some (by kernel_rfl))
 f243 := Tryz.func86.trans (congrArg some (by kernel_rfl))
 f246 := Tryz.func103.trans (congrArg some (by kernel_rfl))
 f283 := Tryz.func108.trans (congrArg some (by kernel_rfl))
 f284 := Tryz.func109.trans (congrArg some (by kernel_rfl))
 f285 := Tryz.func110.trans (congrArg some (by kernel_rfl))
 f286 := Tryz.func111.trans (congrArg some (by kernel_rfl))
 f317 := Tryz.func121.trans (congrArg some (by kernel_rfl))
 f318 := Tryz.func123.trans (congrArg some (by kernel_rfl))
 f319 := Tryz.func124.trans (congrArg some (by kernel_rfl))
 f320 := Tryz.func125.trans (congrArg some (by kernel_rfl))
 f337 := Tryz.func136.trans (congrArg some (by kernel_rfl))
 f338 := Tryz.func137.trans (congrArg some (by kernel_rfl))
 t0 := Tryz.underlying0
 a0 := Tryz.isAgg0
 z0 := Tryz.sizeOf0
 v0 := Tryz.zeroValue0
 t2 := Tryz.underlying2
 a2 := Tryz.isAgg2
 z2 := Tryz.sizeOf2
 v2 := Tryz.zeroValue2
 t3 := Tryz.underlying3
 a3 := Tryz.isAgg3
 z3 := Tryz.sizeOf3
 v3 := Tryz.zeroValue3
 t4 := Tryz.underlying4
 a4 := Tryz.isAgg4
 z4 := Tryz.sizeOf4
 v4 := Tryz.zeroValue4
 t5 := Tryz.underlying5
 a5 := Tryz.isAgg5
 z5 := Tryz.sizeOf5
 v5 := Tryz.zeroValue5
 t9 := Tryz.underlying9
 a9 := Tryz.isAgg9
 z9 := Tryz.sizeOf9
 v9 := Tryz.zeroValue9
 t20 := Tryz.underlying20
 a20 := Tryz.isAgg20
 z20 := Tryz.sizeOf20
 v20 := Tryz.zeroValue20
 t37 := Tryz.underlying34
 a37 := Tryz.isAgg34
 z37 := Tryz.sizeOf34
 v37 := Tryz.zeroValue34
 t46 := Tryz.underlying154
 a46 := Tryz.isAgg154
 z46 := Tryz.sizeOf154
 v46 := Tryz.zeroValue154
 t51 := Tryz.underlying166
 a51 := Tryz.isAgg166
 z51 := Tryz.sizeOf166
 v51 := Tryz.zeroValue166
 t53 := Tryz.underlying105
 a53 := Tryz.isAgg105
 z53 := Tryz.sizeOf105
 v53 := Tryz.zeroValue105
 t171 := Tryz.underlying155
 a171 := Tryz.isAgg155
 z171 := Tryz.sizeOf155
 v171 := Tryz.zeroValue155
 t173 := Tryz.underlying158
 a173 := Tryz.isAgg158
 z173 := Tryz.sizeOf158
 v173 := Tryz.zeroValue158
 t212 := Tryz.underlying165
 a212 := Tryz.isAgg165
 z212 := Tryz.sizeOf165
 v212 := Tryz.zeroValue165
 t213 := Tryz.underlying167
 a213 := Tryz.isAgg167
 z213 := Tryz.sizeOf167
 t232 := Tryz.underlying185
 a232 := Tryz.isAgg185
 z232 := Tryz.sizeOf185
 v232 := Tryz.zeroValue185
 t233 := Tryz.underlying186
 a233 := Tryz.isAgg186
 z233 := Tryz.sizeOf186
 v233 := Tryz.zeroValue186
 g17 := by kernel_rfl
 g18 := by kernel_rfl
 g19 := by kernel_rfl
 i0 := by kernel_rfl
 i2 := by kernel_rfl
 i3 := by kernel_rfl
 i4 := by kernel_rfl
 i5 := by kernel_rfl
 i9 := by kernel_rfl
 i20 := by kernel_rfl
 i37 := by kernel_rfl
 i46 := by kernel_rfl
 i51 := by kernel_rfl
 i53 := by kernel_rfl
 i171 := by kernel_rfl
 i173 := by kernel_rfl
 i212 := by kernel_rfl
 i232 := by kernel_rfl
 i233 := by kernel_rfl
 m17 := by kernel_rfl
 m18 := by kernel_rfl
 m19 := by kernel_rfl }
open Go.RowKit Go.Sort Go.Lib in
theorem Tryz.internal_strconv_Itoa (n : Int) (h0 : -9223372036854775808 ≤ n) (h1 : n ≤ 9223372036854775807) (w : World) (htab : Lib.TabIs Tryz.prog w "internal/strconv.uint64pow10" .u64 Lib.pow10Tab) :
  Calls Tryz.prog 86 #[.int .i64 n] w fun e w' => e = .returned (.string ⟨(Lib.itoa n).toArray⟩) ∧ ∃ k os, w' = grow (w.drewN k) os := Any.internal_strconv_Itoa Tryz.laysM243 n h0 h1 w htab
def Tryz.laysC245_ren : Go.Shelf.Ren := ⟨fun | 245 => 120 | 279 => 132 | 280 => 133 | 281 => 134 | 282 => 135 | 316 => 141 | 171 => 54 | 205 => 142 | 243 => 86 | 246 => 103 | 283 => 108 | 284 => 109 | 285 => 110 | 286 => 111 | 129 => 122 | 317 => 121 | 318 => 123 | 319 => 124 | 320 => 125 | 337 => 136 | 338 => 137 | n => n, fun | 9 => 9 | 3 => 3 | 75 => 39 | 167 => 173 | 4 => 4 | 168 => 176 | 210 => 183 | 37 => 34 | 0 => 0 | 127 => 138 | 145 => 193 | 143 => 191 | 2 => 2 | 171 => 155 | 53 => 105 | 5 => 5 | 173 => 158 | 212 => 165 | 51 => 166 | 20 => 20 | 213 => 167 | 46 => 154 | 232 => 185 | 233 => 186 | 80 => 116 | n => n, fun | 15 => 2 | 16 => 3 | 17 => 1 | 18 => 4 | 19 => 5 | n => n⟩
def Tryz.laysC174_ren : Go.Shelf.Ren := ⟨fun | 174 => 106 | 247 => 119 | 245 => 120 | 287 => 131 | 279 => 132 | 280 => 133 | 281 => 134 | 282 => 135 | 321 => 139 | 322 => 140 | 316 => 141 | 171 => 54 | 205 => 142 | 243 => 86 | 246 => 103 | 283 => 108 | 284 => 109 | 285 => 110 | 286 => 111 | 129 => 122 | 317 => 121 | 318 => 123 | 319 => 124 | 320 => 125 | 337 => 136 | 338 => 137 | n => n, fun | 9 => 9 | 3 => 3 | 2 => 2 | 75 => 39 | 85 => 152 | 4 => 4 | 167 => 173 | 5 => 5 | 53 => 105 | 175 => 174 | 46 => 154 | 168 => 176 | 37 => 34 | 0 => 0 | 210 => 183 | 21 => 21 | 127 => 138 | 145 => 193 | 143 => 191 | 171 => 155 | 173 => 158 | 212 => 165 | 51 => 166 | 20 => 20 | 213 => 167 | 232 => 185 | 233 => 186 | 80 => 116 | n => n, fun | 15 => 2 | 16 => 3 | 17 => 1 | 18 => 4 | 19 => 5 | n => n⟩
theorem Tryz.laysC174 : Go.Proofs.LaysC.n174 Tryz.prog Tryz.laysC174_ren := {
 mixed := by kernel_rfl
 f129 := Tryz.func122.trans (congrArg some (by kernel_rfl))
 f171 := Tryz.func54.trans (congrArg some (by kernel_rfl))
 f174 := Tryz.func106.trans (congrArg some (by kernel_rfl))
 f205 := Tryz.func142.trans (congrArg some (by kernel_rfl))
 f243 := Tryz.func86.trans (congrArg some (by kernel_rfl))
 f245 := Tryz.func120.trans (congrArg some (by kernel_rfl))
 f246 := Tryz.func103.trans (congrArg some (by kernel_rfl))
 f247 := Tryz.func119.trans (congrArg some (by kernel_rfl))
 f279 := Tryz.func132.trans (congrArg some (by kernel_rfl))
 f280 := Tryz.func133.trans (congrArg some (by kernel_rfl))
 f281 := Tryz.func134.trans (congrArg some (by kernel_rfl))
 f282 := Tryz.func135.trans (congrArg some (by kernel_rfl))
 f283 := Tryz.func108.trans (congrArg some (by kernel_rfl))
 f284 := Tryz.func109.trans (congrArg some (by kernel_rfl))
 f285 := Tryz.func110.trans (congrArg some (by kernel_rfl))
 f286 := Tryz.func111.trans (congrArg some (by kernel_rfl))
 f287 := Tryz.func131.trans (congrArg some (by kernel_rfl))
 f316 := Tryz.func141.trans (congrArg some (by kernel_rfl))
 f317 := Tryz.func121.trans (congrArg some (by kernel_rfl))
 f318 := Tryz.func123.trans (congrArg some (by kernel_rfl))
 f319 := Tryz.func124.trans (congrArg some (by kernel_rfl))
 f320 := Tryz.func125.trans (congrArg some (by kernel_rfl))
 f321 := Tryz.func139.trans (congrArg some (by kernel_rfl))
 f322 := Tryz.func140.trans (congrArg some (by kernel_rfl))
 f337 := Tryz.func136.trans (congrArg some (by kernel_rfl))
 f338 := Tryz.func137.trans (congrArg some (by kernel_rfl))
 t0 := Tryz.underlying0
 a0 := Tryz.isAgg0
 z0 := Tryz.sizeOf0
 v0 := Tryz.zeroValue0
 t2 := Tryz.underlying2
 a2 := Tryz.isAgg2
 z2 := Tryz.sizeOf2
 v2 := Tryz.zeroValue2
 t3 := Tryz.underlying3
 a3 := Tryz.isAgg3
 z3 := Tryz.sizeOf3
 v3 := Tryz.zeroValue3
 t4 := Tryz.underlying4
 a4 := Tryz.isAgg4
 z4 := Tryz.sizeOf4
 v4 := Tryz.zeroValue4
 t5 := Tryz.underlying5
 a5 := Tryz.isAgg5
 z5 := Tryz.sizeOf5
 v5 := Tryz.zeroValue5
 t9 := Tryz.underlying9
 a9 := Tryz.isAgg9
 z9 := Tryz.sizeOf9
 v9 := Tryz.zeroValue9
 t20 := Tryz.underlying20
 a20 := Tryz.isAgg20
 z20 := Tryz.sizeOf20
 v20 := Tryz.zeroValue20
 t21 := Tryz.underlying21
 a21 := Tryz.isAgg21
 z21 := Tryz.sizeOf21
 v21 := Tryz.zeroValue21
 t37 := Tryz.underlying34
 a37 := Tryz.isAgg34
 z37 := Tryz.sizeOf34
 v37 := Tryz.zeroValue34
 t46 := Tryz.underlying154
 a46 := Tryz.isAgg154
 z46 := Tryz.sizeOf154
 v46 := Tryz.zeroValue154
 t51 := Tryz.underlying166
 a51 := Tryz.isAgg166
 z51 := Tryz.sizeOf166
 v51 := Tryz.zeroValue166
 t53 := Tryz.underlying105
 a53 := Tryz.isAgg105
 z53 := Tryz.sizeOf105
 v53 := Tryz.zeroValue105
 t75 := Tryz.underlying39
 a75 := Tryz.isAgg39
 z75 := Tryz.sizeOf39
 v75 := Tryz.zeroValue39
 t85 := Tryz.underlying152
 a85 := Tryz.isAgg152
 z85 := Tryz.sizeOf152
 v85 := Tryz.zeroValue152
 t127 := Tryz.underlying138
 a127 := Tryz.isAgg138
 z127 := Tryz.sizeOf138
 v127 := Tryz.zeroValue138
 t143 := Tryz.underlying191
 a143 := Tryz.isAgg191
 z143 := Tryz.sizeOf191
 v143 := Tryz.zeroValue191
 t145 := Tryz.underlying193
 a145 := Tryz.isAgg193
 z145 := Tryz.sizeOf193
 v145 := Tryz.zeroValue193
 t167 := Tryz.underlying173
 a167 := Tryz.isAgg173
 z167 := Tryz.sizeOf173
 v167 := Tryz.zeroValue173
 t168 := Tryz.underlying176
 a168 := Tryz.isAgg176
 z168 := Tryz.sizeOf176
 v168 := Tryz.zeroValue176
 t171 := Tryz.underlying155
 a171 := Tryz.isAgg155
 z171 := Tryz.sizeOf155
 v171 := Tryz.zeroValue155
 t173 := Tryz.underlying158
 a173 := Tryz.isAgg158
 z173 := Tryz.sizeOf158
 v173 := Tryz.zeroValue158
 t175 := Tryz.underlying174
 a175 := Tryz.isAgg174
 z175 := Tryz.sizeOf174
 v175 := Tryz.zeroValue174
 t210 := Tryz.underlying183
 a210 := Tryz.isAgg183
 z210 := Tryz.sizeOf183
 v210 := Tryz.zeroValue183
 t212 := Tryz.underlying165
 a212 := Tryz.isAgg165
 z212 := Tryz.sizeOf165
 v212 := Tryz.zeroValue165
 t213 := Tryz.underlying167
 a213 := Tryz.isAgg167
 z213 := Tryz.sizeOf167
 t232 := Tryz.underlying185
 a232 := Tryz.isAgg185
 z232 := Tryz.sizeOf185
 v232 := Tryz.zeroValue185
 t233 := Tryz.underlying186
 a233 := Tryz.isAgg186
 z233 := Tryz.sizeOf186
 v233 := Tryz.zeroValue186
 g15 := by kernel_rfl
 g16 := by kernel_rfl
 g17 := by kernel_rfl
 g18 := by kernel_rfl
 g19 := by kernel_rfl
 t80 := Tryz.underlying116
 a80 := Tryz.isAgg116
 z80 := Tryz.sizeOf116
 v80 := Tryz.zeroValue116
 i0 := by kernel_rfl
 i2 := by kernel_rfl
 i3 := by kernel_rfl
 i4 := by kernel_rfl
 i5 := by kernel_rfl
 i9 := by kernel_rfl
 i20 := by kernel_rfl
 i21 := by kernel_rfl
 i37 := by kernel_rfl
 i46 := by kernel_rfl
 i51 := by kernel_rfl
 i53 := by kernel_rfl
 i75 := by kernel_rfl
 i80 := by kernel_rfl
 i85 := by kernel_rfl
 i127 := by kernel_rfl
 i143 := by kernel_rfl
 i145 := by kernel_rfl
 i167 := by kernel_rfl
 i168 := by kernel_rfl
 i171 := by kernel_rfl
 i173 := by kernel_rfl
 i175 := by kernel_rfl
 i210 := by kernel_rfl
 i212 := by kernel_rfl
 i232 := by kernel_rfl
 i233 := by kernel_rfl
 m15 := by kernel_rfl
 m16 := by kernel_rfl
 m17 := by kernel_rfl
 m18 := by kernel_rfl
 m19 := by kernel_rfl
 c0 := by kernel_rfl
 c2 := by kernel_rfl
 c3 := by kernel_rfl
 c4 := by kernel_rfl
 c5 := by kernel_rfl
 c9 := by kernel_rfl
 c20 := by kernel_rfl
 c21 := by kernel_rfl
 c37 := by kernel_rfl
 c46 := by kernel_rfl
 c51 := by kernel_rfl
 c53 := by kernel_rfl
 c75 := by kernel_rfl
 c80 := by kernel_rfl
 c85 := by kernel_rfl
 c127 := by kernel_rfl
 c143 := by kernel_rfl
 c145 := by kernel_rfl
 c167 := by kernel_rfl
 c168 := by kernel_rfl
 c171 := by kernel_rfl
 c173 := by kernel_rfl
 c175 := by kernel_rfl
 c210 := by kernel_rfl
 c212 := by kernel_rfl
 c213 := by kernel_rfl
 c232 := by kernel_rfl
 c233 := by kernel_rfl }
open Go.RowKit in
theorem Tryz.strconv_ParseInt_10_at64_ok (s : ByteArray) (hmax : s.size ≤ 9223372036854775806) (v : Int) (h : Lib.parseIntB 64 s.data.toList = .ok v) (w : World) :
  Calls Tryz.prog 106 #[.string s, .int .i64 10, .int .i64 64] w fun e w' => e = .returned (.tuple #[.int .i64 v, .nilIface]) ∧ (w' = w ∨ ∃ t, w' = Lib.bytesWorld w 5 t) := Any.strconv_ParseInt_10_at64_ok Tryz.laysC174 s hmax v h w
open Go.RowKit in
theorem Tryz.strconv_ParseInt_10_at64_syntax (s : ByteArray) (hlim : s.size ≤ 281474976710656) (h : Lib.parseIntB 64 s.data.toList = Lib.parseIntB 64 []) (ev : Value) (w : World) (hv : w.cell? ⟨2, 0, none⟩ = some ev) (hev : ev = .nilIface ∨ ∃ te pe, ev = .iface te pe) :
  Calls Tryz.prog 106 #[.string s, .int .i64 10, .int .i64 64] w fun e w' => ∃ N, e = .returned (.tuple #[.int .i64 (0), .iface 176 (.pointer (some ⟨N, 0, none⟩))]) ∧ w.heap.size ≤ N ∧ w'.heap[N]? = some (.cells #[.string ⟨#[80, 97, 114, 115, 101, 73, 110, 116]⟩, .string s, ev] 183 (0, 0)) ∧ Below w.heap.size w w' := Any.strconv_ParseInt_10_at64_syntax Tryz.laysC174 s hlim h ev w hv hev
open Go.RowKit in
theorem Tryz.strconv_ParseInt_10_at64_range (s : ByteArray) (hlim : s.size ≤ 281474976710656) (h : Lib.parseIntB 64 s.data.toList = .range) (ev : Value) (w : World) (hv : w.cell? ⟨3, 0, none⟩ = some ev) (hev : ev = .nilIface ∨ ∃ te pe, ev = .iface te pe) :
  Calls Tryz.prog 106 #[.string s, .int .i64 10, .int .i64 64] w fun e w' => ∃ N, e = .returned (.tuple #[.int .i64 (Lib.intSat 64 s.data.toList), .iface 176 (.pointer (some ⟨N, 0, none⟩))]) ∧ w.heap.size ≤ N ∧ w'.heap[N]? = some (.cells #[.string ⟨#[80, 97, 114, 115, 101, 73, 110, 116]⟩, .string s, ev] 183 (0, 0)) ∧ Below w.heap.size w w' := Any.strconv_ParseInt_10_at64_range Tryz.laysC174 s hlim h ev w hv hev
def Tryz.lays219_ren : Go.Shelf.Ren := ⟨fun | 219 => 104 | 217 => 112 | 225 => 113 | 224 => 114 | 267 => 115 | 266 => 126 | 314 => 127 | n => n, fun | 9 => 9 | 3 => 3 | 4 => 4 | 5 => 5 | 46 => 154 | 146 => 169 | 51 => 166 | n => n, fun | 1 => 0 | n => n⟩
def Tryz.lays145_ren : Go.Shelf.Ren := ⟨fun | 145 => 60 | 220 => 88 | 219 => 104 | 217 => 112 | 225 => 113 | 224 => 114 | 267 => 115 | 266 => 126 | 314 => 127 | n => n, fun | 9 => 9 | 4 => 4 | 59 => 119 | 3 => 3 | 5 => 5 | 46 => 154 | 146 => 169 | 51 => 166 | n => n, fun | 1 => 0 | n => n⟩
theorem Tryz.lays145 : Go.Proofs.Lays.n145 Tryz.prog Tryz.lays145_ren := {
 mixed := by kernel_rfl
 f145 := Tryz.func60.trans (congrArg some (by kernel_rfl))
 f217 := Tryz.func112.trans (congrArg some (by kernel_rfl))
 f219 := Tryz.func104.trans (congrArg some (by kernel_rfl))
 f220 := Tryz.func88.trans (congrArg some (by kernel_rfl))
 f224 := Tryz.func114.trans (congrArg some (by kernel_rfl))
 f225 := Tryz.func113.trans (congrArg some (by kernel_rfl))
 f266 := Tryz.func126.trans (congrArg some (by kernel_rfl))
 f267 := Tryz.func115.trans (congrArg some (by kernel_rfl))
 f314 := Tryz.func127.trans (congrArg some (by kernel_rfl))
 t3 := Tryz.underlying3
 a3 := Tryz.isAgg3
 z3 := Tryz.sizeOf3
 v3 := Tryz.zeroValue3
 t4 := Tryz.underlying4
 a4 := Tryz.isAgg4
 z4 := Tryz.sizeOf4
 v4 := Tryz.zeroValue4
 t5 := Tryz.underlying5
 a5 := Tryz.isAgg5
 z5 := Tryz.sizeOf5
 v5 := Tryz.zeroValue5
 t9 := Tryz.underlying9
 a9 := Tryz.isAgg9
 z9 := Tryz.sizeOf9
 v9 := Tryz.zeroValue9
 t46 := Tryz.underlying154
 a46 := Tryz.isAgg154
 z46 := Tryz.sizeOf154
 v46 := Tryz.zeroValue154
 t51 := Tryz.underlying166
 a51 := Tryz.isAgg166
 z51 := Tryz.sizeOf166
 v51 := Tryz.zeroValue166
 t59 := Tryz.underlying119
 a59 := Tryz.isAgg119
 z59 := Tryz.sizeOf119
 v59 := Tryz.zeroValue119
 t146 := Tryz.underlying169
 a146 := Tryz.isAgg169
 z146 := Tryz.sizeOf169
 v146 := Tryz.zeroValue169
 g1 := by kernel_rfl }
open Go.RowKit Go.Lib in
theorem Tryz.strings_Cut (s sep : ByteArray) (m : Int) (w : World) (hs : s.size < 4294967281) (hm : w.cell? ⟨0, 0, none⟩ = some (.int .i64 m)) :
  Calls Tryz.prog 60 #[.string s, .string sep] w fun e w' => e = .returned (.tuple #[.string ⟨(Lib.cut s.data.toList sep.data.toList).1.toArray⟩, .string ⟨(Lib.cut s.data.toList sep.data.toList).2.1.toArray⟩, .bool (Lib.cut s.data.toList sep.data.toList).2.2]) ∧ ∃ n, w' = w.drewN n := Any.strings_Cut Tryz.lays145 s sep m w hs hm
def Tryz.lays221_ren : Go.Shelf.Ren := ⟨fun | 221 => 105 | 268 => 116 | 138 => 117 | 143 => 118 | 195 => 128 | 197 => 129 | 218 => 130 | 219 => 104 | 260 => 138 | 217 => 112 | 225 => 113 | 224 => 114 | 267 => 115 | 266 => 126 | 314 => 127 | n => n, fun | 9 => 9 | 3 => 3 | 31 => 139 | 4 => 4 | 0 => 0 | 105 => 171 | 21 => 21 | 5 => 5 | 46 => 154 | 119 => 187 | 139 => 190 | 138 => 189 | 146 => 169 | 51 => 166 | n => n, fun | 1 => 0 | 3 => 6 | 4 => 7 | n => n⟩
def Tryz.lays146_ren : Go.Shelf.Ren := ⟨fun | 146 => 89 | 221 => 105 | 268 => 116 | 138 => 117 | 143 => 118 | 195 => 128 | 197 => 129 | 218 => 130 | 219 => 104 | 260 => 138 | 217 => 112 | 225 => 113 | 224 => 114 | 267 => 115 | 266 => 126 | 314 => 127 | n => n, fun | 9 => 9 | 31 => 139 | 3 => 3 | 4 => 4 | 0 => 0 | 105 => 171 | 21 => 21 | 5 => 5 | 46 => 154 | 119 => 187 | 139 => 190 | 138 => 189 | 146 => 169 | 51 => 166 | n => n, fun | 1 => 0 | 3 => 6 | 4 => 7 | n => n⟩
theorem Tryz.lays146 : Go.Proofs.Lays.n146 Tryz.prog Tryz.lays146_ren := {
 mixed := by kernel_rfl
 f138 := Tryz.func117.trans (congrArg some (by kernel_rfl))
 f143 := Tryz.func118.trans (congrArg some (by kernel_rfl))
 f146 := Tryz.func89.trans (congrArg some (by kernel_rfl))
 f195 := Tryz.func128.trans (congrArg some (by kernel_rfl))
 f197 := Tryz.func129.trans (congrArg some (by kernel_rfl))
 f217 := Tryz.func112.trans (congrArg some (by kernel_rfl))
 f218 := Tryz.func130.trans (congrArg some (by kernel_rfl))
 f219 := Tryz.func104.trans (congrArg some (by kernel_rfl))
 f221 := Tryz.func105.trans (congrArg some (by kernel_rfl))
 f224 := Tryz.func114.trans (congrArg some (by kernel_rfl))
 f225 := Tryz.func113.trans (congrArg some (by kernel_rfl))
 f260 := Tryz.func138.trans (congrArg some (by kernel_rfl))
 f266 := Tryz.func126.trans (congrArg some (by kernel_rfl))
 f267 := Tryz.func115.trans (congrArg some (by kernel_rfl))
 f268 := Tryz.func116.trans (congrArg some (by kernel_rfl))
 f314 := Tryz.func127.trans (congrArg some (by kernel_rfl))
 t0 := Tryz.underlying0
 a0 := Tryz.isAgg0
 z0 := Tryz.sizeOf0
 v0 := Tryz.zeroValue0
 t3 := Tryz.underlying3
 a3 := Tryz.isAgg3
 z3 := Tryz.sizeOf3
 v3 := Tryz.zeroValue3
 t4 := Tryz.underlying4
 a4 := Tryz.isAgg4
 z4 := Tryz.sizeOf4
 v4 := Tryz.zeroValue4
 t5 := Tryz.underlying5
 a5 := Tryz.isAgg5
 z5 := Tryz.sizeOf5
 v5 := Tryz.zeroValue5
 t9 := Tryz.underlying9
 a9 := Tryz.isAgg9
 z9 := Tryz.sizeOf9
 v9 := Tryz.zeroValue9
 t21 := Tryz.underlying21
 a21 := Tryz.isAgg21
 z21 := Tryz.sizeOf21
 v21 := Tryz.zeroValue21
 t31 := Tryz.underlying139
 a31 := Tryz.isAgg139
 z31 := Tryz.sizeOf139
 v31 := Tryz.zeroValue139
 t46 := Tryz.underlying154
 a46 := Tryz.isAgg154
 z46 := Tryz.sizeOf154
 v46 := Tryz.zeroValue154
 t51 := Tryz.underlying166
 a51 := Tryz.isAgg166
 z51 := Tryz.sizeOf166
 v51 := Tryz.zeroValue166
 t105 := Tryz.underlying171
 a105 := Tryz.isAgg171
 z105 := Tryz.sizeOf171
 v105 := Tryz.zeroValue171
 t119 := Tryz.underlying187
 a119 := Tryz.isAgg187
 z119 := Tryz.sizeOf187
 t138 := Tryz.underlying189
 a138 := Tryz.isAgg189
 z138 := Tryz.sizeOf189
 v138 := Tryz.zeroValue189
 t139 := Tryz.underlying190
 a139 := Tryz.isAgg190
 z139 := Tryz.sizeOf190
 v139 := Tryz.zeroValue190
 t146 := Tryz.underlying169
 a146 := Tryz.isAgg169
 z146 := Tryz.sizeOf169
 v146 := Tryz.zeroValue169
 g1 := by kernel_rfl
 g3 := by kernel_rfl
 g4 := by kernel_rfl }
open Go.RowKit Go.Lib in
theorem Tryz.strings_Split (s sep : ByteArray) (m : Int) (w : World) (hs : s.size < 4294967281) (hm : w.cell? ⟨0, 0, none⟩ = some (.int .i64 m)) (h1 : 1 ≤ sep.size) :
  Calls Tryz.prog 89 #[.string s, .string sep] w fun e w' =>
   e = .returned (.slice (some ⟨w.heap.size, 0, none⟩) (Lib.countB s sep + 1) (Lib.countB s sep + 1)) ∧ w' = w.alloc (.cells ((Lib.splitB sep 0 (Lib.countB s sep) s).map Value.string).toArray 9) := Any.strings_Split Tryz.lays146 (by kernel_rfl) s sep m w hs hm h1
end Go.Proofs
end

section
namespace Go.Proofs.YtmfgofbcnlkolaaGreatDoor.F
open Go Go.Den Go.Proofs
def bv (x : Int) : Value := .int .u8 x
theorem row_fr {S : List Nat} {w w' : World} {B n : Nat} {v : Value} {xs : List Value} (h : w.ownsRow B 5 1 v n xs) (hf : Fr S w w') (hn : ∀ k ∈ v.ownBlock.toList, k ∉ S) : w'.ownsRow B 5 1 v n xs := by
 obtain ⟨h1, h2⟩ := h
 refine ⟨h1, ?_⟩
 rcases h2 with h2 | ⟨g, cap, cur, rfl, a1, a2, a3⟩
 ·exact .inl h2
 ·have hg : g < w.heap.size := (Array.getElem?_eq_some_iff.1 a2).1
  exact .inr ⟨g, cap, cur, rfl, a1, (hf.block g hg (hn g (by simp [Value.ownBlock]))).trans a2, a3⟩
theorem row_lt {w : World} {B n : Nat} {v : Value} {xs : List Value} (h : w.ownsRow B 5 1 v n xs) : ∀ k ∈ v.ownBlock.toList, k < w.heap.size := by
 obtain ⟨h1, h2⟩ := h
 rcases h2 with ⟨rfl, _⟩ | ⟨g, cap, cur, rfl, a1, a2, a3⟩
 ·simp [Value.ownBlock]
 ·intro k hk
  simp [Value.ownBlock] at hk
  subst hk
  exact (Array.getElem?_eq_some_iff.1 a2).1
def tBld (B b : Nat) (l : List Int) : Thing :=
  { holds := fun w O => ∃ (p : Option Addr) (v : Value), (p = none ∨ p = some ⟨b, 0, none⟩) ∧ B ≤ b ∧ w.heap[b]? = some (.cells #[.pointer p, v] 112 (0, 0)) ∧ w.ownsRow B 5 1 v l.length (l.map bv) ∧ v.ownBlock ≠ some b ∧ O = b :: v.ownBlock.toList
    fr := fun {S w w' O} h hf hn => by
      obtain ⟨p, v, h1, h2, h3, h4, h5, rfl⟩ := h
      have hb : b < w.heap.size := (Array.getElem?_eq_some_iff.1 h3).1
      exact ⟨p, v, h1, h2, (hf.block b hb (hn b (by simp))).trans h3, row_fr h4 hf fun k hk => hn k (by simp [hk]), h5, rfl⟩
    lt := fun {w O} h k hk => by
      obtain ⟨p, v, h1, h2, h3, h4, h5, rfl⟩ := h
      rcases List.mem_cons.1 hk with rfl | hk
      · exact (Array.getElem?_eq_some_iff.1 h3).1
      · exact row_lt h4 k hk }
theorem und110 : Tryz.prog.underlying 110 = some (.pointer 112) := by kernel_rfl
theorem und148 : Tryz.prog.underlying 148 = some .unsafePointer := by kernel_rfl
theorem inf112 : ∃ inf : TypeInfo, Tryz.prog.info? 112 = some inf ∧ inf.zero = some (.agg #[.pointer none, .slice none 0 0]) ∧ inf.size = 2 ∧ inf.bytes = 32 := infoP (by kernel_rfl)
theorem und34' : Tryz.prog.underlying 34 = some (.slice 5) := by kernel_rfl
theorem und9' : Tryz.prog.underlying 9 = some .string := by kernel_rfl
theorem bv_strCells (s : ByteArray) : Lib.strCells s = (strL s).map bv := by
 rw [strCells_fm, List.map_eq_flatMap]; rfl
section
variable {S : List Nat} {w0 w : World} {its rest : List Thing}
theorem copyCheck_spec (h : Hp S w0 w its) (i : Nat) {B b : Nat} {l : List Int} (hi : its[i]? = some (tBld B b l)) {K : World → Prop} (hK : ∀ w', Hp S w0 w' its → K w') : c85 (some ⟨b, 0, none⟩) w K := by
 refine c85_of ?_
 unfold f85
 rw [NN_some]
 obtain ⟨O, hO, back⟩ := h.step hi rfl
 obtain ⟨p, v, h1, h2, h3, h4, h5, rfl⟩ := hO
 have hc : w.cell? ⟨b, 0, none⟩ = some (.pointer p) := by simp [World.cell?, h3]
 have hz : w.frozen? ⟨b, 0, none⟩ = false := by simp [World.frozen?, h3]
 have hsh : w.shape? b = some (112, 2) := by simp [World.shape?, h3]
 obtain ⟨inf, i1, i2, i3, i4⟩ := inf112
 refine ⟨p, hc, ?_⟩
 rcases h1 with rfl | rfl
 ·refine ifT rfl ?_
  refine ⟨.pointer (some ⟨b, 0, none⟩), w, Lib.run_to_unsafe w ⟨b, 0, none⟩ und110 und148 i1 (by rw [i3]; decide) hsh (by simp), ?_⟩
  refine ⟨.pointer (some ⟨b, 0, none⟩), w, by kernel_rfl, ?_⟩
  refine ⟨some ⟨b, 0, none⟩, w, Lib.run_from_unsafe w ⟨b, 0, none⟩ und148 und110 i1 hsh (by kernel_rfl), ?_⟩
  dsimp only
  rw [NN_some]
  refine ⟨rfl, by rw [hc]; rfl, hz, ?_⟩
  have e : its.set i (tBld B b l) = its := Hp.set_same' hi
  refine hK _ ?_
  rw [← e]
  refine back (t' := tBld B b l) (O' := b :: v.ownBlock.toList) (Fr.mono (Fr.set 0 _) (by simp)) ?_ (fun k hk => .inl hk) rfl
  refine ⟨some ⟨b, 0, none⟩, v, .inr rfl, h2, ?_, row_fr h4 (Fr.set (w := w) (b := b) 0 (.pointer (some ⟨b, 0, none⟩))) (fun k hk => ?_), h5, rfl⟩
  ·simp [World.setCell, Array.getElem?_modify, h3]
  ·intro e
   simp only [List.mem_singleton] at e
   subst e
   exact h5 (by simpa using hk)
 ·refine ifF (by simp) ?_
  rw [NN_some]
  refine ⟨some ⟨b, 0, none⟩, hc, ?_⟩
  refine ⟨false, fun w' _ => ?_, ifF (by decide) (hK w h)⟩
  have := Lib.run_neq_ptr_same w' ⟨b, 0, none⟩ und110 i1
  unfold binSem
  simp [run_eqGuard_plain (P := Tryz.prog) (w := w') (op := .neq) (t := 110) (x := .tmp 17) (y := .tmp 18) (a := .pointer (some ⟨b, 0, none⟩)) (b := .pointer (some ⟨b, 0, none⟩)) rfl (by simp), this, Kd.inj]
theorem WriteString_spec (h : Hp S w0 w its) (i : Nat) {B b : Nat} {l : List Int} (hi : its[i]? = some (tBld B b l)) (s : ByteArray) (hl : l.length + s.size ≤ 140737488355328) {K : Int → Value → World → Prop} (hK : ∀ w', Hp S w0 w' (its.set i (tBld B b (l ++ strL s))) → K (s.size : Int) .nilIface w') : c53 (some ⟨b, 0, none⟩) s w K := by
 refine c53_of ?_
 unfold f53
 refine copyCheck_spec h i hi fun w h => ?_
 rw [NN_some]
 obtain ⟨O, hO, back⟩ := h.step hi rfl
 obtain ⟨p, v, h1, h2, h3, h4, h5, rfl⟩ := hO
 have hb : b < w.heap.size := (Array.getElem?_eq_some_iff.1 h3).1
 obtain ⟨inf, i1, i2, i3, i4⟩ := inf5
 have hv : ∃ buf : Sl, v = .slice buf.a buf.len buf.cap := by
  rcases h4.2 with ⟨rfl, _⟩ | ⟨g, cap, cur, rfl, _⟩
  ·exact ⟨⟨none, 0, 0⟩, rfl⟩
  ·exact ⟨⟨_, _, _⟩, rfl⟩
 obtain ⟨buf, rfl⟩ := hv
 refine ⟨buf, ?_, ?_⟩
 ·show w.cell? ⟨b, 1, none⟩ = _
  simp [World.cell?, h3, Kd.inj]
 obtain ⟨v', w2, hr, g1, g2, g3⟩ := Lib.run_append_own_string (P := Tryz.prog) w B 34 9 34 5 inf und34' und9' i1 i2 i3 i4 _ _ _ h4 s (by unfold maxLen; omega) hl (by omega)
 have hS : SlF w buf 5 1 u8v l (Value.slice buf.a buf.len buf.cap).ownBlock.toList := by
  obtain ⟨k1, k2⟩ := h4
  rcases k2 with ⟨k2, k3⟩ | ⟨g, cap, cur, k2, a1, a2, a3, a4, a5, a6⟩
  ·simp only [Value.slice.injEq] at k2
   obtain ⟨k2, k4, k5⟩ := k2
   refine ⟨by omega, .inl ⟨k2, k4, k5, by rw [k2]; rfl⟩⟩
  ·simp only [Value.slice.injEq] at k2
   obtain ⟨k2, k4, k5⟩ := k2
   refine ⟨k4.symm, .inr ⟨g, 0, cur.toList, k2, by rw [k2]; rfl, ?_, by omega, ?_, ?_⟩⟩
   ·show w.heap[g]? = some (.cells cur.toList.toArray 5 (0, 0))
    simpa using a2
   ·rw [Array.length_toList]; omega
   ·rw [List.drop_zero, k4, a6, List.map_eq_flatMap]; rfl
 obtain ⟨s2, w2', hr2, o', q1, q2, q3⟩ : Run .sl Tryz.prog (Builtin.append_ #[34, 9] 34 #[.slice buf.a buf.len buf.cap, .string s]) w (fun s' w' => ∃ o', SlF w' s' 5 1 u8v (l ++ strL s) o' ∧ (o' = (Value.slice buf.a buf.len buf.cap).ownBlock.toList ∨ ∃ k, w.heap.size ≤ k ∧ k < w'.heap.size ∧ o' = [k]) ∧ Fr (Value.slice buf.a buf.len buf.cap).ownBlock.toList w w') :=
  SlF.appT und34' und9' i1 i3 i2 i4 hS (by have := hS.1; omega) (fun s' w' o' a1 _ a3 a4 => ⟨o', a1, a3, a4⟩)
 rw [hr] at hr2
 simp only [Result.ok.injEq] at hr2
 obtain ⟨hv', rfl⟩ := hr2
 have hv' : v' = .slice s2.a s2.len s2.cap := hv'
 subst hv'
 refine ⟨s2, w2, hr, ?_⟩
 dsimp only
 rw [NN_some]
 have hb2 : w2.heap[b]? = some (.cells #[.pointer p, .slice buf.a buf.len buf.cap] 112 (0, 0)) := (g2.block b hb fun e => h5 e.symm).trans h3
 have hown : w2.ownsRow B 5 1 (.slice s2.a s2.len s2.cap) (((l ++ strL s).map bv).length) ((l ++ strL s).map bv) := by
  rw [bv_strCells, ← List.map_append] at g1
  have : ((l ++ strL s).map bv).length = l.length + s.size := by simp [strL_len]
  rw [this]
  exact g1
 obtain ⟨z1, v3, z2, z3, z4⟩ := Lib.BuilderAt.put h2 hb2 hown (by decide)
 refine ⟨rfl, ?_, ?_, hK _ (back (t' := tBld B b (l ++ strL s)) (O' := b :: (Value.slice s2.a s2.len s2.cap).ownBlock.toList) ?_ ⟨p, .slice s2.a s2.len s2.cap, h1, h2, ?_, ?_, ?_, rfl⟩ ?_ rfl)⟩
 ·show (w2.cell? ⟨b, 1, none⟩).isSome = true
  simp [World.cell?, hb2]
 ·show w2.frozen? ⟨b, 1, none⟩ = false
  simp [World.frozen?, hb2]
 ·have hf1 : Fr (b :: (Value.slice buf.a buf.len buf.cap).ownBlock.toList) w w2 := Fr.mono q3 (by simp +contextual)
  have hf2 : Fr [b] w2 (w2.setCell ⟨b, 1, none⟩ (.slice s2.a s2.len s2.cap)) := Fr.set 1 _
  exact Fr.trans hf1 hf2 (by simp)
 ·show (w2.setCell ⟨b, 1, none⟩ (.slice s2.a s2.len s2.cap)).heap[b]? = _
  simp [World.setCell, Array.getElem?_modify, hb2]
 ·have hw : (w2.setCell ⟨b, 1, none⟩ (.slice s2.a s2.len s2.cap)).ownsRow B 5 1 (.slice s2.a s2.len s2.cap) (((l ++ strL s).map bv).length) ((l ++ strL s).map bv) := by
   refine row_fr hown (Fr.set (b := b) 1 (.slice s2.a s2.len s2.cap)) ?_
   intro k hk e
   simp only [List.mem_singleton] at e
   subst e
   have := Lib.ownBlock_ne hown hb2 (by decide)
   exact this (by simpa using hk)
  rw [List.length_map] at hw
  exact hw
 ·exact Lib.ownBlock_ne hown hb2 (by decide)
 ·intro k hk
  rcases List.mem_cons.1 hk with rfl | hk
  ·exact .inl (by simp)
  ·have ho : (Value.slice s2.a s2.len s2.cap).ownBlock.toList = o' ∨ (Value.slice s2.a s2.len s2.cap).ownBlock.toList = [] := by
    rcases q1.2 with ⟨e1, _, _, e2⟩ | ⟨g, off, c, e1, e2, _⟩
    ·right; rw [e1]; rfl
    ·left; rw [e1, e2]; rfl
   rcases ho with ho | ho
   ·rw [ho] at hk
    rcases q2 with rfl | ⟨k', r1, r2, rfl⟩
    ·exact .inl (by simp [hk])
    ·simp only [List.mem_singleton] at hk
     subst hk
     exact .inr r1
   ·rw [ho] at hk; cases hk
theorem bld_new (h : Hp S w0 w its) {K : Addr → World → Prop} (hK : ∀ b w', Hp S w0 w' (its ++ [tBld w0.heap.size b []]) → K ⟨b, 0, none⟩ w') : Nw (.cells #[.pointer none, .slice none 0 0] 112) w K := by
 refine hK w.heap.size _ (h.grow (t := tBld w0.heap.size w.heap.size []) (O := [w.heap.size]) (Fr.alloc w _) ⟨none, .slice none 0 0, .inl rfl, h.fr.size, ?_, World.ownsRow_nil _ _ _ _, by simp [Value.ownBlock], rfl⟩ (by simp) rfl)
 exact heap_alloc_new w _
theorem frNil (h : Fr [] w0 w) : Hp [] w0 w [] := ⟨h, fun _ => [], by simp, by simp⟩
theorem String_spec (h : Hp [] w0 w its) (i : Nat) {b : Nat} {l : List Int} (hi : its[i]? = some (tBld w0.heap.size b l)) (hb : Bytes l) {K : ByteArray → World → Prop} (hK : ∀ w', Hp [] w0 w' [] → K (strOf l) w') : c56 (some ⟨b, 0, none⟩) w K := by
 obtain ⟨O, hO⟩ := h.see hi
 obtain ⟨p, v, h1, h2, h3, h4, h5, rfl⟩ := hO
 have hl : Lib.byteCells (strOf l).data.toList = l.map bv := by
  have : Lib.strCells (strOf l) = l.map bv := by rw [bv_strCells, strL_of hb]
  exact this
 have hx : Lib.IsBuilder 112 5 w0.heap.size b (Lib.byteCells (strOf l).data.toList) w := by
  rw [hl]
  have h4 : w.ownsRow w0.heap.size 5 1 v (l.map bv).length (l.map bv) := by rw [List.length_map]; exact h4
  rcases h1 with rfl | rfl
  ·exact .inl ⟨h2, v, h3, h4, h5⟩
  ·exact .inr ⟨h2, v, h3, h4, h5⟩
 refine Calls.mono (Tryz.Builder_String_any w0.heap.size b (strOf l).data.toList w hx h.fr.size) fun e w' ⟨he, hw⟩ => ?_
 subst he
 refine ⟨_, rfl, ?_⟩
 have e : (⟨(strOf l).data.toList.toArray⟩ : ByteArray) = strOf l := by simp
 rw [e]
 refine hK w' (frNil ⟨hw.os.trans h.fr.os, hw.tape.trans h.fr.tape, hw.output.trans h.fr.output, Nat.le_trans h.fr.size hw.size, fun k hk hn => ?_⟩)
 exact (hw.block k hk).trans (h.fr.block k hk hn)
end
abbrev TabW (w : World) : Prop := Lib.TabIs Tryz.prog w "internal/strconv.uint64pow10" .u64 Lib.pow10Tab
theorem tab_fr {w w' : World} (h : TabW w) (hf : Fr [] w w') : TabW w' := by
 unfold TabW Lib.TabIs World.var? at *
 cases hg : Tryz.prog.globalNamed "internal/strconv.uint64pow10" with
 | none => simp [hg] at h
 | some g =>
  simp only [hg, Option.bind_some] at h ⊢
  have hlt : g < w.heap.size := by
   rcases Nat.lt_or_ge g w.heap.size with h' | h'
   ·exact h'
   ·rw [Array.getElem?_eq_none h'] at h; simp at h
  rw [hf.block g hlt (by simp)]
  exact h
theorem strL_append' (a b : ByteArray) : strL (a ++ b) = strL a ++ strL b := by
 unfold strL
 rw [ByteArray.data_append, Array.toList_append, List.map_append]
def dec (n : Int) : ByteArray := ⟨(Lib.itoa n).toArray⟩
def decL (n : Int) : List Int := strL (dec n)
theorem dec_size {n : Int} (h0 : -9223372036854775808 ≤ n) (h1 : n ≤ 9223372036854775807) : (dec n).size ≤ 21 := by
 show (Lib.itoa n).toArray.size ≤ 21
 rw [List.size_toArray]
 unfold Lib.itoa
 split
 ·rw [List.length_cons, Lib.decDigits_length]
  have := Lib.nDigits_le20 n.natAbs (by omega)
  omega
 ·rw [Lib.decDigits_length]
  have := Lib.nDigits_le20 n.toNat (by omega)
  omega
def lineL (x : Ins) : List Int := strL (row x.1).word ++ (if (row x.1).num = true then 32 :: decL x.2 else [])
def headL (r : RT) : List Int := strL r.nm ++ 32 :: (decL r.pa ++ 32 :: (decL r.lo ++ [10]))
def listL (r : RT) : List Int := headL r ++ r.code.flatMap fun x => lineL x ++ [10]
def visM (c : Int) : Bool := decide (33 ≤ c) && decide (c ≤ 126)
def listedM (s : ByteArray) : Bool := (strL s).all visM && decide (s.size ≠ 0) && decide (s.size ≤ 16)
def listM (r : RT) : Bool := listedM r.nm && writtenM r 2000
def listS (r : RT) : ByteArray := if listM r = true then strOf (listL r) else ⟨#[]⟩
theorem word_size (op : Int) : (row op).word.size ≤ 5 := by
 cases hi : isOpM op with
 | false => rw [row_no hi]; decide
 | true =>
  obtain ⟨n, rfl, hn⟩ := op_of hi
  have key : ∀ k : Fin 40, (tab.getD k.val noRw).word.size ≤ 5 := by decide
  unfold row
  rw [if_pos hi]
  exact key ⟨n + 1, by omega⟩
theorem lineL_len {x : Ins} (h0 : -9223372036854775808 ≤ x.2) (h1 : x.2 ≤ 9223372036854775807) : (lineL x).length ≤ 27 := by
 have h2 := word_size x.1
 have h3 := dec_size h0 h1
 unfold lineL decL
 rw [List.length_append, strL_len]
 split
 ·rw [List.length_cons, strL_len]; omega
 ·simp; omega
section
variable {w0 w : World} {its rest : List Thing}
theorem frOfBelow {w w' : World} (h : RowKit.Below w.heap.size w w') : Fr [] w w' := ⟨h.os, h.tape, h.output, h.size, fun k hk _ => h.block k hk⟩
theorem Itoa_spec (h : Hp [] w0 w its) (hT : TabW w0) {n : Int} (h0 : -9223372036854775808 ≤ n) (h1 : n ≤ 9223372036854775807) {K : ByteArray → World → Prop} (hK : ∀ w', Hp [] w0 w' its → K (dec n) w') : c54 n w K := by
 refine c54_of ?_
 unfold f54
 refine Calls.mono (Tryz.internal_strconv_Itoa n h0 h1 w (tab_fr hT h.fr)) fun e w' ⟨he, k, os, hw⟩ => ?_
 subst he hw
 exact ⟨_, rfl, hK _ (h.keep (frOfBelow (Lib.below_grow _ w (Nat.le_refl _) k os)))⟩
theorem Format_spec (h : Hp [] w0 w its) (hT : TabW w0) {n : Int} (h0 : -9223372036854775808 ≤ n) (h1 : n ≤ 9223372036854775807) {K : ByteArray → World → Prop} (hK : ∀ w', Hp [] w0 w' its → K (dec n) w') : c87 n 10 w K := by
 refine c87_of ?_
 unfold f87
 refine Calls.mono (Tryz.internal_strconv_FormatInt_10 n h0 h1 w (tab_fr hT h.fr)) fun e w' ⟨he, k, os, hw⟩ => ?_
 subst he hw
 exact ⟨_, rfl, hK _ (h.keep (frOfBelow (Lib.below_grow _ w (Nat.le_refl _) k os)))⟩
theorem strL_at {s : ByteArray} {k : Nat} (h : k < s.size) : ∃ b : UInt8, s[k]? = some b ∧ (strL s)[k]? = some (b.toNat : Int) := by
 refine ⟨s[k], getElem?_pos s k h, ?_⟩
 unfold strL
 rw [List.getElem?_map, Array.getElem?_toList]
 have : s.data[k]? = some s[k] := by
  rw [Array.getElem?_eq_getElem (by exact h)]; rfl
 rw [this]; rfl
theorem listed_spec {nm : ByteArray} (hn : nm.size ≤ 140737488355328) {K : Bool → World → Prop} (hK : K (listedM nm) w) : c51 nm w K := by
 refine c51_of ?_
 unfold f51
 refine ⟨fun t m w' => ∃ k : Nat, t = k ∧ k ≤ nm.size ∧ m = nm.size - k ∧ w' = w ∧ (strL nm).all visM = ((strL nm).drop k).all visM, ⟨_, 0, rfl, by omega, rfl, rfl, rfl⟩, ?_⟩
 rintro t m w' ⟨k, rfl, hk, rfl, hw, ha⟩
 obtain rfl := hw.symm
 have hl := strL_len nm
 by_cases hend : k = nm.size
 ·refine ifF (by simp; omega) ?_
  rw [List.drop_of_length_le (by omega)] at ha
  have e : cond (!(nm.toList == (⟨#[]⟩ : ByteArray).toList)) (decide ((nm.size : Int) ≤ 16)) false = listedM nm := by
   unfold listedM
   rw [ha, str_beq]
   have : (strL nm = strL ⟨#[]⟩) ↔ nm.size = 0 := by
    rw [show strL (⟨#[]⟩ : ByteArray) = [] from rfl, ← hl]; exact ⟨fun h => by rw [h]; rfl, fun h => List.length_eq_zero_iff.1 h⟩
   by_cases h0 : nm.size = 0
   ·simp [this, h0]
   ·simp [this, h0]; omega
  rw [e]; exact hK
 ·obtain ⟨b, hb, hs⟩ := strL_at (s := nm) (k := k) (by omega)
  refine ifT (by simp; omega) ?_
  rw [drop_cons hs, List.all_cons] at ha
  refine ⟨by omega, b, by rw [Int.toNat_natCast]; exact hb, ?_⟩
  have hno : visM (b.toNat : Int) = false → listedM nm = false := fun h => by unfold listedM; rw [ha, h]; rfl
  by_cases h1 : (b.toNat : Int) < 33
  ·refine ifT (by simpa using h1) ?_
   rw [hno (by unfold visM; simp; omega)] at hK; exact hK
  ·refine ifF (by simpa using h1) ⟨by omega, b, by rw [Int.toNat_natCast]; exact hb, ?_⟩
   by_cases h2 : (b.toNat : Int) > 126
   ·refine ifT (by simpa using h2) ?_
    rw [hno (by unfold visM; simp; omega)] at hK; exact hK
   ·refine ifF (by simpa using h2) ⟨nm.size - (k + 1), by omega, k + 1, ?_, by omega, rfl, rfl, ?_⟩
    ·rw [wr64 (by omega) (by omega)]; omega
    ·rw [ha]
     have : visM (b.toNat : Int) = true := by unfold visM; simp; omega
     rw [this]; rfl
theorem line_spec (h : Hp [] w0 w its) (hT : TabW w0) {x : Ins} (h0 : -9223372036854775808 ≤ x.2) (h1 : x.2 ≤ 9223372036854775807) {K : ByteArray → World → Prop} (hK : ∀ s w', strL s = lineL x → Hp [] w0 w' its → K s w') : c55 x.1 x.2 w K := by
 refine c55_of ?_
 unfold f55
 refine h.nw fun i w1 h => ?_
 refine h.ld0 (k := .i .i64) (x := x.1) its.length (by rw [List.getElem?_concat_length]; rfl) rfl ?_
 refine shape_spec h fun w1 h => ?_
 refine h.nw fun s1 w1 h => ?_
 refine h.st0 _ List.getElem?_concat_length (by simp) rfl fun w1 h => ?_
 rw [set_last] at h
 refine h.st (n := 1) _ List.getElem?_concat_length (by simp) rfl fun w1 h => ?_
 rw [set_last] at h
 refine h.st (n := 2) _ List.getElem?_concat_length (by simp) rfl fun w1 h => ?_
 rw [set_last] at h
 refine h.st (n := 3) _ List.getElem?_concat_length (by simp) rfl fun w1 h => ?_
 rw [set_last] at h
 refine h.st (n := 4) _ List.getElem?_concat_length (by simp) rfl fun w1 h => ?_
 rw [set_last] at h
 have h : Hp [] w0 w1 (its ++ [tBlk i 23 [.int .i64 x.1, .int .i64 x.2]] ++ [tBlk s1 74 [.string (row x.1).word, .bool (row x.1).num, .int .i64 (takesOf (row x.1)), .int .i64 (row x.1).pt, .int .i64 (byOf (row x.1))]]) := h
 have hI : ∀ {t : Thing}, ((its ++ [tBlk i 23 [.int .i64 x.1, .int .i64 x.2]] ++ [t])[its.length]?).map Thing.holds = some (tBlk i 23 [.int .i64 x.1, .int .i64 x.2]).holds := fun {t} => by rw [mid1]; rfl
 have hLs : ∀ {A : List Thing} {b : Nat} {e : TypeId} {c : List Value}, ((A ++ [tBlk b e c])[A.length]?).map Thing.holds = some (tBlk b e c).holds := fun {A b e c} => by rw [List.getElem?_concat_length]; rfl
 have hw5 := word_size x.1
 have hd := dec_size h0 h1
 refine h.ld (n := 1) (k := .b) (x := (row x.1).num) _ hLs rfl ?_
 by_cases hn : (row x.1).num = true
 ·refine ifT hn ?_
  refine h.dr fun w1 h => ?_
  refine h.ld0 (k := .s) (x := (row x.1).word) _ hLs rfl ?_
  refine ⟨?_, ?_⟩
  ·have : (⟨#[32]⟩ : ByteArray).size = 1 := rfl
   omega
  refine h.ld (n := 1) (k := .i .i64) (x := x.2) _ hI rfl ?_
  refine Format_spec h hT h0 h1 fun w2 h => ?_
  refine ⟨h.cel0 _ hLs rfl, ?_, hK _ w2 ?_ h.front.front⟩
  ·have : (⟨#[32]⟩ : ByteArray).size = 1 := rfl
   rw [ByteArray.size_append]
   omega
  ·unfold lineL
   rw [if_pos hn, strL_append', strL_append']
   simp [decL]; rfl
 ·refine ifF hn ?_
  refine h.ld0 (k := .s) (x := (row x.1).word) _ hLs rfl ?_
  exact hK _ w1 (by unfold lineL; rw [if_neg hn, List.append_nil]) h.front.front
end
theorem writtenM_no {r : RT} {left : Int} (h : writtenM r left = true) : codeOk r.code = true ∧ (1 ≤ r.nm.size ∧ r.nm.size ≤ 16) ∧ (0 ≤ r.pa ∧ r.pa ≤ 4 ∧ r.pa ≤ r.lo ∧ r.lo ≤ 32) ∧ 0 ≤ left - r.code.length := by
 obtain ⟨h1, h2⟩ := written_iff.1 h
 obtain ⟨a, b, c⟩ := rtOk_iff.1 h1
 exact ⟨a, b, c, h2⟩
theorem rdRo {α : Type} {s : Sl} {n : Nat} {f : α → List Value} {l : List α} : Hp.Reads (tRd s n f l).ro s n f l := ⟨fun {w O} h => ⟨O, h⟩⟩
section
variable {w0 w : World} {its rest : List Thing}
theorem List_spec {nm : ByteArray} {pa lo : Int} {sl : Sl} {code : List Ins} (hr : ∃ o, SlR w sl 2 insv code o) (hok : RT.Ok ⟨nm, pa, lo, code⟩) (hnm : nm.size ≤ 140737488355328) (hT : TabW w) {K : ByteArray → World → Prop}
  (hK : ∀ w', Hp [] w w' [] → K (listS ⟨nm, pa, lo, code⟩) w') : c25 nm pa lo sl w K := by
 obtain ⟨o, hr⟩ := hr
 have hcl := hok.len
 refine c25_of ?_
 unfold f25
 have h : Hp [] w w [(tRd sl 2 insv code).ro] := (Hp.init w).addRo (O := o) hr (by simp)
 have hlen := h.lenU (u := (tRd sl 2 insv code).ro) 0 rfl (rdRo (n := 2) (f := insv))
 refine h.nw fun rb w1 h => ?_
 refine h.nw fun lb w1 h => ?_
 refine h.st0 2 rfl (by simp) rfl fun w1 h => ?_
 have hno : listM ⟨nm, pa, lo, code⟩ = false → ∀ w', Hp [] w w' [] → K ⟨#[]⟩ w' := fun e w' h => by
  have := hK w' h
  unfold listS at this
  rw [e] at this
  exact this
 refine ⟨fun w' => listM ⟨nm, pa, lo, code⟩ = true ∧ Hp [] w w' [(tRd sl 2 insv code).ro, tBlk rb 30 [.string nm, .int .i64 pa, .int .i64 lo, .slice sl.a sl.len sl.cap]], ?_, ?_⟩
 ·refine h.ld0 (k := .s) (x := nm) 1 rfl rfl ?_
  refine listed_spec hnm ?_
  by_cases h1 : listedM nm = true
  ·refine ifF (by simp [h1]) ?_
   refine h.ld0 (k := .s) (x := nm) 1 rfl rfl ?_
   refine h.ld (n := 1) (k := .i .i64) (x := pa) 1 rfl rfl ?_
   refine h.ld (n := 2) (k := .i .i64) (x := lo) 1 rfl rfl ?_
   refine h.ld (n := 3) (k := .sl) (x := sl) 1 rfl rfl ?_
   refine written_spec h 2 0 (u := (tRd sl 2 insv code).ro) (left := 2000) (by decide) rfl rfl rdRo hcl (by decide) (by decide) fun w2 h => ?_
   by_cases h2 : writtenM ⟨nm, pa, lo, code⟩ 2000 = true
   ·refine ifF (by simp [h2]) ⟨by unfold listM; rw [h1, h2]; rfl, ?_⟩
    have h : Hp [] w w2 ([(tRd sl 2 insv code).ro, tBlk rb 30 [.string nm, .int .i64 pa, .int .i64 lo, .slice sl.a sl.len sl.cap]] ++ [tBlk lb 3 [.int .i64 (2000 - code.length)]]) := h
    exact h.front
   ·refine ifT (by simp [h2]) (hno (by unfold listM; simp [h2]) w2 (frNil h.fr))
  ·exact ifT (by simp [h1]) (hno (by unfold listM; simp [h1]) w1 (frNil h.fr))
 clear h
 rintro w1 ⟨hM, h⟩
 have hyes : ∀ w', Hp [] w w' [] → K (strOf (listL ⟨nm, pa, lo, code⟩)) w' := fun w' h => by
  have := hK w' h
  unfold listS at this
  rw [if_pos hM] at this
  exact this
 have hW : writtenM ⟨nm, pa, lo, code⟩ 2000 = true := by
  unfold listM at hM
  rw [Bool.and_eq_true] at hM
  exact hM.2
 obtain ⟨k1, ⟨k2, k3⟩, ⟨k4, k5, k6, k7⟩, k8⟩ := writtenM_no hW
 dsimp only at k1 k2 k3 k4 k5 k6 k7 k8
 have z1 : (⟨#[32]⟩ : ByteArray).size = 1 := rfl
 have z2 : (⟨#[10]⟩ : ByteArray).size = 1 := rfl
 have d1 := dec_size (n := pa) (by omega) (by omega)
 have d2 := dec_size (n := lo) (by omega) (by omega)
 refine bld_new h fun b w1 h => ?_
 have h : Hp [] w w1 [(tRd sl 2 insv code).ro, tBlk rb 30 [.string nm, .int .i64 pa, .int .i64 lo, .slice sl.a sl.len sl.cap], tBld w.heap.size b []] := h
 refine h.dr fun w1 h => ?_
 refine h.ld0 (k := .s) (x := nm) 1 rfl rfl ⟨by omega, ?_⟩
 refine h.ld (n := 1) (k := .i .i64) (x := pa) 1 rfl rfl ?_
 refine h.ld (n := 2) (k := .i .i64) (x := lo) 1 rfl rfl ?_
 refine Itoa_spec h hT (by omega) (by omega) fun w1 h => ?_
 refine ⟨h.cel (n := 2) 1 rfl rfl, h.cel0 1 rfl rfl, by simp only [ByteArray.size_append]; omega, by simp only [ByteArray.size_append]; omega, ?_⟩
 refine Itoa_spec h hT (by omega) (by omega) fun w1 h => ?_
 refine ⟨h.cel0 1 rfl rfl, by simp only [ByteArray.size_append]; omega, by simp only [ByteArray.size_append]; omega, ?_⟩
 refine WriteString_spec h 2 rfl _ (by simp only [ByteArray.size_append, List.length_nil]; omega) fun w1 h => ?_
 have eh : ([] : List Int) ++ strL (nm ++ ⟨#[32]⟩ ++ dec pa ++ ⟨#[32]⟩ ++ dec lo ++ ⟨#[10]⟩) = headL ⟨nm, pa, lo, code⟩ := by
  simp only [strL_append', List.nil_append]
  show _ = strL nm ++ 32 :: (decL pa ++ 32 :: (decL lo ++ [10]))
  simp [decL]; rfl
 rw [eh] at h
 have h : Hp [] w w1 [(tRd sl 2 insv code).ro, tBlk rb 30 [.string nm, .int .i64 pa, .int .i64 lo, .slice sl.a sl.len sl.cap], tBld w.heap.size b (headL ⟨nm, pa, lo, code⟩)] := h
 have hhl : (headL ⟨nm, pa, lo, code⟩).length ≤ 100 := by
  rw [← eh]
  simp only [List.nil_append, strL_len, ByteArray.size_append]; omega
 refine h.ld (n := 3) (k := .sl) (x := sl) 1 rfl rfl ?_
 refine ⟨fun t m w' => ∃ k : Nat, t = k ∧ k ≤ code.length ∧ m = code.length - k ∧ Hp [] w w' [(tRd sl 2 insv code).ro, tBlk rb 30 [.string nm, .int .i64 pa, .int .i64 lo, .slice sl.a sl.len sl.cap], tBld w.heap.size b (headL ⟨nm, pa, lo, code⟩ ++ (code.take k).flatMap fun x => lineL x ++ [10])], ⟨_, 0, rfl, by omega, rfl, by simpa using h⟩, ?_⟩
 clear h
 rintro t m w2 ⟨k, rfl, hk, rfl, h⟩
 by_cases hend : k = code.length
 ·refine ifF (by simp; omega) ?_
  rw [List.take_of_length_le (by omega)] at h
  refine String_spec h 2 rfl ?_ fun w3 h => hyes w3 h
  have hB : ∀ (x : Ins), Bytes (lineL x) := fun x => by
   unfold lineL
   intro y hy
   rcases List.mem_append.1 hy with hy | hy
   ·exact strL_bytes _ y hy
   ·split at hy
    ·rcases List.mem_cons.1 hy with rfl | hy
     ·decide
     ·exact strL_bytes _ y hy
    ·cases hy
  intro y hy
  rcases List.mem_append.1 hy with hy | hy
  ·rw [← eh] at hy
   exact strL_bytes _ y (by simpa using hy)
  ·obtain ⟨x, _, hx⟩ := List.mem_flatMap.1 hy
   rcases List.mem_append.1 hx with hx | hx
   ·exact hB x y hx
   ·simp only [List.mem_singleton] at hx
    subst hx; decide
 ·obtain ⟨x, hx⟩ : ∃ x, code[k]? = some x := ⟨code[k]'(by omega), List.getElem?_eq_getElem (by omega)⟩
  have hxm := List.mem_of_getElem? hx
  have hrg := hok.rng x hxm
  refine ifT (by simp; omega) ?_
  obtain ⟨O, hO⟩ := h.see (i := 0) rfl
  refine SlR.ix insv_len hO (by omega) (x := x) (by rw [Int.toNat_natCast]; exact hx) fun ad hc => ?_
  refine ldR0 (k := .i .i64) (x := x.1) (hc 0 (by omega)) rfl ?_
  refine ldR (k := .i .i64) (x := x.2) (hc 1 (by omega)) rfl ?_
  refine ins_copy h fun ib w3 h => ?_
  refine h.ld0 (k := .i .i64) (x := x.1) 3 rfl rfl ?_
  refine h.ld (n := 1) (k := .i .i64) (x := x.2) 3 rfl rfl ?_
  refine line_spec h hT hrg.1 hrg.2 fun s w3 hs h => ?_
  have hll := lineL_len hrg.1 hrg.2
  rw [← hs, strL_len] at hll
  refine ⟨by omega, ?_⟩
  have hfl : ((code.take k).flatMap fun x => lineL x ++ [10]).length ≤ 28 * (code.take k).length := flat_len fun y hy => by
   have := hok.rng y (List.mem_of_mem_take hy)
   have := lineL_len this.1 this.2
   rw [List.length_append]; simp; omega
  rw [List.length_take] at hfl
  refine WriteString_spec h 2 rfl _ (by rw [List.length_append, ByteArray.size_append]; omega) fun w4 h => ?_
  refine ⟨code.length - (k + 1), by omega, k + 1, by rw [wr64 (by omega) (by omega)]; omega, by omega, rfl, ?_⟩
  have h : Hp [] w w4 ([(tRd sl 2 insv code).ro, tBlk rb 30 [.string nm, .int .i64 pa, .int .i64 lo, .slice sl.a sl.len sl.cap], tBld w.heap.size b (headL ⟨nm, pa, lo, code⟩ ++ (code.take k).flatMap (fun x => lineL x ++ [10]) ++ strL (s ++ ⟨#[10]⟩))] ++ [tBlk ib 23 [.int .i64 x.1, .int .i64 x.2]]) := h
  have h := h.front
  have e : headL ⟨nm, pa, lo, code⟩ ++ (code.take k).flatMap (fun x => lineL x ++ [10]) ++ strL (s ++ ⟨#[10]⟩) = headL ⟨nm, pa, lo, code⟩ ++ (code.take (k + 1)).flatMap (fun x => lineL x ++ [10]) := by
   rw [List.take_add_one, hx, List.flatMap_append, strL_append', hs, List.append_assoc]
   simp; rfl
  rw [e] at h
  exact h
end
structure Glob (w : World) : Prop where
 tab : TabW w
 m : ∃ m : Int, w.cell? ⟨0, 0, none⟩ = some (.int .i64 m)
 e2 : ∃ ev, w.cell? ⟨2, 0, none⟩ = some ev ∧ (ev = .nilIface ∨ ∃ te pe, ev = .iface te pe)
 e3 : ∃ ev, w.cell? ⟨3, 0, none⟩ = some ev ∧ (ev = .nilIface ∨ ∃ te pe, ev = .iface te pe)
theorem cell_fr {w w' : World} (hf : Fr [] w w') {a : Addr} {v : Value} (h : w.cell? a = some v) : w'.cell? a = some v := by
 have hb := World.block_lt_of_cell? w a h
 rw [← h]
 exact World.cell?_of_block (hf.block _ hb (by simp))
theorem Glob.fr {w w' : World} (h : Glob w) (hf : Fr [] w w') : Glob w' := by
 obtain ⟨m, hm⟩ := h.m
 obtain ⟨e, he, he'⟩ := h.e2
 obtain ⟨f, hf', hf''⟩ := h.e3
 exact ⟨tab_fr h.tab hf, ⟨m, cell_fr hf hm⟩, ⟨e, cell_fr hf he, he'⟩, ⟨f, cell_fr hf hf', hf''⟩⟩
def cutB (s sep : ByteArray) : ByteArray × ByteArray × Bool := (⟨(Lib.cut s.data.toList sep.data.toList).1.toArray⟩, ⟨(Lib.cut s.data.toList sep.data.toList).2.1.toArray⟩, (Lib.cut s.data.toList sep.data.toList).2.2)
def decO (s : ByteArray) : Option Int := match Lib.parseIntB 64 s.data.toList with
 | .ok v => if dec v = s then some v else none
 | _ => none
def nl : ByteArray := ⟨#[10]⟩
def sp : ByteArray := ⟨#[32]⟩
def splitS (s : ByteArray) : List ByteArray := Lib.splitB sp 0 (Lib.countB s sp) s
theorem cut_found {s sep : ByteArray} (h : (cutB s sep).2.2 = true) : (cutB s sep).1.size + sep.size ≤ s.size := by
 unfold cutB Lib.cut at h ⊢
 split at h
 ·rename_i h0
  rw [if_pos h0]
  have hi := Lib.indexB_cases s sep
  have e : Lib.indexB s sep = Lib.index s.data.toList sep.data.toList := rfl
  rw [e] at hi
  rcases hi with hi | ⟨i, hi, hl⟩
  ·omega
  ·rw [hi]
   show (List.toArray _).size + sep.size ≤ s.size
   have : s.data.toList.length = s.size := by rw [Array.length_toList]; rfl
   simp only [List.size_toArray, List.length_take, Int.toNat_natCast]
   omega
 ·cases h
theorem cut_size (s sep : ByteArray) : (cutB s sep).1.size ≤ s.size ∧ (cutB s sep).2.1.size ≤ s.size := by
 unfold cutB Lib.cut
 split
 ·refine ⟨?_, ?_⟩
  ·show (List.toArray _).size ≤ s.data.size
   simp; omega
  ·show (List.toArray _).size ≤ s.data.size
   simp
 ·refine ⟨?_, ?_⟩
  ·show (List.toArray _).size ≤ s.data.size
   simp
  ·show (List.toArray _).size ≤ s.data.size
   simp
theorem parse_range {l : List UInt8} {v : Int} (h : Lib.parseIntB 64 l = .ok v) : -9223372036854775808 ≤ v ∧ v ≤ 9223372036854775807 := by
 cases l with
 | nil => cases h
 | cons c r =>
  simp only [Lib.parseIntB] at h
  split at h
  ·cases h
  ·cases h
  ·rename_i u hu
   split at h
   ·cases h
   ·rename_i h1
    split at h
    ·cases h
    ·rename_i h2
     have p : (2 : Nat) ^ (64 - 1) = 9223372036854775808 := by decide
     rw [p] at h1 h2
     simp only [Lib.NumEnd.ok.injEq] at h
     split at h
     ·rename_i h3
      have : ¬ 9223372036854775808 < u := fun k => h2 ⟨h3, k⟩
      omega
     ·rename_i h3
      have : ¬ 9223372036854775808 ≤ u := fun k => h1 ⟨h3, k⟩
      omega
section
variable {w0 w : World} {its rest : List Thing}
theorem frTrans {w w' : World} (h : Hp [] w0 w its) (hb : RowKit.Below w.heap.size w w') : Hp [] w0 w' its := h.keep (frOfBelow hb)
theorem Cut_spec (h : Hp [] w0 w its) (hG : Glob w0) {s sep : ByteArray} (hs : s.size < 4294967281) {K : ByteArray → ByteArray → Bool → World → Prop} (hK : ∀ w', Hp [] w0 w' its → K (cutB s sep).1 (cutB s sep).2.1 (cutB s sep).2.2 w') : c60 s sep w K := by
 obtain ⟨m, hm⟩ := (hG.fr h.fr).m
 refine Calls.mono (Tryz.strings_Cut s sep m w hs hm) fun e w' ⟨he, n, hw⟩ => ?_
 subst he hw
 exact ⟨_, rfl, hK _ (frTrans h ⟨rfl, rfl, rfl, Nat.le_refl _, fun _ _ => rfl⟩)⟩
abbrev sv (x : ByteArray) : List Value := [.string x]
theorem Split_spec (h : Hp [] w0 w its) (hG : Glob w0) {s : ByteArray} (hs : s.size < 4294967281) {K : Sl → World → Prop} (hK : ∀ sl w', Hp [] w0 w' (its ++ [tSl sl 9 1 sv (splitS s)]) → K sl w') : c89 s ⟨#[32]⟩ w K := by
 obtain ⟨m, hm⟩ := (hG.fr h.fr).m
 refine Calls.mono (Tryz.strings_Split s ⟨#[32]⟩ m w hs hm (by decide)) fun e w' ⟨he, hw⟩ => ?_
 subst he hw
 refine ⟨_, rfl, ?_⟩
 have h := nw_now h ((splitS s).flatMap sv) 9
 have h := h.blkSl (i := its.length) (m := Lib.countB s sp + 1) (l := splitS s) (f := sv) (n := 1) List.getElem?_concat_length rfl (Lib.splitB_all sp (by decide) 0 _ s rfl) (fun x => rfl)
 rw [set_last] at h
 have e : (splitS s).flatMap sv = (splitS s).map Value.string := by rw [List.map_eq_flatMap]
 rw [e] at h
 exact hK _ _ h
theorem decimal_spec (h : Hp [] w0 w its) (hG : Glob w0) {s : ByteArray} (hs : s.size < 4294967281) {K : Int → Bool → World → Prop} (hok : ∀ v, decO s = some v → -9223372036854775808 ≤ v → v ≤ 9223372036854775807 → ∀ w', Hp [] w0 w' its → K v true w') (hno : decO s = none → ∀ x w', Hp [] w0 w' its → K x false w') : c90 s w K := by
 refine c90_of ?_
 unfold f90
 unfold decO at hok hno
 have hG' := hG.fr h.fr
 cases hp : Lib.parseIntB 64 s.data.toList
 case ok v =>
  rw [hp] at hok hno
  dsimp only at hok hno
  obtain ⟨v0, v1⟩ := parse_range hp
  refine Calls.mono (Tryz.strconv_ParseInt_10_at64_ok s (by omega) v hp w) fun e w' ⟨he, hw⟩ => ?_
  subst he
  have h : Hp [] w0 w' its := by
   rcases hw with rfl | ⟨t, rfl⟩
   ·exact h
   ·exact frTrans h (Lib.bytesWorld_below w 5 t)
  refine ⟨_, rfl, ?_⟩
  refine ⟨true, fun _ _ => by kernel_rfl, ?_⟩
  refine ifT rfl ?_
  refine Format_spec h hG.tab v0 v1 fun w2 h => ?_
  rw [str_beq]
  by_cases hd : dec v = s
  ·rw [if_pos hd] at hok
   rw [hd, decide_eq_true rfl]
   exact hok v rfl v0 v1 w2 h
  ·rw [if_neg hd] at hno
   rw [decide_eq_false fun k => hd (strL_inj k)]
   exact hno rfl v w2 h
 case range =>
  rw [hp] at hno
  obtain ⟨ev, h1, h2⟩ := hG'.e3
  refine Calls.mono (Tryz.strconv_ParseInt_10_at64_range s (by omega) hp ev w h1 h2) fun e w' ⟨N, he, _, _, hw⟩ => ?_
  subst he
  refine ⟨_, rfl, ?_⟩
  refine ⟨false, fun _ _ => by kernel_rfl, ?_⟩
  exact ifF (by decide) (hno rfl _ w' (frTrans h hw))
 rw [hp] at hno
 obtain ⟨ev, h1, h2⟩ := hG'.e2
 refine Calls.mono (Tryz.strconv_ParseInt_10_at64_syntax s (by omega) hp ev w h1 h2) fun e w' ⟨N, he, _, _, hw⟩ => ?_
 subst he
 refine ⟨_, rfl, ?_⟩
 refine ⟨false, fun _ _ => by kernel_rfl, ?_⟩
 exact ifF (by decide) (hno rfl _ w' (frTrans h hw))
end
def insR (t : ByteArray) : Option Ins :=
 if numOf (cutB t sp).1 = 0 ∨ (row (numOf (cutB t sp).1)).num ≠ (cutB t sp).2.2 then none
 else if (cutB t sp).2.2 = true then (decO (cutB t sp).2.1).map fun a => (numOf (cutB t sp).1, a) else some (numOf (cutB t sp).1, 0)
def headR (t : ByteArray) : Option (ByteArray × Int × Int) := match splitS t with
 | [a, b, c] => if listedM a = true then (match decO b, decO c with
  | some p, some q => if 0 ≤ p ∧ p ≤ 4 ∧ p ≤ q ∧ q ≤ 32 then some (a, p, q) else none
  | _, _ => none) else none
 | _ => none
theorem split_size (sep : ByteArray) : ∀ (k : Nat) (s x : ByteArray), x ∈ Lib.splitB sep 0 k s → x.size ≤ s.size
 | 0, s, x, h => by
  rw [Lib.splitB_zero] at h
  simp only [List.mem_singleton] at h
  rw [h]; exact Nat.le_refl _
 | k + 1, s, x, h => by
  unfold Lib.splitB at h
  split at h
  ·simp only [List.mem_singleton] at h
   rw [h]; exact Nat.le_refl _
  ·rcases List.mem_cons.1 h with rfl | h
   ·rw [ByteArray.size_extract]; omega
   ·have := split_size sep k _ x h
    rw [ByteArray.size_extract] at this
    omega
section
variable {w0 w : World} {its rest : List Thing}
theorem decimal_u (h : Hp [] w0 w its) (hG : Glob w0) {s : ByteArray} (hs : s.size < 4294967281) {K : Int → Bool → World → Prop} (hK : ∀ v ok w', (ok = true → decO s = some v ∧ -9223372036854775808 ≤ v ∧ v ≤ 9223372036854775807) → (ok = false → decO s = none) → Hp [] w0 w' its → K v ok w') : c90 s w K :=
 decimal_spec h hG hs (fun v hv v0 v1 w' h => hK v true w' (fun _ => ⟨hv, v0, v1⟩) (fun e => by cases e) h) (fun hv x w' h => hK x false w' (fun e => by cases e) (fun _ => hv) h)
theorem readIns_spec (h : Hp [] w0 w its) (hG : Glob w0) {t : ByteArray} (ht : t.size < 4294967281) {K : Int → Int → Bool → World → Prop} (hok : ∀ x, insR t = some x → -9223372036854775808 ≤ x.2 → x.2 ≤ 9223372036854775807 → ∀ w', Hp [] w0 w' its → K x.1 x.2 true w') (hno : insR t = none → ∀ op a w', Hp [] w0 w' its → K op a false w') : c62 t w K := by
 refine c62_of ?_
 unfold f62
 refine h.nw fun A w1 h => ?_
 have hLs : ∀ {A : List Thing} {b : Nat} {e : TypeId} {c : List Value}, ((A ++ [tBlk b e c])[A.length]?).map Thing.holds = some (tBlk b e c).holds := fun {A b e c} => by rw [List.getElem?_concat_length]; rfl
 refine Cut_spec h hG ht fun w1 h => ?_
 refine Number_spec h fun w1 h => ?_
 have hsz := (cut_size t sp).2
 unfold insR at hok hno
 have esp : (⟨#[32]⟩ : ByteArray) = sp := rfl
 rw [esp]
 generalize hc1 : cutB t sp = c at *
 obtain ⟨word, number, more⟩ := c
 dsimp only at hok hno hsz ⊢
 generalize numOf word = op at *
 refine ⟨fun b w' => b = decide (op = 0 ∨ (row op).num ≠ more) ∧ Hp [] w0 w' (its ++ [tBlk A 23 [.int .i64 0, .int .i64 0]]), ?_, ?_⟩
 ·by_cases h0 : op = 0
  ·exact ifT (by simp [h0]) ⟨by simp [h0], h⟩
  ·refine ifF (by simpa using h0) (shape_spec h fun w1 h => ⟨?_, h⟩)
   cases hn : (row op).num <;> cases more <;> simp [h0]
 clear h
 rintro b w1 ⟨rfl, h⟩
 by_cases hb : op = 0 ∨ (row op).num ≠ more
 ·rw [if_pos hb] at hno
  refine ifT (by simpa using hb) ?_
  refine h.st0 _ List.getElem?_concat_length (by simp) rfl fun w1 h => ?_
  rw [set_last] at h
  refine h.st (n := 1) _ List.getElem?_concat_length (by simp) rfl fun w1 h => ?_
  rw [set_last] at h
  refine h.ld0 (k := .i .i64) (x := 0) _ hLs rfl ?_
  refine h.ld (n := 1) (k := .i .i64) (x := 0) _ hLs rfl ?_
  exact hno rfl _ _ w1 h.front
 ·rw [if_neg hb] at hno hok
  refine ifF (by simpa using hb) ?_
  cases more with
  | false =>
   refine ifT rfl ?_
   refine h.st0 _ List.getElem?_concat_length (by simp) rfl fun w1 h => ?_
   rw [set_last] at h
   refine h.st (n := 1) _ List.getElem?_concat_length (by simp) rfl fun w1 h => ?_
   rw [set_last] at h
   refine h.ld0 (k := .i .i64) (x := op) _ hLs rfl ?_
   refine h.ld (n := 1) (k := .i .i64) (x := 0) _ hLs rfl ?_
   exact hok (op, 0) rfl (by show (-9223372036854775808 : Int) ≤ 0; decide) (by show (0 : Int) ≤ 9223372036854775807; decide) w1 h.front
  | true =>
   refine ifF (by decide) ?_
   have fin : ∀ a ok w', Hp [] w0 w' (its ++ [tBlk A 23 [.int .i64 0, .int .i64 0]]) → (∀ w', Hp [] w0 w' its → K op a ok w') → St ⟨A, 0, none⟩ (.int .i64 op) w' fun w => St ((⟨A, 0, none⟩ : Addr).add 1) (.int .i64 a) w fun w => Ld (.i .i64) w ⟨A, 0, none⟩ fun r1 => Ld (.i .i64) w ((⟨A, 0, none⟩ : Addr).add 1) fun r2 => K r1 r2 ok w := by
    intro a ok w' h hk
    refine h.st0 _ List.getElem?_concat_length (by simp) rfl fun w1 h => ?_
    rw [set_last] at h
    refine h.st (n := 1) _ List.getElem?_concat_length (by simp) rfl fun w1 h => ?_
    rw [set_last] at h
    refine h.ld0 (k := .i .i64) (x := op) _ hLs rfl ?_
    refine h.ld (n := 1) (k := .i .i64) (x := a) _ hLs rfl ?_
    exact hk w1 h.front
   refine decimal_spec h hG (by omega) (fun v hv v0 v1 w2 h => fin v true w2 h (hok (op, v) ?_ v0 v1)) (fun hv x w2 h => fin x false w2 h (hno ?_ op x))
   ·rw [if_pos rfl, hv]; rfl
   ·rw [if_pos rfl, hv]; rfl
theorem header_spec (h : Hp [] w0 w its) (hG : Glob w0) {t : ByteArray} (ht : t.size < 4294967281) {K : ByteArray → Int → Int → Sl → Bool → World → Prop} (hok : ∀ nm pa lo, headR t = some (nm, pa, lo) → ∀ w', Hp [] w0 w' its → K nm pa lo ⟨none, 0, 0⟩ true w') (hno : headR t = none → ∀ w', Hp [] w0 w' its → K ⟨#[]⟩ 0 0 ⟨none, 0, 0⟩ false w') : c61 t w K := by
 refine c61_of ?_
 unfold f61
 refine h.nw fun A w1 h => ?_
 refine Split_spec h hG ht fun sl w1 h => ?_
 have hlen := h.len (s := sl) (e := 9) (n := 1) (f := sv) (l := splitS t) (its ++ [tBlk A 30 [.string (⟨#[]⟩ : ByteArray), .int .i64 0, .int .i64 0, .slice none 0 0]]).length (by rw [List.getElem?_concat_length]; rfl)
 have hel : ∀ {w' : World} {i : Nat} {x : ByteArray} {K : ByteArray → Prop}, Hp [] w0 w' (its ++ [tBlk A 30 [.string (⟨#[]⟩ : ByteArray), .int .i64 0, .int .i64 0, .slice none 0 0]] ++ [tSl sl 9 1 sv (splitS t)]) → (splitS t)[i]? = some x → K x → Ix sl.a sl.len (i : Int) 1 fun a => Ld .s w' a fun x => K x := by
  intro w' i x K h hx hK
  refine h.ixr (its ++ [tBlk A 30 [.string (⟨#[]⟩ : ByteArray), .int .i64 0, .int .i64 0, .slice none 0 0]]).length (s := sl) (l := splitS t) (f := sv) (n := 1) (e := 9) (by rw [List.getElem?_concat_length]; rfl) (by omega) (y := x) (by rw [Int.toNat_natCast]; exact hx) (fun _ => rfl) fun ad hc => ?_
  exact ldR0 (k := .s) (x := x) (hc 0 (by omega)) rfl hK
 have fail : ∀ w', Hp [] w0 w' (its ++ [tBlk A 30 [.string (⟨#[]⟩ : ByteArray), .int .i64 0, .int .i64 0, .slice none 0 0]] ++ [tSl sl 9 1 sv (splitS t)]) → headR t = none → (St ⟨A, 0, none⟩ (.string (⟨#[]⟩ : ByteArray)) w' fun (w : World) => St ((⟨A, 0, none⟩ : Addr).add 1) (.int .i64 0) w fun (w : World) => St ((⟨A, 0, none⟩ : Addr).add 2) (.int .i64 0) w fun (w : World) => St ((⟨A, 0, none⟩ : Addr).add 3) (.slice none 0 0) w fun (w : World) =>
   Ld .s w ⟨A, 0, none⟩ fun r_Name => Ld (.i .i64) w ((⟨A, 0, none⟩ : Addr).add 1) fun r_Params => Ld (.i .i64) w ((⟨A, 0, none⟩ : Addr).add 2) fun r_Locals => Ld .sl w ((⟨A, 0, none⟩ : Addr).add 3) fun r_Code => K r_Name r_Params r_Locals r_Code false w) := by
  intro w' h hn
  refine h.st0 its.length mid1 (by simp) rfl fun w1 h => ?_
  rw [List.set_append_left _ _ (by simp), set_last] at h
  refine h.st (n := 1) its.length mid1 (by simp) rfl fun w1 h => ?_
  rw [List.set_append_left _ _ (by simp), set_last] at h
  refine h.st (n := 2) its.length mid1 (by simp) rfl fun w1 h => ?_
  rw [List.set_append_left _ _ (by simp), set_last] at h
  refine h.st (n := 3) its.length mid1 (by simp) rfl fun w1 h => ?_
  rw [List.set_append_left _ _ (by simp), set_last] at h
  refine h.ld0 (k := .s) (x := (⟨#[]⟩ : ByteArray)) its.length (by rw [mid1]; rfl) rfl ?_
  refine h.ld (n := 1) (k := .i .i64) (x := 0) its.length (by rw [mid1]; rfl) rfl ?_
  refine h.ld (n := 2) (k := .i .i64) (x := 0) its.length (by rw [mid1]; rfl) rfl ?_
  refine h.ld (n := 3) (k := .sl) (x := ⟨none, 0, 0⟩) its.length (by rw [mid1]; rfl) rfl ?_
  exact hno hn w1 h.front.front
 have hps : ∀ x ∈ splitS t, x.size ≤ t.size := fun x hx => split_size sp _ t x hx
 refine ⟨fun b w' => Hp [] w0 w' (its ++ [tBlk A 30 [.string (⟨#[]⟩ : ByteArray), .int .i64 0, .int .i64 0, .slice none 0 0]] ++ [tSl sl 9 1 sv (splitS t)]) ∧ (b = true → headR t = none) ∧ (b = false → ∃ x y z, splitS t = [x, y, z] ∧ listedM x = true), ?_, ?_⟩
 ·by_cases h3 : sl.len = 3
  ·obtain ⟨x, y, z, hsp⟩ : ∃ x y z, splitS t = [x, y, z] := by
    have hl3 : (splitS t).length = 3 := by omega
    generalize splitS t = ls at hl3
    match ls, hl3 with
    | [x, y, z], _ => exact ⟨x, y, z, rfl⟩
   refine ifF (by simp [h3]) ?_
   refine hel (i := 0) (x := x) h (by rw [hsp]; rfl) ?_
   refine listed_spec (by have := hps x (by rw [hsp]; simp); omega) ⟨h, fun hb => ?_, fun hb => ⟨x, y, z, hsp, by simpa using hb⟩⟩
   unfold headR
   rw [hsp]
   dsimp only
   rw [if_neg (by simpa using hb)]
  ·refine ifT (by simp; omega) ⟨h, fun _ => ?_, fun hb => by cases hb⟩
   unfold headR
   split
   ·rename_i hsp
    rw [hsp] at hlen
    simp at hlen
    omega
   ·rfl
 clear h
 rintro b w1 ⟨h, hb1, hb2⟩
 cases b with
 | true => exact ifT rfl (fail w1 h (hb1 rfl))
 | false =>
  refine ifF (by decide) ?_
  obtain ⟨x, y, z, hsp, hlx⟩ := hb2 rfl
  have sy := hps y (by rw [hsp]; simp)
  have sz := hps z (by rw [hsp]; simp)
  have hh : headR t = (match decO y, decO z with
   | some p, some q => if 0 ≤ p ∧ p ≤ 4 ∧ p ≤ q ∧ q ≤ 32 then some (x, p, q) else none
   | _, _ => none) := by
   unfold headR
   rw [hsp]
   dsimp only
   rw [if_pos hlx]
  refine hel (i := 1) (x := y) h (by rw [hsp]; rfl) ?_
  refine decimal_u h hG (by omega) fun p one w2 g1 g2 h => ?_
  refine hel (i := 2) (x := z) h (by rw [hsp]; rfl) ?_
  refine decimal_u h hG (by omega) fun q tw w3 k1 k2 h => ?_
  by_cases hg : one = true ∧ tw = true ∧ 0 ≤ p ∧ p ≤ 4 ∧ p ≤ q ∧ q ≤ 32
  ·obtain ⟨rfl, rfl, hr⟩ := hg
   refine ifF (by simp; omega) ?_
   refine hel (i := 0) (x := x) h (by rw [hsp]; rfl) ?_
   refine h.st0 its.length mid1 (by simp) rfl fun w1 h => ?_
   rw [List.set_append_left _ _ (by simp), set_last] at h
   refine h.st (n := 1) its.length mid1 (by simp) rfl fun w1 h => ?_
   rw [List.set_append_left _ _ (by simp), set_last] at h
   refine h.st (n := 2) its.length mid1 (by simp) rfl fun w1 h => ?_
   rw [List.set_append_left _ _ (by simp), set_last] at h
   refine h.st (n := 3) its.length mid1 (by simp) rfl fun w1 h => ?_
   rw [List.set_append_left _ _ (by simp), set_last] at h
   refine h.ld0 (k := .s) (x := x) its.length (by rw [mid1]; rfl) rfl ?_
   refine h.ld (n := 1) (k := .i .i64) (x := p) its.length (by rw [mid1]; rfl) rfl ?_
   refine h.ld (n := 2) (k := .i .i64) (x := q) its.length (by rw [mid1]; rfl) rfl ?_
   refine h.ld (n := 3) (k := .sl) (x := ⟨none, 0, 0⟩) its.length (by rw [mid1]; rfl) rfl ?_
   refine hok x p q ?_ w1 h.front.front
   rw [hh, (g1 rfl).1, (k1 rfl).1]
   dsimp only
   rw [if_pos hr]
  ·refine ifT ?_ (fail w3 h ?_)
   ·cases one with
    | false => rfl
    | true =>
     cases tw with
     | false => rfl
     | true =>
      have : ¬ (0 ≤ p ∧ p ≤ 4 ∧ p ≤ q ∧ q ≤ 32) := fun k => hg ⟨rfl, rfl, k⟩
      simp; omega
   ·rw [hh]
    cases one with
    | false => rw [g2 rfl]
    | true =>
     rw [(g1 rfl).1]
     cases tw with
     | false => rw [k2 rfl]
     | true =>
      rw [(k1 rfl).1]
      dsimp only
      rw [if_neg fun k => hg ⟨rfl, rfl, k⟩]
end
def rt0 : RT := ⟨⟨#[]⟩, 0, 0, []⟩
def rAdd (r : RT) (i : Ins) : RT := ⟨r.nm, r.pa, r.lo, r.code ++ [i]⟩
def readG (s : ByteArray) : Nat → Nat → Option RT → Except Nat RT
 | 0, a, _ => .error a
 | f + 1, a, st =>
  if st.isSome = true ∧ ¬ a < s.size then .ok (st.getD rt0)
  else if (cutB (s.extract a s.size) nl).2.2 = false then .error a
  else match st with
   | none => (match headR (cutB (s.extract a s.size) nl).1 with
    | none => .error a
    | some h => readG s f (a + (cutB (s.extract a s.size) nl).1.size + 1) (some ⟨h.1, h.2.1, h.2.2, []⟩))
   | some r => if r.code.length < 2000 then (match insR (cutB (s.extract a s.size) nl).1 with
    | none => .error a
    | some i => readG s f (a + (cutB (s.extract a s.size) nl).1.size + 1) (some (rAdd r i))) else .error a
def readM (s : ByteArray) : Except Nat RT := readG s (s.size + 2) 0 none
abbrev tR (b : Nat) (r : RT) (sl : Sl) : Thing := tBlk b 30 [.string r.nm, .int .i64 r.pa, .int .i64 r.lo, .slice sl.a sl.len sl.cap]
abbrev tA0 (b : Nat) : Thing := tBlk b 30 [.string (⟨#[]⟩ : ByteArray), .int .i64 0, .int .i64 0, .slice none 0 0]
section
variable {w0 w : World} {its rest : List Thing}
theorem set_mid {α : Type} {l B : List α} {a x : α} : (l ++ [a] ++ B).set l.length x = l ++ [x] ++ B := by
 rw [List.set_append_left _ _ (by simp), set_last]
theorem Read_spec (h : Hp [] w0 w its) (hG : Glob w0) {s : ByteArray} (hs : s.size < 4294967281) {K : ByteArray → Int → Int → Sl → Value → World → Prop}
  (hok : ∀ r, readM s = .ok r → ∀ sl w', Hp [] w0 w' (its ++ [tSl sl 23 2 insv r.code]) → K r.nm r.pa r.lo sl .nilIface w')
  (herr : ∀ e, readM s = .error e → ∀ fb w', Hp [] w0 w' (its ++ [tFault fb e]) → K ⟨#[]⟩ 0 0 ⟨none, 0, 0⟩ (.iface 86 (.pointer (some ⟨fb, 0, none⟩))) w') : c27 s w K := by
 refine c27_of ?_
 unfold f27
 obtain ⟨inf, i1, i2, i3, i4⟩ := inf23
 refine h.nw fun A w1 h => ?_
 refine h.nw fun R w1 h => ?_
 have h := h.nil 23 2 insv
 have h : Hp [] w0 w1 (its ++ [tA0 A] ++ [tR R rt0 ⟨none, 0, 0⟩] ++ [tSl ⟨none, 0, 0⟩ 23 2 insv rt0.code]) := h
 refine ⟨fun at_ first m w' => ∃ (a f : Nat) (st : Option RT) (sl : Sl), at_ = a ∧ a ≤ s.size ∧ first = st.isNone ∧ m = s.size - a ∧ s.size - a + 2 ≤ f ∧ readM s = readG s f a st ∧ Hp [] w0 w' (its ++ [tA0 A] ++ [tR R (st.getD rt0) sl] ++ [tSl sl 23 2 insv (st.getD rt0).code]),
  ⟨_, 0, s.size + 2, none, _, rfl, by omega, rfl, rfl, by omega, rfl, h⟩, ?_⟩
 clear h
 rintro at_ first m w1 ⟨a, f, st, sl, rfl, ha, rfl, rfl, hf, hM, h⟩
 obtain ⟨f, rfl⟩ : ∃ g, f = g + 1 := ⟨f - 1, by omega⟩
 unfold readG at hM
 have hA : ∀ {B : List Thing}, ((its ++ [tA0 A] ++ B)[its.length]?).map Thing.holds = some (tA0 A).holds := fun {B} => by rw [mid1]; rfl
 by_cases hend : st.isSome = true ∧ ¬ a < s.size
 ·rw [if_pos hend] at hM
  obtain ⟨r, rfl⟩ := Option.isSome_iff_exists.1 hend.1
  have h : Hp [] w0 w1 (its ++ [tA0 A] ++ [tR R r sl] ++ [tSl sl 23 2 insv r.code]) := h
  refine ifF (by simp; omega) ?_
  have hR : ((its ++ [tA0 A] ++ [tR R r sl] ++ [tSl sl 23 2 insv r.code])[its.length + 1]?).map Thing.holds = some (tR R r sl).holds := by rw [mid2]; rfl
  refine h.ld0 (k := .s) (x := r.nm) _ hR rfl ?_
  refine h.ld (n := 1) (k := .i .i64) (x := r.pa) _ hR rfl ?_
  refine h.ld (n := 2) (k := .i .i64) (x := r.lo) _ hR rfl ?_
  refine h.ld (n := 3) (k := .sl) (x := sl) _ hR rfl ?_
  have h : Hp [] w0 w1 (its ++ [tA0 A] ++ ([tR R r sl] ++ [tSl sl 23 2 insv r.code])) := by simpa using h
  refine h.st0 its.length mid1 (by simp) rfl fun w1 h => ?_
  rw [set_mid] at h
  refine h.st (n := 1) its.length mid1 (by simp) rfl fun w1 h => ?_
  rw [set_mid] at h
  refine h.st (n := 2) its.length mid1 (by simp) rfl fun w1 h => ?_
  rw [set_mid] at h
  refine h.st (n := 3) its.length mid1 (by simp) rfl fun w1 h => ?_
  rw [set_mid] at h
  refine h.ld0 (k := .s) (x := r.nm) its.length (by rw [mid1]; rfl) rfl ?_
  refine h.ld (n := 1) (k := .i .i64) (x := r.pa) its.length (by rw [mid1]; rfl) rfl ?_
  refine h.ld (n := 2) (k := .i .i64) (x := r.lo) its.length (by rw [mid1]; rfl) rfl ?_
  refine h.ld (n := 3) (k := .sl) (x := sl) its.length (by rw [mid1]; rfl) rfl ?_
  refine hok r hM sl w1 ?_
  refine Hp.dropMid (mid := [tBlk A 30 [.string r.nm, .int .i64 r.pa, .int .i64 r.lo, .slice sl.a sl.len sl.cap]] ++ [tR R r sl]) ?_
  simpa using h
 ·rw [if_neg hend] at hM
  refine ifT ?_ ?_
  ·cases st with
   | none => rfl
   | some r =>
    have : a < s.size := by
     rcases Nat.lt_or_ge a s.size with g | g
     ·exact g
     ·exact absurd ⟨rfl, by omega⟩ hend
    simp [this]
  refine ⟨by omega, by omega, by omega, ?_⟩
  rw [Int.toNat_natCast, Int.toNat_natCast]
  have hes : (s.extract a s.size).size = s.size - a := by rw [ByteArray.size_extract]; omega
  refine Cut_spec h hG (by omega) fun w1 h => ?_
  have esp : (⟨#[10]⟩ : ByteArray) = nl := rfl
  rw [esp]
  have hcf := cut_found (s := s.extract a s.size) (sep := nl)
  have hcs := (cut_size (s.extract a s.size) nl).1
  have hn1 : nl.size = 1 := rfl
  generalize hc : cutB (s.extract a s.size) nl = c at *
  obtain ⟨text, x_, whole⟩ := c
  dsimp only at hM hcf hcs ⊢
  have hlen := h.len (s := sl) (e := 23) (n := 2) (f := insv) (l := (st.getD rt0).code) (its.length + 2) (by rw [last3]; rfl)
  -- it is wrong here
  have wrongX : ∀ (B : List Thing) (w2 : World), Hp [] w0 w2 (its ++ [tA0 A] ++ B) → readM s = .error a → Nw (.cells #[.int .i64 (a : Int), .int .i64 130] 89) w2 fun (a2 : Addr) (w : World) =>
    St ⟨A, 0, none⟩ (.string (⟨#[]⟩ : ByteArray)) w fun (w : World) => St ((⟨A, 0, none⟩ : Addr).add 1) (.int .i64 0) w fun (w : World) => St ((⟨A, 0, none⟩ : Addr).add 2) (.int .i64 0) w fun (w : World) => St ((⟨A, 0, none⟩ : Addr).add 3) (.slice none 0 0) w fun (w : World) =>
    Ld .s w ⟨A, 0, none⟩ fun r1 => Ld (.i .i64) w ((⟨A, 0, none⟩ : Addr).add 1) fun r2 => Ld (.i .i64) w ((⟨A, 0, none⟩ : Addr).add 2) fun r3 => Ld .sl w ((⟨A, 0, none⟩ : Addr).add 3) fun r4 => K r1 r2 r3 r4 (.iface 86 (.pointer (some a2))) w := by
   intro B w2 h he
   refine h.nw fun fb w3 h => ?_
   have h : Hp [] w0 w3 (its ++ [tA0 A] ++ (B ++ [tFault fb a])) := by simpa using h
   refine h.st0 its.length mid1 (by simp) rfl fun w1 h => ?_
   rw [set_mid] at h
   refine h.st (n := 1) its.length mid1 (by simp) rfl fun w1 h => ?_
   rw [set_mid] at h
   refine h.st (n := 2) its.length mid1 (by simp) rfl fun w1 h => ?_
   rw [set_mid] at h
   refine h.st (n := 3) its.length mid1 (by simp) rfl fun w1 h => ?_
   rw [set_mid] at h
   refine h.ld0 (k := .s) (x := (⟨#[]⟩ : ByteArray)) its.length (by rw [mid1]; rfl) rfl ?_
   refine h.ld (n := 1) (k := .i .i64) (x := 0) its.length (by rw [mid1]; rfl) rfl ?_
   refine h.ld (n := 2) (k := .i .i64) (x := 0) its.length (by rw [mid1]; rfl) rfl ?_
   refine h.ld (n := 3) (k := .sl) (x := ⟨none, 0, 0⟩) its.length (by rw [mid1]; rfl) rfl ?_
   refine herr a he fb w1 ?_
   refine Hp.dropMid (mid := [tA0 A] ++ B) ?_
   simpa using h
  refine ⟨fun b w' => b = (whole && (st.isNone || decide ((st.getD rt0).code.length < 2000))) ∧ Hp [] w0 w' (its ++ [tA0 A] ++ [tR R (st.getD rt0) sl] ++ [tSl sl 23 2 insv (st.getD rt0).code]), ?_, ?_⟩
  ·cases whole with
   | false => exact ifF (by decide) ⟨rfl, h⟩
   | true =>
    refine ifT rfl ?_
    cases st with
    | none => exact ifT rfl ⟨rfl, h⟩
    | some r =>
     refine ifF (by simp) ?_
     refine h.ld (n := 3) (k := .sl) (x := sl) (its.length + 1) (by rw [mid2]; rfl) rfl ⟨?_, h⟩
     have : r.code.length = sl.len := hlen
     simp; omega
  clear h
  rintro g w1 ⟨rfl, h⟩
  refine ⟨fun g w' => (g = false ∧ readM s = .error a ∧ ∃ B, Hp [] w0 w' (its ++ [tA0 A] ++ B)) ∨ (g = true ∧ whole = true ∧ ∃ r' sl', readM s = readG s f (a + text.size + 1) (some r') ∧ Hp [] w0 w' (its ++ [tA0 A] ++ [tR R r' sl'] ++ [tSl sl' 23 2 insv r'.code])), ?_, ?_⟩
  ·by_cases hg : (whole && (st.isNone || decide ((st.getD rt0).code.length < 2000))) = true
   ·refine ifF (by simp [hg]) ?_
    rw [Bool.and_eq_true] at hg
    obtain ⟨rfl, hg⟩ := hg
    rw [if_neg (by decide)] at hM
    cases st with
    | none =>
     refine ifT rfl ?_
     dsimp only at hM
     have stores : ∀ (nm : ByteArray) (pa lo : Int) (sl2 : Sl) (w2 : World), Hp [] w0 w2 (its ++ [tA0 A] ++ [tR R rt0 sl] ++ [tSl sl 23 2 insv rt0.code]) → ∀ {G : World → Prop}, (∀ w3, Hp [] w0 w3 (its ++ [tA0 A] ++ [tBlk R 30 [.string nm, .int .i64 pa, .int .i64 lo, .slice sl2.a sl2.len sl2.cap]] ++ [tSl sl 23 2 insv rt0.code]) → G w3) → St ⟨R, 0, none⟩ (.string nm) w2 fun w => St ((⟨R, 0, none⟩ : Addr).add 1) (.int .i64 pa) w fun w => St ((⟨R, 0, none⟩ : Addr).add 2) (.int .i64 lo) w fun w => St ((⟨R, 0, none⟩ : Addr).add 3) (.slice sl2.a sl2.len sl2.cap) w G := by
      intro nm pa lo sl2 w2 h G hG
      refine h.st0 (its ++ [tA0 A]).length mid1 (by simp) rfl fun w1 h => ?_
      rw [set_mid] at h
      refine h.st (n := 1) (its ++ [tA0 A]).length mid1 (by simp) rfl fun w1 h => ?_
      rw [set_mid] at h
      refine h.st (n := 2) (its ++ [tA0 A]).length mid1 (by simp) rfl fun w1 h => ?_
      rw [set_mid] at h
      refine h.st (n := 3) (its ++ [tA0 A]).length mid1 (by simp) rfl fun w1 h => ?_
      rw [set_mid] at h
      exact hG w1 h
     refine header_spec h hG (by omega) (fun nm pa lo hh w2 h => stores _ _ _ _ w2 h fun w3 h => .inr ⟨rfl, rfl, ⟨nm, pa, lo, []⟩, ⟨none, 0, 0⟩, ?_, ?_⟩) (fun hh w2 h => stores _ _ _ _ w2 h fun w3 h => .inl ⟨rfl, ?_, _, by rw [List.append_assoc (its ++ [tA0 A])] at h; exact h⟩)
     ·rw [hM, hh]
     ·have h := h.front.nil 23 2 insv
      exact h
     ·rw [hM, hh]
    | some r =>
     refine ifF (by simp) ?_
     dsimp only at hM
     have hl2 : r.code.length < 2000 := by simpa using hg
     rw [if_pos hl2] at hM
     have hsl : r.code.length = sl.len := hlen
     have h : Hp [] w0 w1 (its ++ [tA0 A] ++ [tR R r sl] ++ [tSl sl 23 2 insv r.code]) := h
     refine h.nw fun I w2 h => ?_
     have fin : ∀ (op x : Int) (w2 : World), Hp [] w0 w2 (its ++ [tA0 A] ++ [tR R r sl] ++ [tSl sl 23 2 insv r.code] ++ [tBlk I 23 [.int .i64 0, .int .i64 0]]) → ∀ {G : World → Prop}, (∀ sl' w3, Hp [] w0 w3 (its ++ [tA0 A] ++ [tR R (rAdd r (op, x)) sl'] ++ [tSl sl' 23 2 insv (rAdd r (op, x)).code]) → G w3) →
       St ⟨I, 0, none⟩ (.int .i64 op) w2 fun w => St ((⟨I, 0, none⟩ : Addr).add 1) (.int .i64 x) w fun w => Ld .sl w ((⟨R, 0, none⟩ : Addr).add 3) fun Code2 => Ld (.i .i64) w ⟨I, 0, none⟩ fun r1 => Ld (.i .i64) w ((⟨I, 0, none⟩ : Addr).add 1) fun r2 =>
        Nw (.cells #[.int .i64 r1, .int .i64 r2] 23) w fun b w => Run .sl Tryz.prog (Builtin.append_ #[28, 28] 28 #[.slice Code2.a Code2.len Code2.cap, .slice (some b) 1 1]) w fun s3 w => St ((⟨R, 0, none⟩ : Addr).add 3) (.slice s3.a s3.len s3.cap) w fun w => G w := by
      intro op x w2 h G hG
      refine h.st0 _ List.getElem?_concat_length (by simp) rfl fun w3 h => ?_
      rw [set_last] at h
      refine h.st (n := 1) _ List.getElem?_concat_length (by simp) rfl fun w3 h => ?_
      rw [set_last] at h
      refine h.ld (n := 3) (k := .sl) (x := sl) (its ++ [tA0 A]).length (by rw [List.append_assoc (its ++ [tA0 A] ++ [tR R r sl]), mid1]; rfl) rfl ?_
      refine h.ld0 (k := .i .i64) (x := op) _ (by rw [List.getElem?_concat_length]; rfl) rfl ?_
      refine h.ld (n := 1) (k := .i .i64) (x := x) _ (by rw [List.getElem?_concat_length]; rfl) rfl ?_
      have h := h.front
      refine h.nwapp (c := insv (op, x)) _ (op, x) List.getElem?_concat_length insv_len und28 i1 i3 i2 rfl rfl (by simp [Value.oneCell']) (by rw [i4]; omega) (by omega) fun s2 w6 h _ _ => ?_
      rw [set_last] at h
      refine h.st (n := 3) (its ++ [tA0 A]).length mid1 (by simp) rfl fun w7 h => ?_
      rw [set_mid] at h
      exact hG s2 w7 h
     refine readIns_spec h hG (by omega) (fun x hx x0 x1 w2 h => fin x.1 x.2 w2 h fun sl' w3 h => .inr ⟨rfl, rfl, rAdd r x, sl', ?_, h⟩) (fun hx op x w2 h => fin op x w2 h fun sl' w3 h => .inl ⟨rfl, ?_, _, by rw [List.append_assoc (its ++ [tA0 A])] at h; exact h⟩)
     ·rw [hM, hx]
     ·rw [hM, hx]
   ·have hg' := Bool.eq_false_iff.2 hg
    refine ifT (by rw [hg']; rfl) (.inl ⟨hg', ?_, _, by rw [List.append_assoc (its ++ [tA0 A])] at h; exact h⟩)
    rw [hM]
    cases whole with
    | false => rfl
    | true =>
     rw [if_neg (by decide)]
     cases st with
     | none => exact absurd rfl hg
     | some r =>
      dsimp only
      rw [if_neg (by simpa using hg)]
  clear h
  rintro g w1 (⟨rfl, he, B, h⟩ | ⟨rfl, rfl, r', sl', he, h⟩)
  ·exact ifT rfl (wrongX B w1 h he)
  ·refine ifF (by decide) ?_
   have := hcf rfl
   refine ⟨s.size - (a + text.size + 1), by omega, a + text.size + 1, f, some r', sl', ?_, by omega, rfl, rfl, by omega, he, h⟩
   rw [wr64 (n := (text.size : Int) + 1) (by omega) (by omega), wr64 (by omega) (by omega)]; omega
end
theorem dec_1 : dec 1 = ⟨#[49]⟩ := by simp [dec, Lib.itoa, Lib.decDigits_one]
theorem dec_2 : dec 2 = ⟨#[50]⟩ := by simp [dec, Lib.itoa, Lib.decDigits_one]
theorem dec_0 : dec 0 = ⟨#[48]⟩ := by simp [dec, Lib.itoa, Lib.decDigits_one]
theorem dec_7 : dec 7 = ⟨#[55]⟩ := by simp [dec, Lib.itoa, Lib.decDigits_one]
theorem dec_m3 : dec (-3) = ⟨#[45, 51]⟩ := by simp [dec, Lib.itoa, Lib.decDigits_one]
theorem decO_of {s : ByteArray} {v : Int} (h : Lib.parseIntB 64 s.data.toList = .ok v) (hd : dec v = s) : decO s = some v := by
 unfold decO; rw [h]; dsimp only; rw [if_pos hd]
theorem decO_no {s : ByteArray} {v : Int} (h : Lib.parseIntB 64 s.data.toList = .ok v) (hd : dec v ≠ s) : decO s = none := by
 unfold decO; rw [h]; dsimp only; rw [if_neg hd]
theorem list_shown : listS ⟨⟨#[102]⟩, 1, 2, [(2, 0), (1, -3), (6, 0), (22, 0)]⟩ = ⟨#[102, 32, 49, 32, 50, 10, 108, 111, 97, 100, 32, 48, 10, 112, 117, 115, 104, 32, 45, 51, 10, 97, 100, 100, 10, 114, 101, 116, 10]⟩ := by
 have e : listL ⟨⟨#[102]⟩, 1, 2, [(2, 0), (1, -3), (6, 0), (22, 0)]⟩ = [102, 32, 49, 32, 50, 10, 108, 111, 97, 100, 32, 48, 10, 112, 117, 115, 104, 32, 45, 51, 10, 97, 100, 100, 10, 114, 101, 116, 10] := by
  unfold listL headL
  simp only [List.flatMap_cons, List.flatMap_nil, lineL, decL, dec_1, dec_2]
  rw [if_pos (by rfl), if_pos (by rfl), if_neg (by decide), if_neg (by decide), dec_0, dec_m3]
  rfl
 unfold listS
 rw [e]
 rfl
theorem head_shown : headR ⟨#[102, 32, 49, 32, 50]⟩ = some (⟨#[102]⟩, 1, 2) := by
 unfold headR
 rw [show splitS ⟨#[102, 32, 49, 32, 50]⟩ = [⟨#[102]⟩, ⟨#[49]⟩, ⟨#[50]⟩] from rfl]
 dsimp only
 rw [if_pos (by rfl), decO_of (s := ⟨#[49]⟩) (v := 1) rfl dec_1, decO_of (s := ⟨#[50]⟩) (v := 2) rfl dec_2]
 rfl
theorem ins_yes : insR ⟨#[112, 117, 115, 104, 32, 55]⟩ = some (1, 7) := by
 unfold insR
 rw [show cutB ⟨#[112, 117, 115, 104, 32, 55]⟩ sp = (⟨#[112, 117, 115, 104]⟩, ⟨#[55]⟩, true) from rfl]
 dsimp only
 rw [show numOf ⟨#[112, 117, 115, 104]⟩ = 1 from rfl, if_neg (by decide), if_pos rfl, decO_of (s := ⟨#[55]⟩) (v := 7) rfl dec_7]
 rfl
theorem ins_no : insR ⟨#[108, 111, 97, 100, 32, 48, 48]⟩ = none := by
 unfold insR
 rw [show cutB ⟨#[108, 111, 97, 100, 32, 48, 48]⟩ sp = (⟨#[108, 111, 97, 100]⟩, ⟨#[48, 48]⟩, true) from rfl]
 dsimp only
 rw [show numOf ⟨#[108, 111, 97, 100]⟩ = 2 from rfl, if_neg (by decide), if_pos rfl, decO_no (s := ⟨#[48, 48]⟩) (v := 0) rfl (by rw [dec_0]; decide)]
 rfl
theorem read_yes : readM ⟨#[102, 32, 49, 32, 50, 10, 112, 117, 115, 104, 32, 55, 10]⟩ = .ok ⟨⟨#[102]⟩, 1, 2, [(1, 7)]⟩ := by
 show readG _ (14 + 1) 0 none = _
 unfold readG
 rw [if_neg (by decide)]
 rw [show cutB ((⟨#[102, 32, 49, 32, 50, 10, 112, 117, 115, 104, 32, 55, 10]⟩ : ByteArray).extract 0 (⟨#[102, 32, 49, 32, 50, 10, 112, 117, 115, 104, 32, 55, 10]⟩ : ByteArray).size) nl = (⟨#[102, 32, 49, 32, 50]⟩, ⟨#[112, 117, 115, 104, 32, 55, 10]⟩, true) from rfl]
 dsimp only
 rw [if_neg (by decide), head_shown]
 show readG _ (13 + 1) 6 (some ⟨⟨#[102]⟩, 1, 2, []⟩) = _
 unfold readG
 rw [if_neg (by decide)]
 rw [show cutB ((⟨#[102, 32, 49, 32, 50, 10, 112, 117, 115, 104, 32, 55, 10]⟩ : ByteArray).extract 6 (⟨#[102, 32, 49, 32, 50, 10, 112, 117, 115, 104, 32, 55, 10]⟩ : ByteArray).size) nl = (⟨#[112, 117, 115, 104, 32, 55]⟩, ⟨#[]⟩, true) from rfl]
 dsimp only
 rw [if_neg (by decide), if_pos (by decide), ins_yes]
 show readG _ (12 + 1) 13 (some ⟨⟨#[102]⟩, 1, 2, [(1, 7)]⟩) = _
 unfold readG
 rw [if_pos (by decide)]
 rfl
theorem read_no : readM ⟨#[102, 32, 49, 32, 50, 10, 108, 111, 97, 100, 32, 48, 48, 10]⟩ = .error 6 := by
 show readG _ (15 + 1) 0 none = _
 unfold readG
 rw [if_neg (by decide)]
 rw [show cutB ((⟨#[102, 32, 49, 32, 50, 10, 108, 111, 97, 100, 32, 48, 48, 10]⟩ : ByteArray).extract 0 (⟨#[102, 32, 49, 32, 50, 10, 108, 111, 97, 100, 32, 48, 48, 10]⟩ : ByteArray).size) nl = (⟨#[102, 32, 49, 32, 50]⟩, ⟨#[108, 111, 97, 100, 32, 48, 48, 10]⟩, true) from rfl]
 dsimp only
 rw [if_neg (by decide), head_shown]
 show readG _ (14 + 1) 6 (some ⟨⟨#[102]⟩, 1, 2, []⟩) = _
 unfold readG
 rw [if_neg (by decide)]
 rw [show cutB ((⟨#[102, 32, 49, 32, 50, 10, 108, 111, 97, 100, 32, 48, 48, 10]⟩ : ByteArray).extract 6 (⟨#[102, 32, 49, 32, 50, 10, 108, 111, 97, 100, 32, 48, 48, 10]⟩ : ByteArray).size) nl = (⟨#[108, 111, 97, 100, 32, 48, 48]⟩, ⟨#[]⟩, true) from rfl]
 dsimp only
 rw [if_neg (by decide), if_pos (by decide), ins_no]
theorem pg_no : pgD [0, 0, 0] = .error 2 := rfl
theorem pg_yes : pgD [0, 1, 1, 102, 0, 0, 1, 22] = .ok ⟨[], [⟨⟨#[102]⟩, 0, 0, [(22, 0)]⟩]⟩ := rfl
section
variable {w0 w : World} {its rest : List Thing}
theorem pg_copy {S : List Nat} (h : Hp S w0 w its) {s1 s2 : Sl} {K : Addr → World → Prop} (hK : ∀ b w', Hp S w0 w' (its ++ [tBlk b 37 [.slice s1.a s1.len s1.cap, .slice s2.a s2.len s2.cap]]) → K ⟨b, 0, none⟩ w') :
  Nw (.cells #[.slice none 0 0, .slice none 0 0] 37) w fun (s : Addr) (w : World) => St s (.slice s1.a s1.len s1.cap) w fun (w : World) => St (s.add 1) (.slice s2.a s2.len s2.cap) w fun (w : World) => K s w := by
 refine h.nw fun b w1 h => ?_
 refine h.st0 its.length List.getElem?_concat_length (by simp) rfl fun w2 h => ?_
 rw [set_last] at h
 refine h.st (n := 1) its.length List.getElem?_concat_length (by simp) rfl fun w2 h => ?_
 rw [set_last] at h
 exact hK b w2 h
theorem shown0 (hG : Glob w) {K : Bool → World → Prop} (hK : ∀ w', Hp [] w w' [] → K true w') : c8 w K := by
 refine c8_of ?_
 unfold f8
 have h : Hp [] w w [] := Hp.init w
 refine h.nwS (l := [(2, 0), (1, -3), (6, 0), (22, 0)]) (f := insv) (n := 2) (m := 4) rfl rfl insv_len fun cb w1 h => ?_
 refine rt_copy h (sl := ⟨some ⟨cb, 0, none⟩, 4, 4⟩) fun rb w1 h => ?_
 have h : Hp [] w w1 [tSl ⟨some ⟨cb, 0, none⟩, 4, 4⟩ 23 2 insv [(2, 0), (1, -3), (6, 0), (22, 0)], tBlk rb 30 [.string ⟨#[102]⟩, .int .i64 1, .int .i64 2, .slice (some ⟨cb, 0, none⟩) 4 4]] := h
 refine h.ld0 (k := .s) (x := ⟨#[102]⟩) 1 rfl rfl ?_
 refine h.ld (n := 1) (k := .i .i64) (x := 1) 1 rfl rfl ?_
 refine h.ld (n := 2) (k := .i .i64) (x := 2) 1 rfl rfl ?_
 refine h.ld (n := 3) (k := .sl) (x := ⟨some ⟨cb, 0, none⟩, 4, 4⟩) 1 rfl rfl ?_
 obtain ⟨O, hO⟩ := h.see (i := 0) rfl
 refine List_spec (code := [(2, 0), (1, -3), (6, 0), (22, 0)]) ⟨O, SlF.toR hO⟩ ⟨by decide, by decide⟩ (by decide) (hG.fr h.fr).tab fun w2 h2 => ?_
 rw [list_shown]
 have h := (h.keep h2.fr).front (a := [])
 clear h2 hO O
 -- Read
 refine Read_spec h hG (by decide) (fun r hr sl1 w2 h => ?_) (fun e he => by rw [read_yes] at he; cases he)
 rw [read_yes] at hr
 cases hr
 refine rt_copy h (sl := sl1) fun xb w2 h => ?_
 have h : Hp [] w w2 [tSl sl1 23 2 insv [(1, 7)], tBlk xb 30 [.string ⟨#[102]⟩, .int .i64 1, .int .i64 2, .slice sl1.a sl1.len sl1.cap]] := h
 refine Read_spec h hG (by decide) (fun r hr => by rw [read_no] at hr; cases hr) (fun e he fb w2 h => ?_)
 rw [read_no] at he
 cases he
 refine rt_copy h (sl := ⟨none, 0, 0⟩) fun xb2 w2 h => ?_
 have h : Hp [] w w2 ([tSl sl1 23 2 insv [(1, 7)], tBlk xb 30 [.string ⟨#[102]⟩, .int .i64 1, .int .i64 2, .slice sl1.a sl1.len sl1.cap], tFault fb 6] ++ [tBlk xb2 30 [.string ⟨#[]⟩, .int .i64 0, .int .i64 0, .slice none 0 0]]) := h
 have h := h.front
 refine fault_spec h 2 rfl fun w2 h => ?_
 have h := h.nil 30 4 rtv
 refine Effect_spec h 3 (u := tSl ⟨none, 0, 0⟩ 30 4 rtv []) rfl Hp.rdSl fun w2 h => ?_
 rw [show (effM 26 26 []).1 = 2 from rfl, show (effM 26 26 []).2 = 0 from rfl]
 have hS0 : RdS w2 ⟨none, 0, 0⟩ ([] : List SY) := ⟨[], [], rfl, by simp, ⟨[], SlR.nil rfl, by simp⟩, by simp⟩
 have hR0 : RdR w2 ⟨none, 0, 0⟩ ([] : List RT) := ⟨[], rfl, ⟨[], SlR.nil rfl⟩, by simp⟩
 refine Encode_spec (p := ⟨[], []⟩) hS0 hR0 ⟨by simp, by simp⟩ (fun _ s2 w3 h2 => ?_) (fun e => by cases e)
 have h := h.r0 (rest := [tB s2 (encPg ⟨[], []⟩)]) rfl h2
 have h : Hp [] w w3 [tSl sl1 23 2 insv [(1, 7)], tBlk xb 30 [.string ⟨#[102]⟩, .int .i64 1, .int .i64 2, .slice sl1.a sl1.len sl1.cap], tFault fb 6, tSl ⟨none, 0, 0⟩ 30 4 rtv [], tB s2 [0, 0]] := h
 clear h2 hS0 hR0
 -- Decode
 refine h.nwS (l := [0, 0, 0]) (f := u8v) (n := 1) (m := 3) rfl rfl u8v_len fun b3 w4 h => ?_
 have h := h.comm
 have hs3 : Src (tSl ⟨some ⟨b3, 0, none⟩, 3, 3⟩ 5 1 u8v [0, 0, 0]) ⟨some ⟨b3, 0, none⟩, 3, 3⟩ [0, 0, 0] := ⟨Hp.rdSl, by unfold Bytes; decide, by decide, rfl, Nat.le_refl _⟩
 refine Decode_spec h hs3 (fun p hp => by rw [pg_no] at hp; cases hp) (fun e he f2 w4 h => ?_)
 rw [pg_no] at he
 cases he
 refine pg_copy h (s1 := ⟨none, 0, 0⟩) (s2 := ⟨none, 0, 0⟩) fun pb w4 h => ?_
 have h : Hp [] w w4 ([tSl ⟨some ⟨b3, 0, none⟩, 3, 3⟩ 5 1 u8v [0, 0, 0], tSl sl1 23 2 insv [(1, 7)], tBlk xb 30 [.string ⟨#[102]⟩, .int .i64 1, .int .i64 2, .slice sl1.a sl1.len sl1.cap], tFault fb 6, tSl ⟨none, 0, 0⟩ 30 4 rtv [], tB s2 [0, 0], tFault f2 2] ++ [tBlk pb 37 [.slice none 0 0, .slice none 0 0]]) := h
 have h := h.front
 refine fault_spec h 6 rfl fun w4 h => ?_
 refine h.nwS (l := [0, 1, 1, 102, 0, 0, 1, 22]) (f := u8v) (n := 1) (m := 8) rfl rfl u8v_len fun b4 w5 h => ?_
 have h := h.comm
 have hs4 : Src (tSl ⟨some ⟨b4, 0, none⟩, 8, 8⟩ 5 1 u8v [0, 1, 1, 102, 0, 0, 1, 22]) ⟨some ⟨b4, 0, none⟩, 8, 8⟩ [0, 1, 1, 102, 0, 0, 1, 22] := ⟨Hp.rdSl, by unfold Bytes; decide, by decide, rfl, Nat.le_refl _⟩
 refine Decode_spec h hs4 (fun p hp q1 q2 w5 h => ?_) (fun e he => by rw [pg_yes] at he; cases he)
 rw [pg_yes] at hp
 cases hp
 refine pg_copy h (s1 := q1) (s2 := q2) fun qb w5 h => ?_
 have h : Hp [] w w5 [tSl ⟨some ⟨b4, 0, none⟩, 8, 8⟩ 5 1 u8v [0, 1, 1, 102, 0, 0, 1, 22], tSl ⟨some ⟨b3, 0, none⟩, 3, 3⟩ 5 1 u8v [0, 0, 0], tSl sl1 23 2 insv [(1, 7)], tBlk xb 30 [.string ⟨#[102]⟩, .int .i64 1, .int .i64 2, .slice sl1.a sl1.len sl1.cap], tFault fb 6, tSl ⟨none, 0, 0⟩ 30 4 rtv [], tB s2 [0, 0], tFault f2 2, tSyN q1 [], tFnN q2 [⟨⟨#[102]⟩, 0, 0, [(22, 0)]⟩], tBlk qb 37 [.slice q1.a q1.len q1.cap, .slice q2.a q2.len q2.cap]] := h
 refine ifT (by simp) ?_
 refine ⟨true, fun _ _ => by kernel_rfl, ifT rfl ?_⟩
 have hl1 := h.len (s := sl1) (e := 23) (n := 2) (f := insv) (l := [(1, 7)]) 2 rfl
 refine h.ld (n := 3) (k := .sl) (x := sl1) 3 rfl rfl ?_
 refine ifT (by rw [← hl1]; rfl) ?_
 refine h.ld (n := 3) (k := .sl) (x := sl1) 3 rfl rfl ?_
 refine h.ixr 2 (s := sl1) (l := [(1, 7)]) (f := insv) (n := 2) (e := 23) (j := 0) rfl (by decide) (y := (1, 7)) rfl insv_len fun ad hc => ?_
 refine ldR (k := .i .i64) (x := 7) (hc 1 (by decide)) rfl ?_
 refine ifT rfl (ifT rfl (ifT rfl (ifT rfl (ifT rfl (ifT rfl ?_)))))
 refine h.rdb 6 (u := tB s2 [0, 0]) rfl Hp.rdSl ⟨#[0, 0]⟩ rfl ?_
 refine ifT (by simp) (ifT rfl (ifT rfl (ifT rfl (ifT rfl ?_))))
 refine ⟨true, fun _ _ => by kernel_rfl, ifT rfl ?_⟩
 have hq := h.nest_see (e := 30) (n := 4) (cells := rtv) (sub := subI) (vis := RV.r) (s := q2) (l := [⟨⟨#[102]⟩, 0, 0, [(22, 0)]⟩]) 9 rfl
 refine h.ld (n := 1) (k := .sl) (x := q2) 10 rfl rfl ?_
 refine ifT (by rw [← hq.1]; rfl) ?_
 refine h.ld (n := 1) (k := .sl) (x := q2) 10 rfl rfl ?_
 obtain ⟨xs, hx, h⟩ := h.nest_open (i := 9) rfl
 obtain ⟨x, rfl⟩ : ∃ x, xs = [x] := List.length_eq_one_iff.1 (by simpa using congrArg List.length hx)
 have hxc : x.code = [(22, 0)] := by
  have : x.r = ⟨⟨#[102]⟩, 0, 0, [(22, 0)]⟩ := by simpa using hx
  exact congrArg RT.code this
 obtain ⟨O, O1, O2, g1, _⟩ := h.see (i := 11) (t := tAll [subI x]) rfl
 have hxl : x.code.length = x.sl.len := g1.1
 refine h.ixr 9 (s := q2) (l := [x]) (f := rtv) (n := 4) (e := 30) (j := 0) rfl (by decide) (y := x) rfl rtv_len fun ad hc => ?_
 refine ldR (k := .sl) (x := x.sl) (hc 3 (by decide)) rfl ?_
 refine ifT (by rw [← hxl, hxc]; rfl) ?_
 refine Name_spec h fun w6 h => ?_
 refine ifT (by rw [str_beq]; rfl) ?_
 refine Number_spec h fun w6 h => ?_
 exact hK w6 (frNil h.fr)
theorem shown_spec (h : Hp [] w0 w its) (hG : Glob w0) {K : Bool → World → Prop} (hK : ∀ w', Hp [] w0 w' its → K true w') : c8 w K :=
 shown0 (hG.fr h.fr) fun w' h2 => hK w' (h.keep h2.fr)
end
end Go.Proofs.YtmfgofbcnlkolaaGreatDoor.F
end

section
namespace Go.Den
open Go.RowKit
section
variable {α : Type} {f : α → List Value} {n : Nat} {e : TypeId}
namespace Hp
variable {S : List Nat} {w0 w : World} {its : List Thing}
theorem ixstm (h : Hp S w0 w its) (i : Nat) {s : Sl} {l : List α} {j : Int} {y y' : α} {m : Nat} {v : Value} {K : World → Prop} (hi : its[i]? = some (tSl s e n f l)) (h0 : 0 ≤ j) (hy : l[j.toNat]? = some y) (hf : ∀ x, (f x).length = n) (hm : m < n) (hy' : f y' = (f y).set m v) (hv : v.oneCell' = true)
  (hK : ∀ w', Hp S w0 w' (its.set i (tSl s e n f (l.set j.toNat y'))) → K w') : Ix s.a s.len j n fun a => St (a.add m) v w K := by
 obtain ⟨O, hO, back⟩ := h.step hi rfl
 refine SlF.ix hf hO h0 (x := y) hy fun b off c ho hb hoff hcs hput => ?_
 rw [Addr.add_none]
 refine Go.Den.st hb (by omega) hv fun w' hb' hfr _ => hK w' ?_
 subst ho
 refine back hfr (t' := tSl s e n f (l.set j.toNat y')) (O' := [b]) (hput w' y' ?_) (fun k hk => .inl hk) rfl
 have hsame : c.set (off + m) v = c.take off ++ f y' ++ c.drop (off + n) := by
  have hfl := hf y
  rw [hy']
  apply List.ext_getElem?
  intro q
  by_cases h1 : q < off
  ·rw [List.getElem?_set_ne (by omega), List.append_assoc, List.getElem?_append_left (by rw [List.length_take]; omega), List.getElem?_take, if_pos h1]
  ·by_cases h2 : q < off + n
   ·rw [List.append_assoc, List.getElem?_append_right (by rw [List.length_take]; omega), List.length_take, Nat.min_eq_left (by omega), List.getElem?_append_left (by rw [List.length_set]; omega)]
    have := hcs (q - off) (by omega)
    rw [show off + (q - off) = q by omega] at this
    by_cases h3 : q = off + m
    ·subst h3
     rw [List.getElem?_set_self (by omega), show off + m - off = m by omega, List.getElem?_set_self (by omega)]
    ·rw [List.getElem?_set_ne (by omega), List.getElem?_set_ne (by omega), this]
   ·rw [List.getElem?_set_ne (by omega), List.append_assoc, List.getElem?_append_right (by rw [List.length_take]; omega), List.length_take, Nat.min_eq_left (by omega), List.getElem?_append_right (by rw [List.length_set]; omega), List.length_set, hfl, List.getElem?_drop]
    congr 1; omega
 rw [← hsame]
 exact hb'
end Hp
end
end Go.Den
end

section
namespace Go.Proofs.YtmfgofbcnlkolaaGreatDoor.F
open Go Go.Den Go.Proofs
section
variable {S : List Nat} {w0 w : World} {its rest : List Thing}
theorem copyR (h : Hp S w0 w its) (j : Nat) {u : Thing} {s : Sl} {l : List RV} (hj : its[j]? = some u) (hu : Hp.Reads u s 4 rtv l) (hl : l.length * 56 ≤ 140737488355328) {K : Sl → World → Prop} (hK : ∀ r w', Hp S w0 w' (its ++ [tSl r 30 4 rtv l]) → K r w') :
  Nw (.cells #[] 30) w fun b w => Run .sl Tryz.prog (Builtin.append_ #[24, 24] 24 #[.slice (some b) 0 0, .slice s.a s.len s.cap]) w K := by
 obtain ⟨inf, q1, q2, q3, q4⟩ := inf30
 have hsl := h.lenU j (by rw [hj]; rfl) hu
 have hjl := (List.getElem?_eq_some_iff.1 hj).1
 refine h.nw (c := []) fun b w1 h => ?_
 have h := h.blkSl (i := its.length) (m := 0) (l := ([] : List RV)) (f := rtv) (n := 4) List.getElem?_concat_length rfl rfl rtv_len
 rw [set_last] at h
 refine h.appS its.length j (s := ⟨some ⟨b, 0, none⟩, 0, 0⟩) List.getElem?_concat_length (by rw [List.getElem?_append_left hjl]; exact hj) hu rtv_len und24 q1 q3 q2 rfl (by simp [Value.oneCell']) (by rw [q4]; show (0 + s.len) * 56 ≤ _; omega) (by show 0 + s.len ≤ _; omega) fun r w2 h _ _ => ?_
 rw [set_last] at h
 exact hK r w2 (by simpa using h)
theorem words_spec {w : World} (hG : Glob w) {op iop ia : Int} {name : ByteArray} {funcs : Sl} {fs : List RV} (hr : ∃ o, SlR w funcs 4 rtv fs o) (hl : fs.length * 56 ≤ 140737488355328) {K : Bool → World → Prop} (hK : ∀ w', Hp [] w w' [] → K true w') : c3 op name iop ia funcs w K := by
 obtain ⟨o, hr⟩ := hr
 refine c3_of ?_
 unfold f3
 have h : Hp [] w w [(tRd funcs 4 rtv fs).ro] := (Hp.init w).addRo (O := o) hr (by simp)
 refine h.nw fun ib w1 h => ?_
 refine shown_spec h hG fun w1 h => ?_
 refine copyR h 0 (u := (tRd funcs 4 rtv fs).ro) rfl rdRo hl fun l w1 h => ?_
 have h : Hp [] w w1 [(tRd funcs 4 rtv fs).ro, tBlk ib 23 [.int .i64 iop, .int .i64 ia], tSl l 30 4 rtv fs] := h
 refine h.ld0 (k := .i .i64) (x := iop) 1 rfl rfl ?_
 refine h.ld (n := 1) (k := .i .i64) (x := ia) 1 rfl rfl ?_
 refine Effect_spec h 2 (u := tSl l 30 4 rtv fs) rfl Hp.rdSl fun w1 h => ?_
 refine h.ld0 (k := .i .i64) (x := iop) 1 rfl rfl ?_
 refine h.ld (n := 1) (k := .i .i64) (x := ia) 1 rfl rfl ?_
 refine REffect_spec h 0 (u := (tRd funcs 4 rtv fs).ro) rfl rdRo fun w1 h => ?_
 have hll := h.len (s := l) (e := 30) (n := 4) (f := rtv) (l := fs) 2 rfl
 refine ⟨fun k m w' => ∃ (q : Nat) (gs : List RV), k = q ∧ q ≤ fs.length ∧ m = fs.length - q ∧ gs.length = fs.length ∧ Hp [] w w' [(tRd funcs 4 rtv fs).ro, tBlk ib 23 [.int .i64 iop, .int .i64 ia], tSl l 30 4 rtv gs], ⟨_, 0, fs, rfl, by omega, rfl, rfl, h⟩, ?_⟩
 clear h
 rintro k m w2 ⟨q, gs, rfl, hq, rfl, hgl, h⟩
 by_cases hend : q = fs.length
 ·refine ifF (by simp; omega) ?_
  refine h.ld0 (k := .i .i64) (x := iop) 1 rfl rfl ?_
  refine h.ld (n := 1) (k := .i .i64) (x := ia) 1 rfl rfl ?_
  refine Effect_spec h 2 (u := tSl l 30 4 rtv gs) rfl Hp.rdSl fun w2 h => ?_
  refine h.dr fun w2 h => ?_
  refine h.ld0 (k := .i .i64) (x := iop) 1 rfl rfl ?_
  refine h.ld (n := 1) (k := .i .i64) (x := ia) 1 rfl rfl ?_
  refine copyR h 2 (u := tSl l 30 4 rtv gs) rfl Hp.rdSl (by rw [hgl]; exact hl) fun s w2 h => ?_
  have h : Hp [] w w2 [(tRd funcs 4 rtv fs).ro, tBlk ib 23 [.int .i64 iop, .int .i64 ia], tSl l 30 4 rtv gs, tSl s 30 4 rtv gs] := h
  refine ⟨h.cel0 1 rfl rfl, h.cel (n := 1) 1 rfl rfl, ?_⟩
  refine REffect_spec h 3 (u := tSl s 30 4 rtv gs) rfl Hp.rdSl fun w2 h => ?_
  refine ifT rfl (ifT (by simp) (ifT (by simp) ?_))
  refine Name_spec h fun w2 h => ?_
  refine RName_spec h fun w2 h => ?_
  refine ifT (by simp) ?_
  refine Number_spec h fun w2 h => ?_
  refine RNumber_spec h fun w2 h => ?_
  refine ifT (by simp) (ifT (by simp) ?_)
  have e : ∀ x : Int, (x == x) = true := fun x => by simp
  rw [e]
  exact hK w2 (frNil h.fr)
 ·obtain ⟨y, hy⟩ : ∃ y, gs[q]? = some y := ⟨gs[q]'(by omega), List.getElem?_eq_getElem (by omega)⟩
  refine ifT (by simp; omega) ?_
  have e1 : IntKind.i64.wrap ((q : Int) + 1) = ((q + 1 : Nat) : Int) := by rw [wr64 (by omega) (by omega)]; omega
  rw [e1]
  refine h.ixstm 2 (s := l) (l := gs) (f := rtv) (n := 4) (e := 30) (y := y) (y' := ⟨y.nm, ((q + 1 : Nat) : Int), y.lo, y.sl, y.code⟩) (m := 1) rfl (by omega) (by rw [Int.toNat_natCast]; exact hy) rtv_len (by decide) rfl rfl fun w3 h => ?_
  exact ⟨fs.length - (q + 1), by omega, q + 1, _, rfl, by omega, rfl, by simpa using hgl, h⟩
end
end Go.Proofs.YtmfgofbcnlkolaaGreatDoor.F
end

section
namespace Go.Den
open Go.RowKit
theorem calls_true {P : Program} {f : FuncId} {args : List Value} {w : World} (h : CallK P f args [.one .b] w (fun b w' => b = true ∧ Fr [] w w')) :
  Calls P f args.toArray w fun e w' => e = .returned (.bool true) ∧ Below w.heap.size w w' := by
 refine Calls.mono h fun e w' h => ?_
 obtain ⟨v, rfl, hv⟩ := h
 obtain ⟨x, rfl, rfl, hf⟩ : ∃ x, v = Value.bool x ∧ x = true ∧ Fr [] w w' := by
  have hv' : Kd.view .b v (fun x => x = true ∧ Fr [] w w') := hv
  cases v with
  | bool x => exact ⟨x, rfl, hv'.1, hv'.2⟩
  | _ => exact hv'.elim
 exact ⟨rfl, hf.below⟩
end Go.Den
end

section
namespace Go.Den
open Go.RowKit
mutual
def bulkD {H : Type} : DataW H → Nat
 | .lit (.string bytes) => bytes.length + 1
 | .lit _ => 1
 | .nil => 1
 | .ptr d => bulkD d + 1
 | .slice elems spare => bulkDAll elems + bulkDAll spare + 1
 | .agg parts => bulkDAll parts + 1
 | .iface _ d => bulkD d + 1
 | .map entries => bulkDEntries entries + 1
 | .held _ => 1
def bulkDAll {H : Type} : List (DataW H) → Nat
 | [] => 0
 | d :: r => bulkD d + bulkDAll r
def bulkDEntries {H : Type} : List (Lit × DataW H) → Nat
 | [] => 0
 | x :: r => bulkDEntry x + bulkDEntries r
def bulkDEntry {H : Type} : Lit × DataW H → Nat
  | (.string bytes, d) => bytes.length + bulkD d + 1
  | (_, d) => bulkD d + 1
 end
theorem bulkD_mem {H : Type} {d : DataW H} : ∀ {l : List (DataW H)}, d ∈ l → bulkD d ≤ bulkDAll l
 | x :: l, h => by
  rcases List.mem_cons.1 h with rfl | h
  ·simp only [bulkDAll]; omega
  ·have := bulkD_mem h
   simp only [bulkDAll]; omega
theorem bulkD_pos {H : Type} (d : DataW H) : 1 ≤ bulkD d := by
 cases d with
 | lit l => cases l <;> simp [bulkD]
 | _ => simp [bulkD]
theorem bulkD_len {H : Type} : ∀ l : List (DataW H), l.length ≤ bulkDAll l
 | [] => by simp [bulkDAll]
 | d :: l => by
  have := bulkD_len l
  have := bulkD_pos d
  simp only [bulkDAll, List.length_cons]; omega
def RdV (P : Program) (w : World) (B : Nat) : Nat → TypeId → List Value → Prop
 | 0, _, _ => False
 | n + 1, t, cs => match P.underlying t with
  | some .bool => ∃ b, cs = [.bool b]
  | some (.int k) => ∃ m, cs = [.int k m] ∧ (Lit.int k m).wf = true
  | some .string => ∃ s : ByteArray, cs = [.string s] ∧ s.size ≤ reachBytes ∧ s.size ≤ B
  | some (.slice e) => cs = [.slice none 0 0] ∨ ∃ a len cap, cs = [.slice (some a) len cap] ∧ len ≤ cap ∧ len * P.bytesOf e ≤ reachBytes ∧ len ≤ B ∧
    ∀ i, i < len → ∃ ci : List Value, ci.length = P.cellsOf e ∧ (∀ j, j < P.cellsOf e → w.cell? ((a.add (i * P.cellsOf e)).add j) = ci[j]?) ∧ RdV P w B n e ci
  | some (.struct fs) => cs.length = P.cellsOf t ∧ ∀ (i : Nat) (f : Field), fs[i]? = some f → RdV P w B n f.type ((cs.drop f.offset).take (P.cellsOf f.type))
  | some (.array m e) => cs.length = P.cellsOf t ∧ ∀ i, i < m → RdV P w B n e ((cs.drop (i * P.cellsOf e)).take (P.cellsOf e))
  | _ => True
section
variable {H : Type} {enc : TypeId × Value → H} {P : Program} {w : World} {base : Nat} {spare : Nat → Bool} {held : Bool}
theorem weights_all {e : TypeId} {d : DataW H} {k : Nat} : ∀ {l : List (DataW H)}, d ∈ l → k ∈ d.weights P e → k ∈ DataW.weightsAll P e l
 | x :: l, h, hk => by
  simp only [DataW.weightsAll, List.mem_append]
  rcases List.mem_cons.1 h with rfl | h
  ·exact .inl hk
  ·exact .inr (weights_all h hk)
theorem rd_of_trod (B : Nat) : ∀ (n : Nat) (t : TypeId) (cs : List Value) (d : DataW H) (ps : List MemPlace), DataW.trod enc P w base spare held n t cs = some (d, ps) → (∀ k ∈ d.weights P t, k ≤ reachBytes) → (maxLen ≤ B ∨ bulkD d ≤ B) → RdV P w B n t cs
 | 0, t, cs, d, ps, h, _, _ => by simp [DataW.trod] at h
 | n + 1, t, cs, d, ps, h, hw, hb => by
  have ih := rd_of_trod B n
  unfold RdV
  split
  ·rename_i hu
   obtain ⟨b, h1, _⟩ := DataW.trod_bool hu h
   exact ⟨b, h1⟩
  ·rename_i k hu
   obtain ⟨m, h1, _, h2⟩ := DataW.trod_int hu h
   exact ⟨m, h1, h2⟩
  ·rename_i hu
   obtain ⟨s, h1, h2, h3⟩ := DataW.trod_string hu h
   simp only [Prod.mk.injEq] at h2
   obtain ⟨rfl, _⟩ := h2
   have hl : s.data.toList.length = s.size := by rw [Array.length_toList]; rfl
   refine ⟨s, h1, ?_, ?_⟩
   ·have := hw s.data.toList.length (by unfold DataW.weights; exact List.mem_singleton.2 rfl)
    rw [hl] at this; exact this
   ·rcases hb with hb | hb
    ·exact Nat.le_trans h3 hb
    ·simp only [bulkD] at hb; rw [hl] at hb; omega
  ·rename_i e hu
   rcases DataW.trod_slice hu h with ⟨h1, _⟩ | ⟨a, len, cap, elems, rest, m, hm, h1, h2, hba, hl, hc, hlen, hel, _⟩
   ·exact .inl h1
   ·obtain rfl : m = n := by omega
    simp only [Prod.mk.injEq] at h2
    obtain ⟨rfl, _⟩ := h2
    refine .inr ⟨a, len, cap, h1, hl, ?_, ?_, ?_⟩
    ·have := hw ((elems.map (·.1)).length + (rest.map (·.1)).length |> (· * P.bytesOf e)) (by simp [DataW.weights, hu])
     simp only [List.length_map] at this
     have h3 : len * P.bytesOf e ≤ (elems.length + rest.length) * P.bytesOf e := Nat.mul_le_mul_right _ (by omega)
     exact Nat.le_trans h3 this
    ·rcases hb with hb | hb
     ·omega
     ·simp only [bulkD] at hb
      have := bulkD_len (elems.map (·.1))
      simp only [List.length_map] at this
      omega
    ·intro i hi
     have h3 := hel i hi
     have h4 : elems[i]? = some elems[i] := List.getElem?_eq_getElem (by omega)
     rw [h4, Option.bind_eq_some_iff] at h3
     obtain ⟨ci, hci, hd⟩ := h3
     obtain ⟨_, k1, k2⟩ := World.cells?_some hci
     have hmem : (elems[i]).1 ∈ elems.map (·.1) := List.mem_map.2 ⟨_, List.getElem_mem _, rfl⟩
     refine ⟨ci, k1, k2, ih e ci (elems[i]).1 (elems[i]).2 hd (fun k hk => hw k ?_) ?_⟩
     ·simp only [DataW.weights, hu, List.mem_cons, List.mem_append]
      exact .inr (.inl (weights_all hmem hk))
     ·refine hb.imp id fun hb => ?_
      have := bulkD_mem hmem
      simp only [bulkD] at hb
      omega
  ·rename_i fs hu
   obtain ⟨xs, m, hm, hx, hl, hxl, hf⟩ := DataW.trod_struct hu h
   obtain rfl : m = n := by omega
   simp only [Prod.mk.injEq] at hx
   obtain ⟨rfl, _⟩ := hx
   refine ⟨hl, fun i f hi => ?_⟩
   have hlt := (Array.getElem?_eq_some_iff.1 hi).1
   have h3 := hf i f hi
   have h4 : xs[i]? = some xs[i] := List.getElem?_eq_getElem (by omega)
   rw [h4] at h3
   have hmem : (xs[i]).1 ∈ xs.map (·.1) := List.mem_map.2 ⟨_, List.getElem_mem _, rfl⟩
   refine ih f.type _ (xs[i]).1 (xs[i]).2 h3 (fun k hk => hw k ?_) (hb.imp id fun hb => ?_)
   ·simp only [DataW.weights, hu]
    exact DataW.weights_mem_each (j := i) (t := f.type) (d := (xs[i]).1) (by simp [hi]) (by simp [show i < xs.length by omega]) k hk
   ·have := bulkD_mem hmem
    simp only [bulkD] at hb
    omega
  ·rename_i m' e hu
   obtain ⟨xs, m, hm, hx, hl, hxl, hf⟩ := DataW.trod_array hu h
   obtain rfl : m = n := by omega
   simp only [Prod.mk.injEq] at hx
   obtain ⟨rfl, _⟩ := hx
   refine ⟨hl, fun i hi => ?_⟩
   have h3 := hf i hi
   have h4 : xs[i]? = some xs[i] := List.getElem?_eq_getElem (by omega)
   rw [h4] at h3
   have hmem : (xs[i]).1 ∈ xs.map (·.1) := List.mem_map.2 ⟨_, List.getElem_mem _, rfl⟩
   refine ih e _ (xs[i]).1 (xs[i]).2 h3 (fun k hk => hw k ?_) (hb.imp id fun hb => ?_)
   ·simp only [DataW.weights, hu]
    exact weights_all hmem hk
   ·have := bulkD_mem hmem
    simp only [bulkD] at hb
    omega
  ·trivial
variable {B n : Nat} {t : TypeId} {cs : List Value}
theorem rd_int {k : IntKind} (hu : P.underlying t = some (.int k)) (h : RdV P w B n t cs) : ∃ m, cs = [.int k m] ∧ (Lit.int k m).wf = true := by
 cases n with
 | zero => exact h.elim
 | succ n => unfold RdV at h; rw [hu] at h; exact h
theorem rd_string (hu : P.underlying t = some .string) (h : RdV P w B n t cs) : ∃ s : ByteArray, cs = [.string s] ∧ s.size ≤ reachBytes ∧ s.size ≤ B := by
 cases n with
 | zero => exact h.elim
 | succ n => unfold RdV at h; rw [hu] at h; exact h
theorem rd_struct {fs : Array Field} (hu : P.underlying t = some (.struct fs)) (h : RdV P w B n t cs) : cs.length = P.cellsOf t ∧ ∃ m, ∀ (i : Nat) (f : Field), fs[i]? = some f → RdV P w B m f.type ((cs.drop f.offset).take (P.cellsOf f.type)) := by
 cases n with
 | zero => exact h.elim
 | succ n => unfold RdV at h; rw [hu] at h; exact ⟨h.1, n, h.2⟩
theorem rd_field {fs : Array Field} {m : Nat} (h : ∀ (i : Nat) (f : Field), fs[i]? = some f → RdV P w B m f.type ((cs.drop f.offset).take (P.cellsOf f.type))) (i : Nat) {ft off sz : Nat} (hi : (fs[i]?).map (fun f => (f.type, f.offset)) = some (ft, off)) (hs : P.cellsOf ft = sz) :
  RdV P w B m ft ((cs.drop off).take sz) := by
 rw [Option.map_eq_some_iff] at hi
 obtain ⟨f, h1, h2⟩ := hi
 simp only [Prod.mk.injEq] at h2
 obtain ⟨rfl, rfl⟩ := h2
 subst hs
 exact h i f h1
theorem rd_slice {α : Type} {f : α → List Value} {nn e : Nat} {G : α → Prop} (hu : P.underlying t = some (.slice e)) (hc : P.cellsOf e = nn) (hnn : 0 < nn) (hel : ∀ m ci, ci.length = nn → RdV P w B m e ci → ∃ x, ci = f x ∧ G x) (h : RdV P w B n t cs) :
  ∃ (s : Sl) (l : List α) (o : List Nat), cs = [.slice s.a s.len s.cap] ∧ SlR w s nn f l o ∧ (∀ x ∈ l, G x) ∧ l.length * P.bytesOf e ≤ reachBytes ∧ l.length ≤ B ∧ s.len ≤ s.cap := by
 cases n with
 | zero => exact h.elim
 | succ n =>
  unfold RdV at h
  rw [hu] at h
  rcases h with rfl | ⟨a, len, cap, rfl, h1, h2, h3, h4⟩
  ·exact ⟨⟨none, 0, 0⟩, [], [], rfl, SlR.nil rfl, by simp, by simp, by simp, Nat.le_refl _⟩
  ·rw [hc] at h4
   have hx : ∀ i, i < len → ∃ x : α, (∀ j, j < nn → w.cell? ((a.add (i * nn)).add j) = (f x)[j]?) ∧ (f x).length = nn ∧ G x := by
    intro i hi
    obtain ⟨ci, k1, k2, k3⟩ := h4 i hi
    obtain ⟨x, rfl, hg⟩ := hel n ci k1 k3
    exact ⟨x, k2, k1, hg⟩
   -- the list of them
   have build : ∀ k, k ≤ len → ∃ l : List α, l.length = k ∧ ∀ i, i < k → ∃ x, l[i]? = some x ∧ (∀ j, j < nn → w.cell? ((a.add (i * nn)).add j) = (f x)[j]?) ∧ (f x).length = nn ∧ G x := by
    intro k
    induction k with
    | zero => intro _; exact ⟨[], rfl, by intro i hi; omega⟩
    | succ k ih =>
     intro hk
     obtain ⟨l, q1, q2⟩ := ih (by omega)
     obtain ⟨x, q3⟩ := hx k (by omega)
     refine ⟨l ++ [x], by simp [q1], fun i hi => ?_⟩
     by_cases hik : i < k
     ·obtain ⟨y, r1, r2⟩ := q2 i hik
      exact ⟨y, by rw [List.getElem?_append_left (by omega)]; exact r1, r2⟩
     ·obtain rfl : i = k := by omega
      exact ⟨x, by rw [List.getElem?_append_right (by omega), q1, Nat.sub_self]; rfl, q3⟩
   obtain ⟨l, q1, q2⟩ := build len (Nat.le_refl _)
   have hG : ∀ x ∈ l, (f x).length = nn ∧ G x := by
    intro x hx
    obtain ⟨i, hi⟩ := List.getElem?_of_mem hx
    obtain ⟨y, r1, _, r3, r4⟩ := q2 i (by have := (List.getElem?_eq_some_iff.1 hi).1; omega)
    obtain rfl := Option.some.inj (hi.symm.trans r1)
    exact ⟨r3, r4⟩
   refine ⟨⟨some a, len, cap⟩, l, if len = 0 then [] else [a.block], rfl, ⟨q1, ?_⟩, fun x hx => (hG x hx).2, by rw [q1]; exact h2, by rw [q1]; exact h3, h1⟩
   by_cases h0 : len = 0
   ·exact .inl ⟨h0, by rw [if_pos h0]⟩
   ·refine .inr ⟨a, rfl, by rw [if_neg h0], ?_, ?_⟩
    ·obtain ⟨y, r1, r2, r3, _⟩ := q2 0 (by omega)
     have := r2 0 hnn
     rw [List.getElem?_eq_getElem (by omega)] at this
     have := World.block_lt_of_cell? w _ this
     rwa [Addr.add_block, Addr.add_block] at this
    ·-- cells of all elements
     have key : ∀ (l' : List α) (k : Nat), (∀ x ∈ l', (f x).length = nn) → (∀ i x, l'[i]? = some x → ∀ j, j < nn → w.cell? ((a.add ((k + i) * nn)).add j) = (f x)[j]?) → ∀ j u, (l'.flatMap f)[j]? = some u → w.cell? (a.add (k * nn + j)) = some u := by
      intro l'
      induction l' with
      | nil => intro k _ _ j u hj; simp at hj
      | cons x l' ih =>
       intro k hlen hcell j u hj
       rw [List.flatMap_cons] at hj
       by_cases hjn : j < nn
       ·rw [List.getElem?_append_left (by rw [hlen x (by simp)]; exact hjn)] at hj
        have := hcell 0 x rfl j hjn
        rw [Nat.add_zero, Addr.add_add_any] at this
        rw [this]; exact hj
       ·rw [List.getElem?_append_right (by rw [hlen x (by simp)]; omega), hlen x (by simp)] at hj
        have := ih (k + 1) (fun y hy => hlen y (by simp [hy])) (fun i y hy j hj => by
         have := hcell (i + 1) y (by simpa using hy) j hj
         rwa [show k + (i + 1) = k + 1 + i by omega] at this) (j - nn) u hj
        rw [show (k + 1) * nn + (j - nn) = k * nn + j by rw [Nat.add_mul, Nat.one_mul]; omega] at this
        exact this
     intro j u hj
     have := key l 0 (fun x hx => (hG x hx).1) (fun i x hi j hj => by
      obtain ⟨y, r1, r2, _⟩ := q2 i (by have := (List.getElem?_eq_some_iff.1 hi).1; omega)
      obtain rfl := Option.some.inj (hi.symm.trans r1)
      rw [Nat.zero_add]; exact r2 j hj) j u hj
     simpa using this
end
end Go.Den
end

section
namespace Go.Proofs.YtmfgofbcnlkolaaGreatDoor.FW
open F
open Go Go.Den Go.Proofs Go.RowKit
theorem und23s : Tryz.prog.underlying 23 = some (.struct (Tryz.prog.fieldsOf 23)) := by kernel_rfl
theorem und30s : Tryz.prog.underlying 30 = some (.struct (Tryz.prog.fieldsOf 30)) := by kernel_rfl
theorem undI3 : Tryz.prog.underlying 3 = some (.int .i64) := by kernel_rfl
theorem undI2 : Tryz.prog.underlying 2 = some (.int .i64) := by kernel_rfl
theorem und28s : Tryz.prog.underlying 28 = some (.slice 23) := by kernel_rfl
theorem cel2 : Tryz.prog.cellsOf 2 = 1 := by kernel_rfl
theorem cel3 : Tryz.prog.cellsOf 3 = 1 := by kernel_rfl
theorem cel9 : Tryz.prog.cellsOf 9 = 1 := by kernel_rfl
theorem cel23 : Tryz.prog.cellsOf 23 = 2 := by kernel_rfl
theorem cel28 : Tryz.prog.cellsOf 28 = 1 := by kernel_rfl
theorem cel30 : Tryz.prog.cellsOf 30 = 4 := by kernel_rfl
theorem byt23 : Tryz.prog.bytesOf 23 = 16 := by kernel_rfl
theorem byt30 : Tryz.prog.bytesOf 30 = 56 := by kernel_rfl
theorem wf_rng {x : Int} (h : (Lit.int .i64 x).wf = true) : -9223372036854775808 ≤ x ∧ x ≤ 9223372036854775807 := by
 have hm : IntKind.i64.min ≤ x ∧ x ≤ IntKind.i64.max := by simpa [Lit.wf] using h
 have h1 : IntKind.i64.min = -9223372036854775808 := by decide
 have h2 : IntKind.i64.max = 9223372036854775807 := by decide
 omega
theorem dec_ins {w : World} {B m : Nat} {ci : List Value} (hl : ci.length = 2) (h : RdV Tryz.prog w B m 23 ci) : ∃ x : Ins, ci = insv x ∧ (-9223372036854775808 ≤ x.2 ∧ x.2 ≤ 9223372036854775807) := by
 obtain ⟨_, q, hf⟩ := rd_struct und23s h
 match ci, hl with
 | [c0, c1], _ =>
  obtain ⟨m0, e0, h0⟩ := rd_int undI3 (rd_field hf 0 (ft := 3) (off := 0) (sz := 1) (by kernel_rfl) cel3)
  obtain ⟨m1, e1, h1⟩ := rd_int undI2 (rd_field hf 1 (ft := 2) (off := 1) (sz := 1) (by kernel_rfl) cel2)
  simp only [List.drop_zero, List.drop_succ_cons, List.take_succ_cons, List.take_zero, List.cons.injEq, and_true] at e0 e1
  subst e0 e1
  exact ⟨(m0, m1), rfl, wf_rng h1⟩
theorem dec_code {w : World} {B n : Nat} {cs : List Value} (h : RdV Tryz.prog w B n 28 cs) : ∃ (s : Sl) (l : List Ins), cs = [.slice s.a s.len s.cap] ∧ (∃ o, SlR w s 2 insv l o) ∧ l.length ≤ 8796093022208 ∧ ∀ x ∈ l, -9223372036854775808 ≤ x.2 ∧ x.2 ≤ 9223372036854775807 := by
 obtain ⟨s, l, o, h1, h2, h3, hb, h4, h5⟩ := rd_slice (f := insv) (G := fun x => -9223372036854775808 ≤ x.2 ∧ x.2 ≤ 9223372036854775807) und28s cel23 (by omega) (fun m ci hl hr => dec_ins hl hr) h
 rw [byt23] at hb
 unfold reachBytes at hb
 exact ⟨s, l, h1, ⟨o, h2⟩, by omega, h3⟩
theorem dec_rt {w : World} {B m : Nat} {ci : List Value} (hl : ci.length = 4) (h : RdV Tryz.prog w B m 30 ci) : ∃ x : RV, ci = rtv x ∧ x.r.Ok ∧ (∃ o, SlR w x.sl 2 insv x.code o) ∧ x.nm.size ≤ 140737488355328 ∧ (-9223372036854775808 ≤ x.pa ∧ x.pa ≤ 9223372036854775807) ∧ (-9223372036854775808 ≤ x.lo ∧ x.lo ≤ 9223372036854775807) := by
 obtain ⟨_, q, hf⟩ := rd_struct und30s h
 match ci, hl with
 | [c0, c1, c2, c3], _ =>
  obtain ⟨m0, e0, h0, _⟩ := rd_string und9 (rd_field hf 0 (ft := 9) (off := 0) (sz := 1) (by kernel_rfl) cel9)
  obtain ⟨m1, e1, h1⟩ := rd_int undI3 (rd_field hf 1 (ft := 3) (off := 1) (sz := 1) (by kernel_rfl) cel3)
  obtain ⟨m2, e2, h2⟩ := rd_int undI3 (rd_field hf 2 (ft := 3) (off := 2) (sz := 1) (by kernel_rfl) cel3)
  obtain ⟨s, l, e3, h3, h4, h5⟩ := dec_code (rd_field hf 3 (ft := 28) (off := 3) (sz := 1) (by kernel_rfl) cel28)
  simp only [List.drop_zero, List.drop_succ_cons, List.take_succ_cons, List.take_zero, List.cons.injEq, and_true] at e0 e1 e2 e3
  subst e0 e1 e2 e3
  unfold reachBytes at h0
  exact ⟨⟨m0, m1, m2, s, l⟩, rfl, ⟨by show l.length ≤ _; omega, h5⟩, h3, by show m0.size ≤ _; omega, wf_rng h1, wf_rng h2⟩
theorem dec_rts {w : World} {B n : Nat} {cs : List Value} (h : RdV Tryz.prog w B n 24 cs) : ∃ (s : Sl) (l : List RV), cs = [.slice s.a s.len s.cap] ∧ (∃ o, SlR w s 4 rtv l o) ∧ l.length * 56 ≤ 140737488355328 ∧ ∀ x ∈ l, x.r.Ok ∧ (∃ o, SlR w x.sl 2 insv x.code o) ∧ x.nm.size ≤ 140737488355328 ∧ (-9223372036854775808 ≤ x.pa ∧ x.pa ≤ 9223372036854775807) ∧ (-9223372036854775808 ≤ x.lo ∧ x.lo ≤ 9223372036854775807) := by
 obtain ⟨s, l, o, h1, h2, h3, hb, h4, h5⟩ := rd_slice (f := rtv) (G := fun x => x.r.Ok ∧ (∃ o, SlR w x.sl 2 insv x.code o) ∧ x.nm.size ≤ 140737488355328 ∧ (-9223372036854775808 ≤ x.pa ∧ x.pa ≤ 9223372036854775807) ∧ (-9223372036854775808 ≤ x.lo ∧ x.lo ≤ 9223372036854775807)) und24 cel30 (by omega) (fun m ci hl hr => dec_rt hl hr) h
 rw [byt30] at hb
 unfold reachBytes at hb
 exact ⟨s, l, h1, ⟨o, h2⟩, by omega, h3⟩
theorem words_call {w : World} (hG : Glob w) {B n B' n' : Nat} {op : Int} {name : ByteArray} {cs : Array Value} {a : Option Addr} {len cap : Nat} (hc : cs.toList.length = 2) (h : RdV Tryz.prog w B n 23 cs.toList) (h' : RdV Tryz.prog w B' n' 24 [.slice a len cap]) :
  Calls Tryz.prog 3 #[.int .i64 op, .string name, .agg cs, .slice a len cap] w fun e w' => e = .returned (.bool true) ∧ Below w.heap.size w w' := by
 obtain ⟨x, hx, _⟩ := dec_ins hc h
 obtain ⟨s, l, g1, g2, g3, _⟩ := dec_rts h'
 simp only [List.cons.injEq, Value.slice.injEq, and_true] at g1
 obtain ⟨rfl, rfl, rfl⟩ := g1
 have e : cs = #[.int .i64 x.1, .int .i64 x.2] := by
  apply Array.toList_inj.1
  exact hx
 subst e
 exact calls_true (words_spec (op := op) (iop := x.1) (ia := x.2) (name := name) (funcs := s) hG g2 g3 fun w' hf => ⟨rfl, hf.fr⟩)
def pow10s : List Int := [1, 10, 100, 1000, 10000, 100000, 1000000, 10000000, 100000000, 1000000000, 10000000000, 100000000000, 1000000000000, 10000000000000, 100000000000000, 1000000000000000, 10000000000000000, 100000000000000000, 1000000000000000000, 10000000000000000000]
theorem gP : Tryz.prog.globalNamed "internal/strconv.uint64pow10" = some 1 := by kernel_rfl
theorem und39' : (match Tryz.prog.underlying 39 with | some (.interface _) => true | _ => false) = true := by kernel_rfl
theorem und39i : ∃ ms : Array (String × TypeId), Tryz.prog.underlying 39 = some (.interface ms) := by
 have h := und39'
 split at h
 ·exact ⟨_, by assumption⟩
 ·cases h
theorem starE : "*errors.errorString" = "*" ++ "errors.errorString" := by decide
theorem row191 (u : TypeId) (h : Tryz.prog.typeName? 3 u = some "*errors.errorString") : u = 191 :=
 typeName_ptr_named (nm := "errors.errorString") (by rw [← starE]; kernel_rfl) (by kernel_rfl) (by decide) u (by rw [← starE]; exact h)
theorem und191 : Tryz.prog.underlying 191 = some (.pointer 193) := by kernel_rfl
theorem und193 : Tryz.prog.underlying 193 = some (.struct #[⟨"s", 9, 0, false, "", "errors", 0⟩]) := by kernel_rfl
theorem cel193 : Tryz.prog.cellsOf 193 = 1 := by kernel_rfl
theorem gS : Tryz.prog.globalNamed "strconv.ErrSyntax" = some 2 := by kernel_rfl
theorem gR : Tryz.prog.globalNamed "strconv.ErrRange" = some 3 := by kernel_rfl
theorem gST : (Tryz.prog.globals[2]?).map (·.type) = some 39 := by kernel_rfl
theorem gRT : (Tryz.prog.globals[3]?).map (·.type) = some 39 := by kernel_rfl
theorem gPT : (Tryz.prog.globals[1]?).map (·.type) = some 165 := by kernel_rfl
theorem glob_of {w : World} (hs : w.ShapedOpen Tryz.prog) (ht : TabW w) (h2 : ∃ a : Addr, w.var? Tryz.prog "strconv.ErrSyntax" = some #[.iface 191 (.pointer (some a))]) (h3 : ∃ a : Addr, w.var? Tryz.prog "strconv.ErrRange" = some #[.iface 191 (.pointer (some a))]) : Glob w := by
 obtain ⟨a, ha⟩ := h2
 obtain ⟨b, hb⟩ := h3
 exact ⟨ht, cell_of_shapedOpen_int (g := 0) (t := 3) (zero := #[.int .i64 0]) hs (by rw [show Tryz.prog.globals.size = 8 by kernel_rfl]; decide) (by kernel_rfl) rfl (by kernel_rfl) (by kernel_rfl) undI3,
  ⟨.iface 191 (.pointer (some a)), World.var?_cell gS ha 0, .inr ⟨_, _, rfl⟩⟩,
  ⟨.iface 191 (.pointer (some b)), World.var?_cell gR hb 0, .inr ⟨_, _, rfl⟩⟩⟩
end Go.Proofs.YtmfgofbcnlkolaaGreatDoor.FW
end
