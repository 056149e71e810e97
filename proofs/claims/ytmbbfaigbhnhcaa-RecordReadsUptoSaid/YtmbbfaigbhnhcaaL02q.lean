/-
  The walk of RecordReads: Walk, twice, stopped, and within itself.
-/
import Derived.Test.YtmbbfaigbhnhcaaC02l
import Derived.Test.YtmbbfaigbhnhcaaF02r
import Derived.Test.YtmbbfaigbhnhcaaL02p
set_option linter.unusedSimpArgs false
set_option linter.unusedVariables false
set_option maxRecDepth 100000
namespace Go.Proofs.Ytmbbfaigbhnhcaa.F
open Go Go.Den Go.Proofs

/-- The tail of scanned's formula. -/
def tailF (stop2 a all2 walk2 : Addr) (kept5 : Sl) (w : World) (R : Bool → World → Prop) : Prop :=
  Nw (.cells #[.slice none 0 0, .slice none 0 0] 55) w fun (told : Addr) (w : World) =>
  Nw (.cells #[.int .i64 0] 3) w fun (turn : Addr) (w : World) =>
  St turn (.int .i64 0) w fun (w : World) =>
  ∃ Inv_6 : Option Addr → List Nat → Nat → World → Prop, (∃ n : Nat, Inv_6 (some turn) [] n w) ∧ ∀ turn2 : Option Addr, ∀ ms : List Nat, ∀ m12 : Nat, ∀ w : World, Inv_6 turn2 ms m12 w → (NN turn2 fun (a12 : Addr) =>
  Ld (.i .i64) w a12 fun (x26 : Int) =>
  if (decide (x26 < 2)) = true then (∃ J_4 : List Nat → World → Prop, (Nw (.cells #[.int .i64 0] 3) w fun (i6 : Addr) (w : World) =>
  St i6 (.int .i64 0) w fun (w : World) =>
  Nw (.cells #[.int .i64 0] 3) w fun (place : Addr) (w : World) =>
  St place (.int .i64 0) w fun (w : World) =>
  Ld .v w walk2 fun (walk4 : Value) =>
  RangeK2 Try.prog (walk4) [.i .i64, .sl] (fun (L : Nat) (at_ : Int) (data : Sl) (C : BodyK) => ∀ w : World, (Exit.normal = Exit.normal ∧ w = w ∧ C fun (w : World) (post : Exit → World → Prop) =>
  ∃ J_5 : World → Prop, (NN turn2 fun (a13 : Addr) =>
  Ld (.i .i64) w a13 fun (x27 : Int) =>
  if (x27 == 0) = true then (Ld (.i .i64) w i6 fun (i7 : Int) =>
  Ld (.i .i64) w stop2 fun (stop3 : Int) =>
  if (i7 == stop3) = true then (post (.exit 12) w) else (J_5  w)) else (J_5  w)) ∧ ∀ w : World, J_5  w → (∃ J_6 : World → Prop, (Dr w fun (w : World) =>
  Ld (.i .i64) w i6 fun (i8 : Int) =>
  Ld .sl w all2 fun (all10 : Sl) =>
  if (decide (i8 ≥ (all10.len : Int))) = true then (St a (.bool false) w fun (w : World) =>
  post .ret w) else (Ld (.i .i64) w place fun (place2 : Int) =>
  if (at_ != place2) = true then (St a (.bool false) w fun (w : World) =>
  post .ret w) else (RdB w ⟨data.a, data.len, data.cap⟩ fun (x28 : ByteArray) =>
  Ld .sl w all2 fun (all11 : Sl) =>
  Ld (.i .i64) w i6 fun (i9 : Int) =>
  Ix all11.a all11.len i9 1 fun (a14 : Addr) =>
  Ld .sl w a14 fun (x29 : Sl) =>
  RdB w ⟨x29.a, x29.len, x29.cap⟩ fun (x30 : ByteArray) =>
  if (!(x28.toList == x30.toList)) = true then (St a (.bool false) w fun (w : World) =>
  post .ret w) else (J_6  w)))) ∧ ∀ w : World, J_6  w → (∃ J_7 : List Nat → World → Prop, (∃ J_8 : Bool → World → Prop, (NN turn2 fun (a15 : Addr) =>
  Ld (.i .i64) w a15 fun (x31 : Int) =>
  if (x31 == 1) = true then (Ld (.i .i64) w i6 fun (i10 : Int) =>
  Ld (.i .i64) w stop2 fun (stop4 : Int) =>
  J_8 (i10 == stop4) w) else (J_8 false w)) ∧ ∀ t369 : Bool, ∀ w : World, J_8 t369 w → (if t369 = true then (Nw (.cells #[.int .i64 0] 3) w fun (n_2 : Addr) (w : World) =>
  St n_2 (.int .i64 0) w fun (w : World) =>
  Ld .v w walk2 fun (walk5 : Value) =>
  RangeN Try.prog L (walk5) [.v, .v] (fun (L2 : Nat) (x32 : Value) (x33 : Value) (C2 : BodyK) => ∀ w : World, (Exit.normal = Exit.normal ∧ w = w ∧ C2 fun (w : World) (post2 : Exit → World → Prop) =>
  Ld (.i .i64) w n_2 fun (n_3 : Int) =>
  St n_2 (.int .i64 (IntKind.i64.wrap (n_3 + 1))) w fun (w : World) =>
  post2 .normal w)) w (fun (w : World) =>
  Ld (.i .i64) w n_2 fun (n_4 : Int) =>
  Ld .sl w all2 fun (all12 : Sl) =>
  if (n_4 != (all12.len : Int)) = true then (St a (.bool false) w fun (w : World) =>
  post .ret w) else (J_7  [] w)) (fun (w : World) =>
  post .ret w) []) else (J_7  [] w))) ∧ ∀ ms2 : List Nat, ∀ w : World, J_7 ms2 w → (Ld .sl w all2 fun (all13 : Sl) =>
  Ld (.i .i64) w i6 fun (i11 : Int) =>
  Ix all13.a all13.len i11 1 fun (a16 : Addr) =>
  Ld .sl w a16 fun (x34 : Sl) =>
  c25 x34 w fun (made : Sl) (w : World) =>
  Ld (.i .i64) w place fun (place3 : Int) =>
  St place (.int .i64 (IntKind.i64.wrap (place3 + (made.len : Int)))) w fun (w : World) =>
  Dr w fun (w : World) =>
  NN turn2 fun (a17 : Addr) =>
  Ld (.i .i64) w a17 fun (x35 : Int) =>
  NN turn2 fun (a18 : Addr) =>
  Ld (.i .i64) w a18 fun (x36 : Int) =>
  IxA told 2 x36 1 fun (a19 : Addr) =>
  Ld .sl w a19 fun (x37 : Sl) =>
  Nw (.cells #[.slice data.a data.len data.cap] 22) w fun (b4 : Addr) (w : World) =>
  Run .sl Try.prog (Builtin.append_ #[34, 34] 34 #[.slice x37.a x37.len x37.cap, .slice (some b4) 1 1]) w fun (s8 : Sl) (w : World) =>
  w.cell? a17 = some (.int .i64 x35) ∧ (IxA told 2 x35 1 fun (a20 : Addr) =>
  St a20 (.slice s8.a s8.len s8.cap) w fun (w : World) =>
  Ld (.i .i64) w i6 fun (i12 : Int) =>
  St i6 (.int .i64 (IntKind.i64.wrap (i12 + 1))) w fun (w : World) =>
  post .normal w)))))) w (fun (D : Nat) (w : World) =>
  NN turn2 fun (a25 : Addr) =>
  Ld (.i .i64) w a25 fun (x42 : Int) =>
  if (x42 == 0) = true then (Ld (.i .i64) w i6 fun (i18 : Int) =>
  Ld (.i .i64) w stop2 fun (stop6 : Int) =>
  if (i18 != stop6) = true then (Ld (.i .i64) w i6 fun (i19 : Int) =>
  Ld .sl w all2 fun (all18 : Sl) =>
  if (i19 != (all18.len : Int)) = true then (St a (.bool false) w fun (w : World) =>
  EndM (D :: ms) w fun (w : World) =>
  Ld .b w a fun (r28 : Bool) =>
  R r28 w) else (NN turn2 fun (a26 : Addr) =>
  Ld (.i .i64) w a26 fun (x43 : Int) =>
  if (x43 == 1) = true then (Ld (.i .i64) w i6 fun (i20 : Int) =>
  Ld .sl w all2 fun (all19 : Sl) =>
  if (i20 != (all19.len : Int)) = true then (St a (.bool false) w fun (w : World) =>
  EndM (D :: ms) w fun (w : World) =>
  Ld .b w a fun (r29 : Bool) =>
  R r29 w) else (J_4  (D :: []) w)) else (J_4  (D :: []) w))) else (NN turn2 fun (a27 : Addr) =>
  Ld (.i .i64) w a27 fun (x44 : Int) =>
  if (x44 == 1) = true then (Ld (.i .i64) w i6 fun (i21 : Int) =>
  Ld .sl w all2 fun (all20 : Sl) =>
  if (i21 != (all20.len : Int)) = true then (St a (.bool false) w fun (w : World) =>
  EndM (D :: ms) w fun (w : World) =>
  Ld .b w a fun (r30 : Bool) =>
  R r30 w) else (J_4  (D :: []) w)) else (J_4  (D :: []) w))) else (NN turn2 fun (a28 : Addr) =>
  Ld (.i .i64) w a28 fun (x45 : Int) =>
  if (x45 == 1) = true then (Ld (.i .i64) w i6 fun (i22 : Int) =>
  Ld .sl w all2 fun (all21 : Sl) =>
  if (i22 != (all21.len : Int)) = true then (St a (.bool false) w fun (w : World) =>
  EndM (D :: ms) w fun (w : World) =>
  Ld .b w a fun (r31 : Bool) =>
  R r31 w) else (J_4  (D :: []) w)) else (J_4  (D :: []) w))) (fun (D : Nat) (w : World) =>
  EndM (D :: ms) w fun (w : World) =>
  Ld .b w a fun (r32 : Bool) =>
  R r32 w) [(12, fun (D : Nat) (w : World) =>
  NN turn2 fun (a21 : Addr) =>
  Ld (.i .i64) w a21 fun (x38 : Int) =>
  if (x38 == 0) = true then (Ld (.i .i64) w i6 fun (i13 : Int) =>
  Ld (.i .i64) w stop2 fun (stop5 : Int) =>
  if (i13 != stop5) = true then (Ld (.i .i64) w i6 fun (i14 : Int) =>
  Ld .sl w all2 fun (all14 : Sl) =>
  if (i14 != (all14.len : Int)) = true then (St a (.bool false) w fun (w : World) =>
  EndM (D :: ms) w fun (w : World) =>
  Ld .b w a fun (r24 : Bool) =>
  R r24 w) else (NN turn2 fun (a22 : Addr) =>
  Ld (.i .i64) w a22 fun (x39 : Int) =>
  if (x39 == 1) = true then (Ld (.i .i64) w i6 fun (i15 : Int) =>
  Ld .sl w all2 fun (all15 : Sl) =>
  if (i15 != (all15.len : Int)) = true then (St a (.bool false) w fun (w : World) =>
  EndM (D :: ms) w fun (w : World) =>
  Ld .b w a fun (r25 : Bool) =>
  R r25 w) else (J_4  (D :: []) w)) else (J_4  (D :: []) w))) else (NN turn2 fun (a23 : Addr) =>
  Ld (.i .i64) w a23 fun (x40 : Int) =>
  if (x40 == 1) = true then (Ld (.i .i64) w i6 fun (i16 : Int) =>
  Ld .sl w all2 fun (all16 : Sl) =>
  if (i16 != (all16.len : Int)) = true then (St a (.bool false) w fun (w : World) =>
  EndM (D :: ms) w fun (w : World) =>
  Ld .b w a fun (r26 : Bool) =>
  R r26 w) else (J_4  (D :: []) w)) else (J_4  (D :: []) w))) else (NN turn2 fun (a24 : Addr) =>
  Ld (.i .i64) w a24 fun (x41 : Int) =>
  if (x41 == 1) = true then (Ld (.i .i64) w i6 fun (i17 : Int) =>
  Ld .sl w all2 fun (all17 : Sl) =>
  if (i17 != (all17.len : Int)) = true then (St a (.bool false) w fun (w : World) =>
  EndM (D :: ms) w fun (w : World) =>
  Ld .b w a fun (r27 : Bool) =>
  R r27 w) else (J_4  (D :: []) w)) else (J_4  (D :: []) w)))]) ∧ ∀ ms3 : List Nat, ∀ w : World, J_4 ms3 w → (NN turn2 fun (a29 : Addr) =>
  Ld (.i .i64) w a29 fun (x46 : Int) =>
  Nw (.cells #[.int .i64 0] 3) w fun (turn3 : Addr) (w : World) =>
  St turn3 (.int .i64 x46) w fun (w : World) =>
  Ld (.i .i64) w turn3 fun (x47 : Int) =>
  St turn3 (.int .i64 (IntKind.i64.wrap (x47 + 1))) w fun (w : World) =>
  ∃ m13 : Nat, m13 < m12 ∧ Inv_6 (some turn3) (ms3 ++ ms) m13 w)) else (∃ Inv_7 : Sl → Int → Nat → World → Prop, (∃ n : Nat, Inv_7 kept5 0 n w) ∧ ∀ kept7 : Sl, ∀ i23 : Int, ∀ m14 : Nat, ∀ w : World, Inv_7 kept7 i23 m14 w → (IxA told 2 0 1 fun (a30 : Addr) =>
  Ld .sl w a30 fun (x48 : Sl) =>
  if (decide (i23 < (x48.len : Int))) = true then (IxA told 2 0 1 fun (a31 : Addr) =>
  Ld .sl w a31 fun (x49 : Sl) =>
  Ix x49.a x49.len i23 1 fun (a32 : Addr) =>
  Ld .sl w a32 fun (x50 : Sl) =>
  c14 kept7 x50 w fun (kept8 : Sl) (w : World) =>
  ∃ m15 : Nat, m15 < m14 ∧ Inv_7 kept8 (IntKind.i64.wrap (i23 + 1)) m15 w) else (∃ Inv_8 : Sl → Int → Nat → World → Prop, (∃ n : Nat, Inv_8 kept7 0 n w) ∧ ∀ kept9 : Sl, ∀ i24 : Int, ∀ m16 : Nat, ∀ w : World, Inv_8 kept9 i24 m16 w → (IxA told 2 1 1 fun (a33 : Addr) =>
  Ld .sl w a33 fun (x51 : Sl) =>
  if (decide (i24 < (x51.len : Int))) = true then (Dr w fun (w : World) =>
  IxA told 2 1 1 fun (a34 : Addr) =>
  Ld .sl w a34 fun (x52 : Sl) =>
  Ix x52.a x52.len i24 1 fun (a35 : Addr) =>
  Ld .sl w a35 fun (x53 : Sl) =>
  RdB w ⟨x53.a, x53.len, x53.cap⟩ fun (x54 : ByteArray) =>
  Ld .sl w all2 fun (all22 : Sl) =>
  Ix all22.a all22.len i24 1 fun (a36 : Addr) =>
  Ld .sl w a36 fun (x55 : Sl) =>
  RdB w ⟨x55.a, x55.len, x55.cap⟩ fun (x56 : ByteArray) =>
  if (!(x54.toList == x56.toList)) = true then (St a (.bool false) w fun (w : World) =>
  EndM ms w fun (w : World) =>
  Ld .b w a fun (r33 : Bool) =>
  R r33 w) else (IxA told 2 1 1 fun (a37 : Addr) =>
  Ld .sl w a37 fun (x57 : Sl) =>
  Ix x57.a x57.len i24 1 fun (a38 : Addr) =>
  Ld .sl w a38 fun (x58 : Sl) =>
  c14 kept9 x58 w fun (kept10 : Sl) (w : World) =>
  ∃ m17 : Nat, m17 < m16 ∧ Inv_8 kept10 (IntKind.i64.wrap (i24 + 1)) m17 w)) else (c15 kept9 w fun (r34 : Bool) (w : World) =>
  St a (.bool r34) w fun (w : World) =>
  EndM ms w fun (w : World) =>
  Ld .b w a fun (r35 : Bool) =>
  R r35 w))))))

/-- What stays. -/
structure Fix where
  stop : Int
  stop2 : Nat
  a : Nat
  all2 : Nat
  bo : Nat
  walk2 : Nat
  kept : Sl
  all : Sl
  wall : Sl
  es : List Ow
  kA : List (Sl × List Int)
  bs : List Int
  O : List Nat
def wv (bo : Nat) : Value := .func (.func 33) #[] #[.pointer (some ⟨bo, 0, none⟩)]
def toldc (t : Nat) (c o : Sl) : List Value := if t = 0 then [.slice c.a c.len c.cap, .slice o.a o.len o.cap] else [.slice o.a o.len o.cap, .slice c.a c.len c.cap]
def Fix.ls (X : Fix) (told : Nat) (cells : List Value) (c : Sl) (kC : List (Sl × List Int)) (o : Sl) (kO : List (Sl × List Int)) (ms : List Nat) (tb : Nat) (t : Nat) (more : List Thing) : List Thing :=
  tBlk X.stop2 3 [.int .i64 X.stop] :: tBlk X.a 4 [.bool false] :: tSl X.kept 52 2 owv X.es :: tBag X.es :: tSl X.all 22 1 slv (X.kA.map (·.1)) :: tAll (X.kA.map inA) :: tBlk X.all2 34 (slv X.all) :: tWalk X.bo X.wall X.bs X.O :: tBlk X.walk2 45 [wv X.bo] ::
  tBlk told 55 cells :: tSl c 22 1 slv (kC.map (·.1)) :: tAll (kC.map inA) :: tSl o 22 1 slv (kO.map (·.1)) :: tAll (kO.map inA) :: tAll (ms.map Hp.tD) :: tBlk tb 3 [.int .i64 (t : Nat)] :: more

section
variable {S : List Nat} {w0 w : World} {its : List Thing}

theorem at_of {k : List (Sl × List Int)} {R : List (List Int)} (e : k.map (·.2) = R) {q : Nat} (hq : q < R.length) : ∃ y, k[q]? = some (y, R[q]) ∧ (k.map (·.1))[((q : Nat) : Int).toNat]? = some y := by
  subst e
  have hqk : q < k.length := by simpa using hq
  refine ⟨k[q].1, ?_, ?_⟩
  · rw [List.getElem?_eq_getElem hqk, List.getElem_map]
  · rw [Int.toNat_natCast, List.getElem?_map, List.getElem?_eq_getElem hqk]; rfl

set_option maxHeartbeats 8000000 in
theorem tail_spec (X : Fix) (h : Hp S w0 w [tBlk X.stop2 3 [.int .i64 X.stop], tBlk X.a 4 [.bool false], tSl X.kept 52 2 owv X.es, tBag X.es, tSl X.all 22 1 slv (X.kA.map (·.1)), tAll (X.kA.map inA), tBlk X.all2 34 (slv X.all), tWalk X.bo X.wall X.bs X.O, tBlk X.walk2 45 [wv X.bo]])
    (hb : Bytes X.bs) (hbl : X.bs.length ≤ 1048576) (hkA : X.kA.map (·.2) = recs X.bs) (hwc : X.wall.len ≤ X.wall.cap) (hes : X.es.length ≤ 10000000) {K : Bool → World → Prop} (hK : ∀ w', Fr S w0 w' → K true w') :
    tailF ⟨X.stop2, 0, none⟩ ⟨X.a, 0, none⟩ ⟨X.all2, 0, none⟩ ⟨X.walk2, 0, none⟩ X.kept w K := by
  unfold tailF
  obtain ⟨inf, q1, q2, q3, q4⟩ := inf22
  have hfar := (recs_far X.bs hb).1
  have hfle := hfar.le
  have hn6 : 6 * (recs X.bs).length ≤ tot (recs X.bs) := by
    generalize recs X.bs = R
    induction R with
    | nil => simp
    | cons d R ih => rw [tot_cons, List.length_cons]; have := madeU_pos d; omega
  have hrok := hfar.ok
  have hal := h.len (s := X.all) 4 rfl
  have hkAl : X.kA.length = (recs X.bs).length := by rw [← hkA, List.length_map]
  rw [List.length_map, hkAl] at hal
  obtain ⟨R, hR⟩ : ∃ R, R = recs X.bs := ⟨_, rfl⟩
  rw [← hR] at hfle hn6 hrok hal hkAl hkA
  have hRn : R.length ≤ 174763 := by omega
  have htt : ∀ q, tot (R.take q) ≤ tot R := fun q => by
    conv => rhs; rw [← List.take_append_drop q R]
    rw [tot_app]; omega
  have hRb : ∀ {q : Nat} (hq : q < R.length), Bytes R[q] ∧ okD R[q] := fun hq => ⟨(hrok _ (List.getElem_mem hq)).2, (hrok _ (List.getElem_mem hq)).1⟩
  refine h.nw (c := [_, _]) fun told w1 h => ?_
  refine h.nw (c := [_]) fun tb0 w2 h => ?_
  simp only [List.cons_append, List.nil_append] at h
  refine h.st0 10 rfl (by simp) rfl fun w3 h => ?_
  have h := (h.nil 22 1 slv).nil 22 1 slv
  have h := h.grow (Fr.refl _ _) (t := tAll []) (O := []) rfl (by simp) rfl
  have h := h.grow (Fr.refl _ _) (t := tAll []) (O := []) rfl (by simp) rfl
  have h := h.grow (Fr.refl _ _) (t := tAll []) (O := []) rfl (by simp) rfl
  have h : Hp S w0 w3 (X.ls told [.slice none 0 0, .slice none 0 0] nilS [] nilS [] [] tb0 0 []) :=
    h.selL [0, 1, 2, 3, 4, 5, 6, 7, 8, 9, 11, 13, 12, 14, 15, 10] (by decide) rfl
  refine ⟨fun turn2 ms mm w' => ∃ (t tb : Nat) (T0 T1 : Sl) (k0 k1 : List (Sl × List Int)), turn2 = some ⟨tb, 0, none⟩ ∧ t ≤ 2 ∧ mm = 2 - t ∧ (∃ q, k0.map (·.2) = R.take q) ∧ (t = 2 → k1.map (·.2) = R) ∧ (t < 2 → k1 = [] ∧ T1 = nilS) ∧ (t = 0 → k0 = [] ∧ T0 = nilS) ∧
    Hp S w0 w' (X.ls told [.slice T0.a T0.len T0.cap, .slice T1.a T1.len T1.cap] T0 k0 T1 k1 ms tb t []), ⟨2, 0, tb0, nilS, nilS, [], [], rfl, by omega, rfl, ⟨0, by simp⟩, by omega, fun _ => ⟨rfl, rfl⟩, fun _ => ⟨rfl, rfl⟩, h⟩, ?_⟩
  clear h
  rintro turn2 ms mm w4 ⟨t, tb, T0, T1, k0, k1, rfl, ht, rfl, ⟨q0, hk0⟩, hk1, hT1, hT0, h⟩
  refine nns ?_
  refine h.ld0 15 (k := .i .i64) rfl rfl ?_
  by_cases ht2 : t < 2
  · refine ifT (by simp; omega) ?_
    obtain ⟨c, o, kO, hc0, hO1, hO0, h⟩ : ∃ (c o : Sl) (kO : List (Sl × List Int)), c = nilS ∧ (t = 1 → kO.map (·.2) = R.take q0) ∧ (t = 0 → kO = [] ∧ o = nilS) ∧ Hp S w0 w4 (X.ls told (toldc t c o) c [] o kO ms tb t []) := by
      obtain ⟨rfl, rfl⟩ := hT1 ht2
      by_cases h0 : t = 0
      · obtain ⟨rfl, rfl⟩ := hT0 h0
        refine ⟨nilS, nilS, [], rfl, fun h => by omega, fun _ => ⟨rfl, rfl⟩, ?_⟩
        unfold toldc
        rw [if_pos h0]; exact h
      · refine ⟨nilS, T0, k0, rfl, fun _ => hk0, fun h => absurd h h0, ?_⟩
        unfold toldc
        rw [if_neg h0]
        exact h.selL [0, 1, 2, 3, 4, 5, 6, 7, 8, 9, 12, 13, 10, 11, 14, 15] (by decide) rfl
    refine ⟨fun ms3 w' => ∃ (D : Nat) (c' : Sl) (kC : List (Sl × List Int)), ms3 = [D] ∧ (∃ q, kC.map (·.2) = R.take q) ∧ (t = 1 → kC.map (·.2) = R) ∧ Hp S w0 w' (X.ls told (toldc t c' o) c' kC o kO (D :: ms) tb t []), ?_, ?_⟩
    · refine h.nw (c := [_]) fun i6 w5 h => ?_
      refine h.st0 16 rfl (by simp) rfl fun w6 h => ?_
      refine h.nw (c := [_]) fun pl w7 h => ?_
      refine h.st0 17 rfl (by simp) rfl fun w8 h => ?_
      have h : Hp S w0 w8 (X.ls told (toldc t c o) c [] o kO ms tb t [tBlk i6 3 [.int .i64 (0 : Nat)], tBlk pl 3 [.int .i64 (tot (R.take 0) : Nat)]]) := h
      refine h.ld0 8 (k := .v) (x := wv X.bo) rfl rfl ?_
      obtain ⟨O6, hO6⟩ := h.see (i := 7) rfl
      have hlt6 := (tWalk X.bo X.wall X.bs X.O).lt hO6
      have hO6e : O6 = X.bo :: X.O := hO6.1
      rw [hO6e] at hlt6
      -- the state of a round
      obtain ⟨I, hI⟩ : ∃ I : List (Int × Sl) → World → Prop, I = fun pre W => ∃ (c' : Sl) (kC : List (Sl × List Int)), kC.length = pre.length ∧ pre.length ≤ R.length ∧ kC.map (·.2) = R.take pre.length ∧
        Hp S w0 W (X.ls told (toldc t c' o) c' kC o kO ms tb t [tBlk i6 3 [.int .i64 (pre.length : Nat)], tBlk pl 3 [.int .i64 (tot (R.take pre.length) : Nat)], tAny w8.heap.size, tAny (w8.heap.size + 1)]) := ⟨_, rfl⟩
      have hIt : ∀ pre W W', I pre W → Trn (w8.heap.size + 1) W W' → I pre W' := by
        subst hI
        rintro pre W W' ⟨c', kC, g1, g2, g3, h⟩ htr
        exact ⟨c', kC, g1, g2, g3, h.anyStep 19 rfl htr⟩
      have fin : ∀ {V : World} {n : Nat} {c' : Sl} {kC : List (Sl × List Int)} {i6v plv : Value}, kC.map (·.2) = R.take n → (t = 1 → n = R.length) → Hp S w0 V (X.ls told (toldc t c' o) c' kC o kO ms tb t [tBlk i6 3 [i6v], tBlk pl 3 [plv], tObj w8.heap.size (.deferred (some [])), tAny (w8.heap.size + 1)]) →
          ∃ (D : Nat) (c' : Sl) (kC : List (Sl × List Int)), [w8.heap.size] = [D] ∧ (∃ q, kC.map (·.2) = R.take q) ∧ (t = 1 → kC.map (·.2) = R) ∧ Hp S w0 V (X.ls told (toldc t c' o) c' kC o kO (D :: ms) tb t []) := by
        intro V n c' kC i6v plv g1 g2 h
        have h := h.joinStar (i := 18) (j := 14) (a := Hp.tD w8.heap.size) (b := tAll (ms.map Hp.tD)) (by decide) rfl rfl rfl (tAll_own _)
        exact ⟨w8.heap.size, c', kC, rfl, ⟨n, g1⟩, fun ht => by rw [g1, g2 ht, List.take_length], h.selL [0, 1, 2, 3, 4, 5, 6, 7, 8, 9, 10, 11, 12, 13, 18, 15] (by decide) rfl⟩
      refine ⟨Int × Sl, 33, #[.pointer (some ⟨X.bo, 0, none⟩)], wkE, WalkQ X.bo X.wall X.bs X.O, WalkG X.bs, (fun xs => xs.length = (recs X.bs).length), (fun _ => True), I,
        (fun cc pX W => cc = .exit 12 ∧ t = 0 ∧ ∃ pre x, pX = pre ++ [x] ∧ X.stop = (pre.length : Nat) ∧ I pre W), rfl, ⟨_, Try.func33, rfl⟩, ?_, ?_, hIt, ?_, ?_, ?_, ?_⟩
      · intro W W' hq htr
        refine ⟨hq.1.fr htr.fr ?_, hq.2.fr htr.fr (fun k hk => ?_)⟩
        · have := hlt6 X.bo (by simp); simp only [List.mem_singleton]; omega
        · have := hlt6 k (by simp [hk]); simp only [List.mem_singleton]; omega
      · intro W hg hsz
        have h := h.enter hg hsz
        obtain ⟨O', hO'⟩ := h.see (i := 7) rfl
        refine ⟨walk_seq hb (by omega) hwc hO'.2, ?_⟩
        subst hI
        exact ⟨c, [], rfl, by simp, by simp, h⟩
      · rintro cc pX W W' ⟨g1, g2, pre, x, g3, g4, g5⟩ htr
        exact ⟨g1, g2, pre, x, g3, g4, hIt _ _ _ g5 htr⟩
      · intro x
        refine ⟨rfl, ?_⟩
        show viewL [.i .i64, .sl] [.int .i64 x.1, .slice x.2.a x.2.len x.2.cap] _ _
        simp only [viewL]
        intro w9
        refine ⟨trivial, trivial, fun pre W0 W1 W hpre hg hG htr hrec => ?_⟩
        subst hI
        obtain ⟨c', kC, g1, g2, g3, h⟩ := hpre
        obtain ⟨dd, hr, hx1, Ox, hx, hOx⟩ := hG
        rw [← hR] at hr hx1
        have hpl : pre.length < R.length := (List.getElem?_eq_some_iff.1 hr).1
        have hdd : dd = R[pre.length] := by rw [List.getElem?_eq_getElem hpl] at hr; exact (Option.some.inj hr).symm
        obtain ⟨hrb, hrk⟩ := hRb hpl
        rw [← hdd] at hrb hrk
        obtain ⟨y3, hy3, hy3'⟩ := at_of hkA hpl
        rw [← hdd] at hy3
        have h := h.grow hg.fr (t := tB x.2 dd) hx hOx rfl
        have h := h.anyStep (l := w8.heap.size + 1) 19 rfl htr
        obtain ⟨rr, hrr⟩ := hrec
        obtain ⟨oD, hoD, h⟩ := h.pin (l := w8.heap.size) 18 rfl
        have h := h.pinAs (l := w8.heap.size + 1) 19 rfl hrr
        have h := h.min
        have h : Hp S w0 W (X.ls told (toldc t c' o) c' kC o kO ms tb t [tBlk i6 3 [.int .i64 (pre.length : Nat)], tBlk pl 3 [.int .i64 (tot (R.take pre.length) : Nat)], tObj w8.heap.size oD, tObj (w8.heap.size + 1) (.loop rr), tB x.2 dd, tMin W.heap.size]) := h
        have htk := htt (pre.length + 1)
        have etk : tot (R.take (pre.length + 1)) = tot (R.take pre.length) + (madeU dd).length := by
          rw [List.take_succ_eq_append_getElem hpl, ← hdd, tot_snoc]
        refine ⟨fun w' => Hp S w0 w' (X.ls told (toldc t c' o) c' kC o kO ms tb t [tBlk i6 3 [.int .i64 (pre.length : Nat)], tBlk pl 3 [.int .i64 (tot (R.take pre.length) : Nat)], tObj w8.heap.size oD, tObj (w8.heap.size + 1) (.loop rr), tB x.2 dd, tMin W.heap.size]), ?_, ?_⟩
        · refine nns ?_
          refine h.ld0 15 (k := .i .i64) rfl rfl ?_
          by_cases h0 : t = 0
          · refine ifT (by simp [h0]) ?_
            refine h.ld0 16 (k := .i .i64) rfl rfl ?_
            refine h.ld0 0 (k := .i .i64) (x := X.stop) rfl rfl ?_
            by_cases hst : ((pre.length : Nat) : Int) = X.stop
            · refine ifT (by simpa using hst) ?_
              obtain ⟨_, h⟩ := h.unpin 18 rfl
              obtain ⟨_, h⟩ := h.unpin 19 rfl
              exact ⟨⟨rfl, h0, pre, x, rfl, hst.symm, c', kC, g1, g2, g3, h.selL [0, 1, 2, 3, 4, 5, 6, 7, 8, 9, 10, 11, 12, 13, 14, 15, 16, 17, 18, 19] (by decide) rfl⟩, Nat.le_refl _, fun _ _ => rfl⟩
            · exact ifF (by simpa using hst) h
          · exact ifF (by simp; omega) h
        clear h
        intro w10 h
        refine ⟨fun w' => Hp S w0 w' (X.ls told (toldc t c' o) c' kC o kO ms tb t [tBlk i6 3 [.int .i64 (pre.length : Nat)], tBlk pl 3 [.int .i64 (tot (R.take pre.length) : Nat)], tObj w8.heap.size oD, tObj (w8.heap.size + 1) (.loop rr), tB x.2 dd, tMin W.heap.size]), ?_, ?_⟩
        · refine h.dr fun w11 h => ?_
          refine h.ld0 16 (k := .i .i64) rfl rfl ?_
          refine h.ld0 6 (k := .sl) (x := X.all) rfl rfl ?_
          refine ifF (by simp; omega) ?_
          refine h.ld0 17 (k := .i .i64) rfl rfl ?_
          refine ifF (by simp [hx1]) ?_
          refine h.rdb 20 rfl Hp.rdSl _ (strL_of hrb) ?_
          refine h.ld0 6 (k := .sl) (x := X.all) rfl rfl ?_
          refine h.ld0 16 (k := .i .i64) rfl rfl ?_
          refine h.ixld (k := .sl) (s := X.all) (y := y3) (x := y3) 4 rfl (by omega) hy3' (fun _ => rfl) rfl ?_
          refine h.rdb 5 (u := tAll (X.kA.map inA)) rfl (all_reads hy3) _ (strL_of hrb) ?_
          exact ifF (by simp) h
        clear h
        intro w11 h
        refine ⟨fun ms2 w' => Hp S w0 w' (X.ls told (toldc t c' o) c' kC o kO ms tb t [tBlk i6 3 [.int .i64 (pre.length : Nat)], tBlk pl 3 [.int .i64 (tot (R.take pre.length) : Nat)], tObj w8.heap.size oD, tObj (w8.heap.size + 1) (.loop rr), tB x.2 dd, tMin W.heap.size]), ?_, ?_⟩
        · refine ⟨fun tt w' => Hp S w0 w' (X.ls told (toldc t c' o) c' kC o kO ms tb t [tBlk i6 3 [.int .i64 (pre.length : Nat)], tBlk pl 3 [.int .i64 (tot (R.take pre.length) : Nat)], tObj w8.heap.size oD, tObj (w8.heap.size + 1) (.loop rr), tB x.2 dd, tMin W.heap.size]), ?_, ?_⟩
          · refine nns ?_
            refine h.ld0 15 (k := .i .i64) rfl rfl ?_
            by_cases h1 : t = 1
            · refine ifT (by simp [h1]) ?_
              refine h.ld0 16 (k := .i .i64) rfl rfl ?_
              exact h.ld0 0 (k := .i .i64) (x := X.stop) rfl rfl h
            · exact ifF (by simp; omega) h
          clear h
          intro tt w12 h
          by_cases htt2 : tt = true
          · refine ifT htt2 ?_
            refine h.nw (c := [_]) fun n2 w13 h => ?_
            refine h.st0 22 rfl (by simp) rfl fun w14 h => ?_
            have h : Hp S w0 w14 (X.ls told (toldc t c' o) c' kC o kO ms tb t [tBlk i6 3 [.int .i64 (pre.length : Nat)], tBlk pl 3 [.int .i64 (tot (R.take pre.length) : Nat)], tObj w8.heap.size oD, tObj (w8.heap.size + 1) (.loop rr), tB x.2 dd, tMin W.heap.size, tBlk n2 3 [.int .i64 (0 : Nat)]]) := h
            refine h.ld0 8 (k := .v) (x := wv X.bo) rfl rfl ?_
            obtain ⟨O7, hO7⟩ := h.see (i := 7) rfl
            have hlt7 := (tWalk X.bo X.wall X.bs X.O).lt hO7
            have hO7e : O7 = X.bo :: X.O := hO7.1
            rw [hO7e] at hlt7
            refine ⟨Int × Sl, 33, #[.pointer (some ⟨X.bo, 0, none⟩)], wkE, WalkQ X.bo X.wall X.bs X.O, WalkG X.bs, (fun xs => xs.length = (recs X.bs).length), (fun _ => True),
              (fun pre2 W' => Hp S w0 W' (X.ls told (toldc t c' o) c' kC o kO ms tb t [tBlk i6 3 [.int .i64 (pre.length : Nat)], tBlk pl 3 [.int .i64 (tot (R.take pre.length) : Nat)], tObj w8.heap.size oD, tObj (w8.heap.size + 1) (.loop rr), tB x.2 dd, tMin W.heap.size, tBlk n2 3 [.int .i64 (pre2.length : Nat)], tAny w14.heap.size])), (fun _ _ _ => False), rfl, ⟨_, Try.func33, rfl⟩, ⟨rr, h.obj 19 rfl⟩, ?_, ?_, ?_, ?_, ?_, ?_, ?_⟩
            · intro V V' hq htr
              refine ⟨hq.1.fr htr.fr ?_, hq.2.fr htr.fr (fun k hk => ?_)⟩
              · have := hlt7 X.bo (by simp); simp only [List.mem_singleton]; omega
              · have := hlt7 k (by simp [hk]); simp only [List.mem_singleton]; omega
            · intro V hg hsz
              have h := h.grow hg.fr (t := tAny w14.heap.size) (O := [w14.heap.size]) ⟨rfl, by omega⟩ (by simp) rfl
              obtain ⟨O', hO'⟩ := h.see (i := 7) rfl
              exact ⟨walk_seq hb (by omega) hwc hO'.2, h⟩
            · intro pre2 V V' h htr
              exact h.anyStep 23 rfl htr
            · intro cc pre2 V V' h htr
              exact h
            · intro x2
              refine ⟨rfl, ?_⟩
              show viewL [.v, .v] [.int .i64 x2.1, .slice x2.2.a x2.2.len x2.2.cap] _ _
              simp only [viewL]
              intro w15
              refine ⟨trivial, trivial, fun pre2 V0 V1 V h hg hG2 htr _ => ?_⟩
              obtain ⟨d2, hr2, _⟩ := hG2
              rw [← hR] at hr2
              have hpl2 : pre2.length < R.length := (List.getElem?_eq_some_iff.1 hr2).1
              have h := (h.keep hg.fr).anyStep 23 rfl htr
              obtain ⟨o2, ho2, h⟩ := h.pin (l := w14.heap.size) 23 rfl
              have h := h.min
              refine h.ld0 22 (k := .i .i64) rfl rfl ?_
              refine h.st0 22 rfl (by simp) rfl fun V2 h => ?_
              have hsz := h.size (n := V.heap.size) 24 rfl
              obtain ⟨e2, h⟩ := h.unpin (l := w14.heap.size) (o := o2) 23 rfl
              obtain ⟨O', hO'⟩ := h.see (i := 7) rfl
              rw [show IntKind.i64.wrap (((pre2.length : Nat) : Int) + 1) = (((pre2 ++ [x2]).length : Nat) : Int) by rw [wr64 (by omega) (by omega)]; simp] at h
              refine ⟨h.selL [0, 1, 2, 3, 4, 5, 6, 7, 8, 9, 10, 11, 12, 13, 14, 15, 16, 17, 18, 19, 20, 21, 22, 23] (by decide) rfl, hO'.2, hsz, fun k hk => ?_⟩
              simp only [List.mem_singleton] at hk
              subst hk
              rw [e2, ho2]
            · intro xs V0 V1 V hS h hg htr
              rw [← hR] at hS
              have hS : xs.length = R.length := hS
              have h := (h.keep hg.fr).anyStep 23 rfl htr
              refine h.ld0 22 (k := .i .i64) rfl rfl ?_
              refine h.ld0 6 (k := .sl) (x := X.all) rfl rfl ?_
              refine ifF (by simp; omega) ?_
              exact h.selL [0, 1, 2, 3, 4, 5, 6, 7, 8, 9, 10, 11, 12, 13, 14, 15, 16, 17, 18, 19, 20, 21] (by decide) rfl
            · intro cc pre2 V0 V1 V _ h
              exact h.elim
          · exact ifF htt2 h
        clear h
        intro ms2 w12 h
        refine h.ld0 6 (k := .sl) (x := X.all) rfl rfl ?_
        refine h.ld0 16 (k := .i .i64) rfl rfl ?_
        refine h.ixld (k := .sl) (s := X.all) (y := y3) (x := y3) 4 rfl (by omega) hy3' (fun _ => rfl) rfl ?_
        refine Made_spec h 5 (u := tAll (X.kA.map inA)) (d := dd) rfl (all_reads hy3) hrb (by have := hrk.2; omega) fun made w13 h => ?_
        have hml := h.len (s := made) 22 rfl
        refine h.ld0 17 (k := .i .i64) rfl rfl ?_
        refine h.st0 17 rfl (by simp) rfl fun w14 h => ?_
        rw [show IntKind.i64.wrap (((tot (R.take pre.length) : Nat) : Int) + (made.len : Int)) = ((tot (R.take (pre.length + 1)) : Nat) : Int) by rw [wr64 (by omega) (by omega)]; omega] at h
        refine h.dr fun w15 h => ?_
        refine nns ?_
        refine h.ld0 15 (k := .i .i64) rfl rfl ?_
        refine nns ?_
        refine h.ld0 15 (k := .i .i64) rfl rfl ?_
        have hts : (toldc t c' o)[((t : Nat) : Int).toNat * 1]? = some (.slice c'.a c'.len c'.cap) := by
          unfold toldc
          by_cases h0 : t = 0
          · subst h0; rfl
          · have : t = 1 := by omega
            subst this; rfl
        refine h.ixa (by omega) (by omega) ?_
        refine h.ldv 9 (k := .sl) (x := c') rfl hts ?_
        have hcl := h.len (s := c') 10 rfl
        rw [List.length_map, g1] at hcl
        refine h.nwapp (c := [_]) 10 x.2 rfl slv_len und34 q1 q3 q2 rfl rfl (by simp [slv, Value.oneCell']) (by rw [q4]; omega) (by omega) fun s8 w16 h _ _ => ?_
        refine ⟨h.cel0 15 rfl rfl, ?_⟩
        refine h.ixa (by omega) (by omega) ?_
        have hset : (toldc t c' o).set (((t : Nat) : Int).toNat * 1) (.slice s8.a s8.len s8.cap) = toldc t s8 o := by
          unfold toldc
          by_cases h0 : t = 0
          · subst h0; rfl
          · have : t = 1 := by omega
            subst this; rfl
        refine h.stv 9 rfl (by have := (List.getElem?_eq_some_iff.1 hts).1; exact this) rfl fun w17 h => ?_
        rw [hset] at h
        refine h.ld0 16 (k := .i .i64) rfl rfl ?_
        refine h.st0 16 rfl (by simp) rfl fun w18 h => ?_
        rw [show IntKind.i64.wrap (((pre.length : Nat) : Int) + 1) = ((pre.length + 1 : Nat) : Int) by rw [wr64 (by omega) (by omega)]; omega] at h
        have h := all_more h (i := 11) (j := 20) (by omega) (kL := kC) (x := x.2) (l := dd) rfl rfl
        have hsz := h.size (n := W.heap.size) 21 rfl
        obtain ⟨eD, h⟩ := h.unpin (l := w8.heap.size) (o := oD) 18 rfl
        obtain ⟨eL, h⟩ := h.unpin (l := w8.heap.size + 1) (o := .loop rr) 19 rfl
        obtain ⟨O', hO'⟩ := h.see (i := 7) rfl
        have em : kC.map (·.1) ++ [x.2] = (kC ++ [(x.2, dd)]).map (·.1) := by simp
        rw [em] at h
        have e1 : (pre ++ [x]).length = pre.length + 1 := by simp
        refine ⟨⟨s8, kC ++ [(x.2, dd)], by simp [g1], by rw [e1]; omega, ?_, ?_⟩, hO'.2, hsz, fun k hk => ?_⟩
        · rw [e1, List.map_append, g3, List.take_succ_eq_append_getElem hpl, ← hdd]; rfl
        · rw [e1]
          exact h.selL [0, 1, 2, 3, 4, 5, 6, 7, 8, 9, 10, 11, 12, 13, 14, 15, 16, 17, 18, 19] (by decide) rfl
        · rcases List.mem_cons.1 hk with rfl | hk
          · rw [eD, hoD]
          · simp only [List.mem_singleton] at hk; subst hk; rw [eL, hrr]
      · intro xs V0 V1 V hS hx hg htr hD
        subst hI
        obtain ⟨c', kC, g1, g2, g3, h⟩ := hx
        rw [← hR] at hS
        have hS : xs.length = R.length := hS
        have h := ((h.keep hg.fr).anyStep 19 rfl htr).pinAs 18 rfl hD
        have J := fin (V := V) g3 (fun _ => hS) h
        refine nns ?_
        refine h.ld0 15 (k := .i .i64) rfl rfl ?_
        by_cases h0 : t = 0
        · refine ifT (by simp [h0]) ?_
          refine h.ld0 16 (k := .i .i64) rfl rfl ?_
          refine h.ld0 0 (k := .i .i64) (x := X.stop) rfl rfl ?_
          by_cases hst : ((xs.length : Nat) : Int) = X.stop
          · refine ifF (by simp [hst]) ?_
            refine nns ?_
            refine h.ld0 15 (k := .i .i64) rfl rfl ?_
            exact ifF (by simp [h0]) J
          · refine ifT (by simpa using hst) ?_
            refine h.ld0 16 (k := .i .i64) rfl rfl ?_
            refine h.ld0 6 (k := .sl) (x := X.all) rfl rfl ?_
            refine ifF (by simp; omega) ?_
            refine nns ?_
            refine h.ld0 15 (k := .i .i64) rfl rfl ?_
            exact ifF (by simp [h0]) J
        · refine ifF (by simp; omega) ?_
          refine nns ?_
          refine h.ld0 15 (k := .i .i64) rfl rfl ?_
          refine ifT (by simp; omega) ?_
          refine h.ld0 16 (k := .i .i64) rfl rfl ?_
          refine h.ld0 6 (k := .sl) (x := X.all) rfl rfl ?_
          exact ifF (by simp; omega) J
      · intro cc pX V0 V1 V _ hx hg htr hD
        obtain ⟨rfl, h0, pre, x, rfl, hst, hpre⟩ := hx
        subst hI
        obtain ⟨c', kC, g1, g2, g3, h⟩ := hpre
        refine .inr ⟨_, List.mem_singleton.2 rfl, rfl, ?_⟩
        have h := ((h.keep hg.fr).anyStep 19 rfl htr).pinAs 18 rfl hD
        have J := fin (V := V) g3 (fun h1 => by omega) h
        dsimp only
        refine nns ?_
        refine h.ld0 15 (k := .i .i64) rfl rfl ?_
        refine ifT (by simp [h0]) ?_
        refine h.ld0 16 (k := .i .i64) rfl rfl ?_
        refine h.ld0 0 (k := .i .i64) (x := X.stop) rfl rfl ?_
        refine ifF (by simp [hst]) ?_
        refine nns ?_
        refine h.ld0 15 (k := .i .i64) rfl rfl ?_
        exact ifF (by simp [h0]) J
    · rintro ms3 w9 ⟨D, c', kC, rfl, ⟨q, hq⟩, hfull, h⟩
      refine nns ?_
      refine h.ld0 15 (k := .i .i64) rfl rfl ?_
      refine h.nw (c := [_]) fun tb3 w10 h => ?_
      refine h.st0 16 rfl (by simp) rfl fun w11 h => ?_
      refine h.ld0 16 (k := .i .i64) rfl rfl ?_
      refine h.st0 16 rfl (by simp) rfl fun w12 h => ?_
      rw [show IntKind.i64.wrap (((t : Nat) : Int) + 1) = ((t + 1 : Nat) : Int) by rw [wr64 (by omega) (by omega)]; omega] at h
      refine ⟨2 - (t + 1), by omega, ?_⟩
      by_cases h0 : t = 0
      · obtain ⟨rfl, rfl⟩ := hO0 h0
        have et : toldc t c' nilS = [.slice c'.a c'.len c'.cap, .slice none 0 0] := by unfold toldc; rw [if_pos h0]
        rw [et] at h
        exact ⟨t + 1, tb3, c', nilS, kC, [], rfl, by omega, rfl, ⟨q, hq⟩, fun h => by omega, fun _ => ⟨rfl, rfl⟩, fun h => by omega, h.selL [0, 1, 2, 3, 4, 5, 6, 7, 8, 9, 10, 11, 12, 13, 14, 16] (by decide) rfl⟩
      · have et : toldc t c' o = [.slice o.a o.len o.cap, .slice c'.a c'.len c'.cap] := by unfold toldc; rw [if_neg h0]
        rw [et] at h
        exact ⟨t + 1, tb3, o, c', kO, kC, rfl, by omega, rfl, ⟨q0, hO1 (by omega)⟩, fun _ => hfull (by omega), fun h => by omega, fun h => by omega, h.selL [0, 1, 2, 3, 4, 5, 6, 7, 8, 9, 12, 13, 10, 11, 14, 16] (by decide) rfl⟩
  refine ifF (by simp; omega) ?_
  obtain rfl : t = 2 := by omega
  have hk1 := hk1 rfl
  have h : Hp S w0 w4 [tBlk X.a 4 [.bool false], tSl X.kept 52 2 owv X.es, tBag X.es, tSl X.all 22 1 slv (X.kA.map (·.1)), tAll (X.kA.map inA), tBlk X.all2 34 (slv X.all), tBlk told 55 [.slice T0.a T0.len T0.cap, .slice T1.a T1.len T1.cap], tSl T0 22 1 slv (k0.map (·.1)), tAll (k0.map inA), tSl T1 22 1 slv (k1.map (·.1)), tAll (k1.map inA), tAll (ms.map Hp.tD)] :=
    h.selL [1, 2, 3, 4, 5, 6, 9, 10, 11, 12, 13, 14] (by decide) rfl
  have hT0l := h.len (s := T0) 7 rfl
  have hT1l := h.len (s := T1) 9 rfl
  rw [List.length_map] at hT0l hT1l
  have hk0l : k0.length ≤ R.length := by
    have := congrArg List.length hk0
    rw [List.length_map, List.length_take] at this; omega
  have hk1l : k1.length = R.length := by rw [← hk1, List.length_map]
  have hk0r : ∀ {q : Nat} (hq : q < k0.length), ∃ y d, k0[q]? = some (y, d) ∧ (k0.map (·.1))[((q : Nat) : Int).toNat]? = some y ∧ d.length ≤ 100000 := fun {q} hq => by
    obtain ⟨y, h1, h2⟩ := at_of hk0 (q := q) (by rw [← hk0, List.length_map]; exact hq)
    refine ⟨y, _, h1, h2, ?_⟩
    exact (hrok _ (List.mem_of_mem_take (List.getElem_mem _))).1.2
  refine ⟨fun kept7 i mm w' => ∃ (q : Nat) (es : List Ow), i = q ∧ q ≤ k0.length ∧ mm = k0.length - q ∧ es.length = X.es.length + 2 * q ∧ Hp S w0 w' [tBlk X.a 4 [.bool false], tSl kept7 52 2 owv es, tBag es, tSl X.all 22 1 slv (X.kA.map (·.1)), tAll (X.kA.map inA), tBlk X.all2 34 (slv X.all), tBlk told 55 [.slice T0.a T0.len T0.cap, .slice T1.a T1.len T1.cap], tSl T0 22 1 slv (k0.map (·.1)), tAll ((k0.drop q).map inA), tSl T1 22 1 slv (k1.map (·.1)), tAll (k1.map inA), tAll (ms.map Hp.tD)], ⟨k0.length, 0, X.es, rfl, by omega, rfl, by omega, h⟩, ?_⟩
  clear h
  rintro kept7 i mm w5 ⟨q, es, rfl, hq, rfl, hesq, h⟩
  refine h.ixa (by omega) (by omega) ?_
  refine h.ldv 6 (o := 0) (k := .sl) (x := T0) rfl rfl ?_
  by_cases hqr : q < k0.length
  · refine ifT (by simp; omega) ?_
    obtain ⟨y, d, hy, hy', hdl⟩ := hk0r hqr
    have ed : k0.drop q = (y, d) :: k0.drop (q + 1) := by
      rw [List.drop_eq_getElem_cons hqr]; rw [List.getElem?_eq_getElem hqr] at hy; rw [Option.some.inj hy]
    refine h.ixa (by omega) (by omega) ?_
    refine h.ldv 6 (o := 0) (k := .sl) (x := T0) rfl rfl ?_
    refine h.ixld (k := .sl) (s := T0) (y := y) (x := y) 7 rfl (by omega) hy' (fun _ => rfl) rfl ?_
    rw [ed, List.map_cons] at h
    have h := h.split (i := 8) (a := inA (y, d)) (b := tAll ((k0.drop (q + 1)).map inA)) rfl rfl (tAll_own _)
    simp only [List.set_cons_zero, List.set_cons_succ, List.cons_append, List.nil_append] at h
    refine keep_spec h (i := 1) (j := 2) (k := 8) (b := y) (lst := d) (by decide) rfl rfl rfl (by omega) (by omega) fun l' es2 w6 he h => ?_
    simp only [List.set_cons_zero, List.set_cons_succ] at h
    exact ⟨k0.length - (q + 1), by omega, q + 1, es2, by rw [wr64 (by omega) (by omega)]; omega, by omega, rfl, by omega, h.selL [0, 1, 2, 3, 4, 5, 6, 7, 12, 9, 10, 11] (by decide) rfl⟩
  refine ifF (by simp; omega) ?_
  have hesl : es.length ≤ X.es.length + 2 * R.length := by omega
  have h : Hp S w0 w5 [tBlk X.a 4 [.bool false], tSl kept7 52 2 owv es, tBag es, tSl X.all 22 1 slv (X.kA.map (·.1)), tAll (X.kA.map inA), tBlk X.all2 34 (slv X.all), tBlk told 55 [.slice T0.a T0.len T0.cap, .slice T1.a T1.len T1.cap], tSl T1 22 1 slv (k1.map (·.1)), tAll (k1.map inA), tAll (ms.map Hp.tD)] :=
    h.selL [0, 1, 2, 3, 4, 5, 6, 9, 10, 11] (by decide) rfl
  clear hq hqr hesq
  refine ⟨fun kept9 i mm w' => ∃ (q : Nat) (es' : List Ow), i = q ∧ q ≤ R.length ∧ mm = R.length - q ∧ es'.length = es.length + 2 * q ∧ Hp S w0 w' [tBlk X.a 4 [.bool false], tSl kept9 52 2 owv es', tBag es', tSl X.all 22 1 slv (X.kA.map (·.1)), tAll (X.kA.map inA), tBlk X.all2 34 (slv X.all), tBlk told 55 [.slice T0.a T0.len T0.cap, .slice T1.a T1.len T1.cap], tSl T1 22 1 slv (k1.map (·.1)), tAll ((k1.drop q).map inA), tAll (ms.map Hp.tD)], ⟨R.length, 0, es, rfl, by omega, rfl, by omega, h⟩, ?_⟩
  clear h
  rintro kept9 i mm w6 ⟨q, es', rfl, hq, rfl, hesq, h⟩
  refine h.ixa (by omega) (by omega) ?_
  refine h.ldv 6 (o := 1) (k := .sl) (x := T1) rfl rfl ?_
  by_cases hqr : q < R.length
  · refine ifT (by simp; omega) ?_
    obtain ⟨y, hy, hy'⟩ := at_of hk1 hqr
    obtain ⟨y3, hy3, hy3'⟩ := at_of hkA hqr
    obtain ⟨hrb, hrk⟩ := hRb hqr
    have hrl := hrk.2
    have hqk : q < k1.length := by omega
    have ed : k1.drop q = (y, R[q]) :: k1.drop (q + 1) := by
      rw [List.drop_eq_getElem_cons hqk]; rw [List.getElem?_eq_getElem hqk] at hy; rw [Option.some.inj hy]
    rw [ed, List.map_cons] at h
    have h := h.split (i := 8) (a := inA (y, R[q])) (b := tAll ((k1.drop (q + 1)).map inA)) rfl rfl (tAll_own _)
    simp only [List.set_cons_zero, List.set_cons_succ, List.cons_append, List.nil_append] at h
    refine h.dr fun w7 h => ?_
    refine h.ixa (by omega) (by omega) ?_
    refine h.ldv 6 (o := 1) (k := .sl) (x := T1) rfl rfl ?_
    refine h.ixld (k := .sl) (s := T1) (y := y) (x := y) 7 rfl (by omega) hy' (fun _ => rfl) rfl ?_
    refine h.rdb 8 (u := inA (y, R[q])) rfl Hp.rdSl _ (strL_of hrb) ?_
    refine h.ld0 5 (k := .sl) (x := X.all) rfl rfl ?_
    refine h.ixld (k := .sl) (s := X.all) (y := y3) (x := y3) 3 rfl (by omega) hy3' (fun _ => rfl) rfl ?_
    refine h.rdb 4 (u := tAll (X.kA.map inA)) rfl (all_reads hy3) _ (strL_of hrb) ?_
    refine ifF (by simp) ?_
    refine h.ixa (by omega) (by omega) ?_
    refine h.ldv 6 (o := 1) (k := .sl) (x := T1) rfl rfl ?_
    refine h.ixld (k := .sl) (s := T1) (y := y) (x := y) 7 rfl (by omega) hy' (fun _ => rfl) rfl ?_
    refine keep_spec h (i := 1) (j := 2) (k := 8) (b := y) (lst := R[q]) (by decide) rfl rfl rfl (by omega) (by omega) fun l' es2 w8 he h => ?_
    simp only [List.set_cons_zero, List.set_cons_succ] at h
    exact ⟨R.length - (q + 1), by omega, q + 1, es2, by rw [wr64 (by omega) (by omega)]; omega, by omega, rfl, by omega, h.selL [0, 1, 2, 3, 4, 5, 6, 7, 10, 9] (by decide) rfl⟩
  refine ifF (by simp; omega) ?_
  refine looks_spec h 1 2 rfl rfl (by omega) fun w7 h => ?_
  refine h.st0 0 rfl (by simp) rfl fun w8 h => ?_
  simp only [List.set_cons_zero, List.set_cons_succ] at h
  refine Hp.endMs ms 9 h rfl fun w9 h => ?_
  simp only [List.set_cons_zero, List.set_cons_succ] at h
  refine h.ld0 0 (k := .b) (x := true) rfl rfl ?_
  exact hK _ h.fr
end
end Go.Proofs.Ytmbbfaigbhnhcaa.F
