/-
  Part 6 of the proof: CodeEncodes is true of the given program where what it reads is of bulk at most 1048576: its row, and the card tied to the program's text.
-/
import Derived.Test.YtmfgofbcnlkolaaGreatDoorPkE
set_option linter.unusedSimpArgs false
set_option linter.unusedVariables false
set_option maxRecDepth 100000
section
namespace Go.Proofs.YtmfgofbcnlkolaaGreatDoor.F
open Go Go.Den Go.Proofs
def g24 (c : List Ins) : List Ins := List.replicate (c.length + 80) ((24, 0) : Ins)
theorem g24_len (c : List Ins) : (g24 c).length = c.length + 80 := by unfold g24; simp
def nSy (y : QS × Sl) : SV := { qSy g24 y.1 with run := { (qSy g24 y.1).run with sl := y.2 } }
def nRt (y : QR × Sl) : RV := { qRt g24 y.1 with sl := y.2 }
abbrev subR (x : SV) : Thing := subI x.run
abbrev tNs (s : Sl) (l : List SV) : Thing := tNest 54 8 syv subR id s l
abbrev tNf (s : Sl) (l : List RV) : Thing := tNest 30 4 rtv subI id s l
abbrev EN (s1 s2 : Sl) (xs : List SV) (ys : List RV) (pb qb : Nat) (S F L M W : Sl) (Y : List QS) (T : List QR) (nb : Nat) (NS NF : Sl) (Z : List (QS × Sl)) (V : List (QR × Sl)) : List Thing :=
 EA s1 s2 xs ys pb qb S F L M W Y T ((ALL Y T).map pad24) ++ [tBlk nb 37 [.slice NS.a NS.len NS.cap, .slice NF.a NF.len NF.cap], tNs NS (Z.map nSy), tNf NF (V.map nRt)]
section
variable {w0 w : World} {its rest : List Thing}
theorem sys_ld2 (h : Hp [] w0 w its) (j : Nat) {s : Sl} {xs : List SV} (hj : (its[j]?).map Thing.holds = some (tSl s 54 8 syv xs).holds) {k : Nat} {x : SV} (hx : xs[k]? = some x) {K : Sl → Sl → Sl → Sl → ByteArray → Int → Int → Sl → Prop} (hK : K x.a x.b x.c x.d x.run.nm x.run.pa x.run.lo x.run.sl) :
  Ix s.a s.len (k : Int) 8 fun a => Ld .sl w a fun y1 => Ld .sl w (a.add 1) fun y2 => Ld .sl w (a.add 2) fun y3 => Ld .sl w (a.add 3) fun y4 => Ld .s w (a.add 4) fun y5 => Ld (.i .i64) w (a.add 5) fun y6 => Ld (.i .i64) w (a.add 6) fun y7 => Ld .sl w (a.add 7) fun y8 => K y1 y2 y3 y4 y5 y6 y7 y8 := by
 refine h.ixr j hj (by omega) (y := x) (by rw [Int.toNat_natCast]; exact hx) syv_len fun ad hc => ?_
 exact ldR0 (k := .sl) (x := x.a) (hc 0 (by decide)) rfl (ldR (k := .sl) (x := x.b) (hc 1 (by decide)) rfl (ldR (k := .sl) (x := x.c) (hc 2 (by decide)) rfl (ldR (k := .sl) (x := x.d) (hc 3 (by decide)) rfl (ldR (k := .s) (x := x.run.nm) (hc 4 (by decide)) rfl (ldR (k := .i .i64) (x := x.run.pa) (hc 5 (by decide)) rfl (ldR (k := .i .i64) (x := x.run.lo) (hc 6 (by decide)) rfl (ldR (k := .sl) (x := x.run.sl) (hc 7 (by decide)) rfl hK)))))))
theorem rts_ld2 (h : Hp [] w0 w its) (j : Nat) {s : Sl} {xs : List RV} (hj : (its[j]?).map Thing.holds = some (tSl s 30 4 rtv xs).holds) {k : Nat} {x : RV} (hx : xs[k]? = some x) {K : ByteArray → Int → Int → Sl → Prop} (hK : K x.nm x.pa x.lo x.sl) :
  Ix s.a s.len (k : Int) 4 fun a => Ld .s w a fun y5 => Ld (.i .i64) w (a.add 1) fun y6 => Ld (.i .i64) w (a.add 2) fun y7 => Ld .sl w (a.add 3) fun y8 => K y5 y6 y7 y8 := by
 refine h.ixr j hj (by omega) (y := x) (by rw [Int.toNat_natCast]; exact hx) rtv_len fun ad hc => ?_
 exact ldR0 (k := .s) (x := x.nm) (hc 0 (by decide)) rfl (ldR (k := .i .i64) (x := x.pa) (hc 1 (by decide)) rfl (ldR (k := .i .i64) (x := x.lo) (hc 2 (by decide)) rfl (ldR (k := .sl) (x := x.sl) (hc 3 (by decide)) rfl hK)))
set_option maxHeartbeats 4000000 in
theorem enc_nows {s1 s2 : Sl} {xs : List SV} {ys : List RV} {pb qb nb : Nat} {S F L M W : Sl} {Y : List QS} {T : List QR} (hsm : Small xs ys) (hx : Y.map QS.x = xs) (hY : ∀ y ∈ Y, y.Ok) (h : Hp [] w0 w (EN s1 s2 xs ys pb qb S F L M W Y T nb n3 n3 [] [] ++ rest)) {K : World → Prop}
  (hK : ∀ NS Z w', Z.map (·.1) = Y → Hp [] w0 w' (EN s1 s2 xs ys pb qb S F L M W Y T nb NS n3 Z [] ++ rest) → K w') :
  ∃ Inv_8 : Int → Nat → World → Prop, (∃ n : Nat, Inv_8 0 n w) ∧ ∀ i6 : Int, ∀ m15 : Nat, ∀ w : World, Inv_8 i6 m15 w → (Ld .sl w ⟨qb, 0, none⟩ fun (Systems7 : Sl) =>
 if (decide (i6 < (Systems7.len : Int))) = true then (Ld .sl w ⟨qb, 0, none⟩ fun (Systems8 : Sl) =>
 Ix Systems8.a Systems8.len i6 8 fun (a21 : Addr) =>
 Ld .sl w a21 fun (s_With3 : Sl) => Ld .sl w (a21.add 1) fun (s_Without3 : Sl) => Ld .sl w (a21.add 2) fun (s_Reads3 : Sl) => Ld .sl w (a21.add 3) fun (s_Writes3 : Sl) => Ld .s w (a21.add 4) fun (s_Run_Name3 : ByteArray) => Ld (.i .i64) w (a21.add 5) fun (s_Run_Params3 : Int) => Ld (.i .i64) w (a21.add 6) fun (s_Run_Locals3 : Int) => Ld .sl w (a21.add 7) fun (s_Run_Code3 : Sl) =>
 Nw (.cells #[.slice none 0 0, .slice none 0 0, .slice none 0 0, .slice none 0 0, .string (⟨#[]⟩ : ByteArray), .int .i64 0, .int .i64 0, .slice none 0 0] 54) w fun (s4 : Addr) (w : World) =>
 St s4 (.slice s_With3.a s_With3.len s_With3.cap) w fun (w : World) =>
 St (s4.add 1) (.slice s_Without3.a s_Without3.len s_Without3.cap) w fun (w : World) =>
 St (s4.add 2) (.slice s_Reads3.a s_Reads3.len s_Reads3.cap) w fun (w : World) =>
 St (s4.add 3) (.slice s_Writes3.a s_Writes3.len s_Writes3.cap) w fun (w : World) =>
 St (s4.add 4) (.string s_Run_Name3) w fun (w : World) =>
 St (s4.add 5) (.int .i64 s_Run_Params3) w fun (w : World) =>
 St (s4.add 6) (.int .i64 s_Run_Locals3) w fun (w : World) =>
 St (s4.add 7) (.slice s_Run_Code3.a s_Run_Code3.len s_Run_Code3.cap) w fun (w : World) =>
 Nw (.cells #[] 23) w fun (b7 : Addr) (w : World) =>
 Ld .sl w ((s4.add 4).add 3) fun (Code : Sl) =>
 Run .sl Tryz.prog (Builtin.append_ #[28, 28] 28 #[.slice (some b7) 0 0, .slice Code.a Code.len Code.cap]) w fun (s5 : Sl) (w : World) =>
 St ((s4.add 4).add 3) (.slice s5.a s5.len s5.cap) w fun (w : World) =>
 Ld .sl w ⟨nb, 0, none⟩ fun (Systems9 : Sl) =>
 Ld .sl w s4 fun (s_With4 : Sl) => Ld .sl w (s4.add 1) fun (s_Without4 : Sl) => Ld .sl w (s4.add 2) fun (s_Reads4 : Sl) => Ld .sl w (s4.add 3) fun (s_Writes4 : Sl) => Ld .s w (s4.add 4) fun (s_Run_Name4 : ByteArray) => Ld (.i .i64) w (s4.add 5) fun (s_Run_Params4 : Int) => Ld (.i .i64) w (s4.add 6) fun (s_Run_Locals4 : Int) => Ld .sl w (s4.add 7) fun (s_Run_Code4 : Sl) =>
 Nw (.cells #[.slice s_With4.a s_With4.len s_With4.cap, .slice s_Without4.a s_Without4.len s_Without4.cap, .slice s_Reads4.a s_Reads4.len s_Reads4.cap, .slice s_Writes4.a s_Writes4.len s_Writes4.cap, .string s_Run_Name4, .int .i64 s_Run_Params4, .int .i64 s_Run_Locals4, .slice s_Run_Code4.a s_Run_Code4.len s_Run_Code4.cap] 54) w fun (b8 : Addr) (w : World) =>
 Run .sl Tryz.prog (Builtin.append_ #[35, 35] 35 #[.slice Systems9.a Systems9.len Systems9.cap, .slice (some b8) 1 1]) w fun (s6 : Sl) (w : World) =>
 St ⟨nb, 0, none⟩ (.slice s6.a s6.len s6.cap) w fun (w : World) =>
 ∃ m16 : Nat, m16 < m15 ∧ Inv_8 (IntKind.i64.wrap (i6 + 1)) m16 w) else (K w)) := by
 have hyl : Y.length = xs.length := by rw [← hx, List.length_map]
 have hn := hsm.n
 obtain ⟨inf, i1, i2, i3, i4⟩ := inf23
 obtain ⟨inf2, k1, k2, k3, k4⟩ := inf54
 have hSl := h.len (s := S) (e := 54) (n := 8) (f := syv) (l := Y.map QS.q) 4 rfl
 rw [List.length_map] at hSl
 obtain ⟨R, hR⟩ : ∃ R : Sl → List (QS × Sl) → List Thing, R = fun NS Z => EN s1 s2 xs ys pb qb S F L M W Y T nb NS n3 Z [] ++ rest := ⟨_, rfl⟩
 have h : Hp [] w0 w (R n3 []) := by rw [hR]; exact h
 have hK : ∀ NS Z w', Z.map (·.1) = Y → Hp [] w0 w' (R NS Z) → K w' := by rw [hR]; exact hK
 have rl : ∀ NS Z, (R NS Z).length = 12 + rest.length := fun NS Z => by rw [hR]; simp; omega
 have r3 : ∀ NS Z B, ((R NS Z ++ B)[3]?).map Thing.holds = some (tBlk qb 37 [.slice S.a S.len S.cap, .slice F.a F.len F.cap]).holds := fun NS Z B => by rw [hR]; rfl
 have r4 : ∀ NS Z B, ((R NS Z ++ B)[4]?).map Thing.holds = some (tSl S 54 8 syv (Y.map QS.q)).holds := fun NS Z B => by rw [hR]; rfl
 have r6 : ∀ NS Z B, (R NS Z ++ B)[6]? = some (tCs L ((ALL Y T).map pad24)) := fun NS Z B => by rw [hR]; rfl
 have r9 : ∀ NS Z B, (R NS Z ++ B)[9]? = some (tBlk nb 37 [.slice NS.a NS.len NS.cap, .slice none 0 0]) := fun NS Z B => by rw [hR]; rfl
 have r10 : ∀ NS Z B, (R NS Z ++ B)[10]? = some (tNs NS (Z.map nSy)) := fun NS Z B => by rw [hR]; rfl
 refine ⟨fun i m w' => ∃ (j : Nat) (NS : Sl) (Z : List (QS × Sl)), i = j ∧ j ≤ Y.length ∧ m = Y.length - j ∧ Z.map (·.1) = Y.take j ∧ Hp [] w0 w' (R NS Z), ⟨_, 0, n3, [], rfl, by omega, rfl, rfl, h⟩, ?_⟩
 clear h
 rintro i m w1 ⟨j, NS, Z, rfl, hj, rfl, hZ, h⟩
 have hZl : Z.length = j := by have := congrArg List.length hZ; rw [List.length_map, List.length_take] at this; omega
 have h : Hp [] w0 w1 (R NS Z ++ []) := by rw [List.append_nil]; exact h
 refine h.ld0 (k := .sl) (x := S) 3 (r3 _ _ _) rfl ?_
 by_cases hend : j = Y.length
 ·subst hend
  rw [List.take_length] at hZ
  refine ifF (by simp; omega) (hK NS Z w1 hZ ?_)
  rw [List.append_nil] at h; exact h
 obtain ⟨y, hy⟩ : ∃ y, Y[j]? = some y := ⟨Y[j]'(by omega), List.getElem?_eq_getElem (by omega)⟩
 have hym := List.mem_of_getElem? hy
 have hyx : y.x ∈ xs := by rw [← hx]; exact List.mem_map.2 ⟨y, hym, rfl⟩
 have hcl := (hsm.sys y.x hyx).2.1
 refine ifT (by simp; omega) ?_
 refine h.ld0 (k := .sl) (x := S) 3 (r3 _ _ _) rfl ?_
 refine sys_ld2 h 4 (r4 _ _ _) (x := y.q) (by rw [List.getElem?_map, hy]; rfl) ?_
 rw [List.append_nil] at h
 refine sys_copy h y.q fun sb w2 h => ?_
 refine h.nw (c := []) fun cb w2 h => ?_
 obtain ⟨A, hA⟩ : ∃ A, A = R NS Z := ⟨_, rfl⟩
 have hAl : A.length = 12 + rest.length := by rw [hA, rl]
 rw [← hA] at h
 have a1 : ∀ t u : Thing, (A ++ [t] ++ [u])[A.length]? = some t := fun t u => by simp
 have a2 : ∀ t u : Thing, (A ++ [t] ++ [u])[A.length + 1]? = some u := fun t u => by simp
 have s2' : ∀ t u v : Thing, (A ++ [t] ++ [u]).set (A.length + 1) v = A ++ [t] ++ [v] := fun t u v => by
  rw [List.set_append_right _ _ (by simp)]; simp
 have s1' : ∀ t u v : Thing, (A ++ [t] ++ [u]).set A.length v = A ++ [v] ++ [u] := fun t u v => by
  rw [List.append_assoc, List.set_append_right _ _ (Nat.le_refl _), Nat.sub_self]; simp
 have h := h.blkSl (i := A.length + 1) (m := 0) (l := ([] : List Ins)) (f := insv) (n := 2) (a2 _ _) rfl rfl insv_len
 rw [s2'] at h
 refine h.lda (n := 4) (m := 3) (k := .sl) (x := y.q.run.sl) A.length (by rw [a1]; rfl) rfl ?_
 have hzm : (y.z, g24 y.x.run.code) ∈ (ALL Y T).map pad24 := List.mem_map.2 ⟨y.c, List.mem_append_left _ (List.mem_map.2 ⟨y, hym, rfl⟩), rfl⟩
 have hrd : Hp.Reads (tCs L ((ALL Y T).map pad24)) y.q.run.sl 2 insv ((g24 y.x.run.code).take y.x.run.code.length) := Hp.nestSub hzm ((hY y hym).code.1 _ (g24_len _))
 have hsl := (hY y hym).code.2
 have hnl : ((g24 y.x.run.code).take y.x.run.code.length).length = y.x.run.code.length := by rw [List.length_take, g24_len]; omega
 refine h.appS (A.length + 1) 6 (s := ⟨some ⟨cb, 0, none⟩, 0, 0⟩) (news := (g24 y.x.run.code).take y.x.run.code.length) (a2 _ _) (u := tCs L ((ALL Y T).map pad24)) (by rw [hA, List.append_assoc]; exact r6 _ _ _) hrd insv_len und28 i1 i3 i2 rfl (by simp [Value.oneCell']) (by rw [i4]; show (0 + y.q.run.sl.len) * 16 ≤ _; omega) (by show 0 + y.q.run.sl.len ≤ _; omega) fun s5 w2 h _ _ => ?_
 rw [s2'] at h
 refine sta h (n := 4) (m := 3) A.length (a1 _ _) (by simp) rfl fun w2 h => ?_
 rw [s1'] at h
 obtain ⟨nx, hnx⟩ : ∃ nx, nx = nSy (y, s5) := ⟨_, rfl⟩
 have e1 : (syv y.q).set (4 + 3) (.slice s5.a s5.len s5.cap) = syv nx := by rw [hnx]; rfl
 rw [e1] at h
 refine h.ld0 (k := .sl) (x := NS) 9 (by rw [hA, List.append_assoc, r9]; rfl) rfl ?_
 refine h.ld0 (k := .sl) (x := nx.a) A.length (by rw [a1]; rfl) rfl ?_
 refine h.ld (n := 1) (k := .sl) (x := nx.b) A.length (by rw [a1]; rfl) rfl ?_
 refine h.ld (n := 2) (k := .sl) (x := nx.c) A.length (by rw [a1]; rfl) rfl ?_
 refine h.ld (n := 3) (k := .sl) (x := nx.d) A.length (by rw [a1]; rfl) rfl ?_
 refine h.ld (n := 4) (k := .s) (x := nx.run.nm) A.length (by rw [a1]; rfl) rfl ?_
 refine h.ld (n := 5) (k := .i .i64) (x := nx.run.pa) A.length (by rw [a1]; rfl) rfl ?_
 refine h.ld (n := 6) (k := .i .i64) (x := nx.run.lo) A.length (by rw [a1]; rfl) rfl ?_
 refine h.ld (n := 7) (k := .sl) (x := nx.run.sl) A.length (by rw [a1]; rfl) rfl ?_
 have hNl := h.nest_see (e := 54) (n := 8) (cells := syv) (sub := subR) (vis := id) (s := NS) (l := Z.map nSy) 10 (by rw [hA, List.append_assoc, r10]; rfl)
 rw [List.length_map] at hNl
 have hsub : tSl s5 23 2 insv ([] ++ (g24 y.x.run.code).take y.x.run.code.length) = subR nx := by rw [hnx]; rfl
 rw [hsub] at h
 refine h.nest_app (e := 54) (n := 8) (cells := syv) (sub := subR) (vis := id) 10 (A.length + 1) (by omega) nx (by rw [hA, List.append_assoc]; exact r10 _ _ _) (a2 _ _) rfl syv_len und35 k1 k3 k2 rfl rfl (by simp [Value.oneCell']) (by rw [k4]; omega) (by omega) fun NS' w2 h _ => ?_
 have e2 : ((A ++ [tBlk sb 54 (syv nx)] ++ [subR nx]).set 10 (tNest 54 8 syv subR id NS' (Z.map nSy ++ [id nx]))).set (A.length + 1) tEmp = A.set 10 (tNs NS' ((Z ++ [(y, s5)]).map nSy)) ++ [tBlk sb 54 (syv nx)] ++ [tEmp] := by
  rw [List.append_assoc, List.set_append_left _ _ (by omega)]
  rw [List.set_append_right _ _ (by simp)]
  simp [hnx]
 rw [e2] at h
 have h := h.front.front
 refine h.st0 9 (v := .slice NS'.a NS'.len NS'.cap) (by rw [List.getElem?_set_ne (by decide), hA]; have := r9 NS Z []; rw [List.append_nil] at this; exact this) (by simp) rfl fun w3 h => ?_
 have e3 : (A.set 10 (tNs NS' ((Z ++ [(y, s5)]).map nSy))).set 9 (tBlk nb 37 [.slice NS'.a NS'.len NS'.cap, .slice none 0 0]) = R NS' (Z ++ [(y, s5)]) := by
  rw [hA, hR]; rfl
 have h : Hp [] w0 w3 (R NS' (Z ++ [(y, s5)])) := by rw [← e3]; exact h
 exact ⟨Y.length - (j + 1), by omega, j + 1, NS', Z ++ [(y, s5)], by rw [wr64 (by omega) (by omega)]; omega, by omega, rfl, by rw [List.map_append, hZ, List.take_add_one, hy]; rfl, h⟩
end
section
variable {w0 w : World} {its rest : List Thing}
set_option maxHeartbeats 4000000 in
theorem enc_nowf {s1 s2 : Sl} {xs : List SV} {ys : List RV} {pb qb nb : Nat} {S F L M W NS : Sl} {Y : List QS} {T : List QR} {Z : List (QS × Sl)} (hsm : Small xs ys) (hx : T.map QR.x = ys) (hT : ∀ y ∈ T, y.Ok) (h : Hp [] w0 w (EN s1 s2 xs ys pb qb S F L M W Y T nb NS n3 Z [] ++ rest)) {K : World → Prop}
  (hK : ∀ NF V w', V.map (·.1) = T → Hp [] w0 w' (EN s1 s2 xs ys pb qb S F L M W Y T nb NS NF Z V ++ rest) → K w') :
  ∃ Inv_9 : Int → Nat → World → Prop, (∃ n : Nat, Inv_9 0 n w) ∧ ∀ i7 : Int, ∀ m17 : Nat, ∀ w : World, Inv_9 i7 m17 w → (Ld .sl w ((⟨qb, 0, none⟩ : Addr).add 1) fun (Funcs5 : Sl) =>
 if (decide (i7 < (Funcs5.len : Int))) = true then (Ld .sl w ((⟨qb, 0, none⟩ : Addr).add 1) fun (Funcs6 : Sl) =>
 Ix Funcs6.a Funcs6.len i7 4 fun (a22 : Addr) =>
 Ld .s w a22 fun (r_Name7 : ByteArray) => Ld (.i .i64) w (a22.add 1) fun (r_Params7 : Int) => Ld (.i .i64) w (a22.add 2) fun (r_Locals7 : Int) => Ld .sl w (a22.add 3) fun (r_Code7 : Sl) =>
 Nw (.cells #[.string (⟨#[]⟩ : ByteArray), .int .i64 0, .int .i64 0, .slice none 0 0] 30) w fun (r8 : Addr) (w : World) =>
 St r8 (.string r_Name7) w fun (w : World) =>
 St (r8.add 1) (.int .i64 r_Params7) w fun (w : World) =>
 St (r8.add 2) (.int .i64 r_Locals7) w fun (w : World) =>
 St (r8.add 3) (.slice r_Code7.a r_Code7.len r_Code7.cap) w fun (w : World) =>
 Nw (.cells #[] 23) w fun (b9 : Addr) (w : World) =>
 Ld .sl w (r8.add 3) fun (Code2 : Sl) =>
 Run .sl Tryz.prog (Builtin.append_ #[28, 28] 28 #[.slice (some b9) 0 0, .slice Code2.a Code2.len Code2.cap]) w fun (s7 : Sl) (w : World) =>
 St (r8.add 3) (.slice s7.a s7.len s7.cap) w fun (w : World) =>
 Ld .sl w ((⟨nb, 0, none⟩ : Addr).add 1) fun (Funcs7 : Sl) =>
 Ld .s w r8 fun (r_Name8 : ByteArray) => Ld (.i .i64) w (r8.add 1) fun (r_Params8 : Int) => Ld (.i .i64) w (r8.add 2) fun (r_Locals8 : Int) => Ld .sl w (r8.add 3) fun (r_Code8 : Sl) =>
 Nw (.cells #[.string r_Name8, .int .i64 r_Params8, .int .i64 r_Locals8, .slice r_Code8.a r_Code8.len r_Code8.cap] 30) w fun (b10 : Addr) (w : World) =>
 Run .sl Tryz.prog (Builtin.append_ #[24, 24] 24 #[.slice Funcs7.a Funcs7.len Funcs7.cap, .slice (some b10) 1 1]) w fun (s8 : Sl) (w : World) =>
 St ((⟨nb, 0, none⟩ : Addr).add 1) (.slice s8.a s8.len s8.cap) w fun (w : World) =>
 ∃ m18 : Nat, m18 < m17 ∧ Inv_9 (IntKind.i64.wrap (i7 + 1)) m18 w) else (K w)) := by
 have hyl : T.length = ys.length := by rw [← hx, List.length_map]
 have hn := hsm.m
 obtain ⟨inf, i1, i2, i3, i4⟩ := inf23
 obtain ⟨inf2, k1, k2, k3, k4⟩ := inf30
 have hSl := h.len (s := F) (e := 30) (n := 4) (f := rtv) (l := T.map QR.q) 5 rfl
 rw [List.length_map] at hSl
 obtain ⟨R, hR⟩ : ∃ R : Sl → List (QR × Sl) → List Thing, R = fun NF V => EN s1 s2 xs ys pb qb S F L M W Y T nb NS NF Z V ++ rest := ⟨_, rfl⟩
 have h : Hp [] w0 w (R n3 []) := by rw [hR]; exact h
 have hK : ∀ NF V w', V.map (·.1) = T → Hp [] w0 w' (R NF V) → K w' := by rw [hR]; exact hK
 have rl : ∀ NF V, (R NF V).length = 12 + rest.length := fun NF V => by rw [hR]; simp; omega
 have r3 : ∀ NF V B, ((R NF V ++ B)[3]?).map Thing.holds = some (tBlk qb 37 [.slice S.a S.len S.cap, .slice F.a F.len F.cap]).holds := fun NF V B => by rw [hR]; rfl
 have r5 : ∀ NF V B, ((R NF V ++ B)[5]?).map Thing.holds = some (tSl F 30 4 rtv (T.map QR.q)).holds := fun NF V B => by rw [hR]; rfl
 have r6 : ∀ NF V B, (R NF V ++ B)[6]? = some (tCs L ((ALL Y T).map pad24)) := fun NF V B => by rw [hR]; rfl
 have r9 : ∀ NF V B, (R NF V ++ B)[9]? = some (tBlk nb 37 [.slice NS.a NS.len NS.cap, .slice NF.a NF.len NF.cap]) := fun NF V B => by rw [hR]; rfl
 have r11 : ∀ NF V B, (R NF V ++ B)[11]? = some (tNf NF (V.map nRt)) := fun NF V B => by rw [hR]; rfl
 refine ⟨fun i m w' => ∃ (j : Nat) (NF : Sl) (V : List (QR × Sl)), i = j ∧ j ≤ T.length ∧ m = T.length - j ∧ V.map (·.1) = T.take j ∧ Hp [] w0 w' (R NF V), ⟨_, 0, n3, [], rfl, by omega, rfl, rfl, h⟩, ?_⟩
 clear h
 rintro i m w1 ⟨j, NF, V, rfl, hj, rfl, hZ, h⟩
 have hZl : V.length = j := by have := congrArg List.length hZ; rw [List.length_map, List.length_take] at this; omega
 have h : Hp [] w0 w1 (R NF V ++ []) := by rw [List.append_nil]; exact h
 refine h.ld (n := 1) (k := .sl) (x := F) 3 (r3 _ _ _) rfl ?_
 by_cases hend : j = T.length
 ·subst hend
  rw [List.take_length] at hZ
  refine ifF (by simp; omega) (hK NF V w1 hZ ?_)
  rw [List.append_nil] at h; exact h
 obtain ⟨y, hy⟩ : ∃ y, T[j]? = some y := ⟨T[j]'(by omega), List.getElem?_eq_getElem (by omega)⟩
 have hym := List.mem_of_getElem? hy
 have hyx : y.x ∈ ys := by rw [← hx]; exact List.mem_map.2 ⟨y, hym, rfl⟩
 have hcl := (hsm.fns y.x hyx).2
 refine ifT (by simp; omega) ?_
 refine h.ld (n := 1) (k := .sl) (x := F) 3 (r3 _ _ _) rfl ?_
 refine rts_ld2 h 5 (r5 _ _ _) (x := y.q) (by rw [List.getElem?_map, hy]; rfl) ?_
 rw [List.append_nil] at h
 refine rt_copy h (nm := y.q.nm) (pa := y.q.pa) (lo := y.q.lo) (sl := y.q.sl) fun sb w2 h => ?_
 refine h.nw (c := []) fun cb w2 h => ?_
 obtain ⟨A, hA⟩ : ∃ A, A = R NF V := ⟨_, rfl⟩
 have hAl : A.length = 12 + rest.length := by rw [hA, rl]
 rw [← hA] at h
 have a1 : ∀ t u : Thing, (A ++ [t] ++ [u])[A.length]? = some t := fun t u => by simp
 have a2 : ∀ t u : Thing, (A ++ [t] ++ [u])[A.length + 1]? = some u := fun t u => by simp
 have s2' : ∀ t u v : Thing, (A ++ [t] ++ [u]).set (A.length + 1) v = A ++ [t] ++ [v] := fun t u v => by
  rw [List.set_append_right _ _ (by simp)]; simp
 have s1' : ∀ t u v : Thing, (A ++ [t] ++ [u]).set A.length v = A ++ [v] ++ [u] := fun t u v => by
  rw [List.append_assoc, List.set_append_right _ _ (Nat.le_refl _), Nat.sub_self]; simp
 have h := h.blkSl (i := A.length + 1) (m := 0) (l := ([] : List Ins)) (f := insv) (n := 2) (a2 _ _) rfl rfl insv_len
 rw [s2'] at h
 refine h.ld (n := 3) (k := .sl) (x := y.q.sl) A.length (by rw [a1]; rfl) rfl ?_
 have hzm : (y.z, g24 y.x.code) ∈ (ALL Y T).map pad24 := List.mem_map.2 ⟨y.c, List.mem_append_right _ (List.mem_map.2 ⟨y, hym, rfl⟩), rfl⟩
 have hrd : Hp.Reads (tCs L ((ALL Y T).map pad24)) y.q.sl 2 insv ((g24 y.x.code).take y.x.code.length) := Hp.nestSub hzm ((hT y hym).code.1 _ (g24_len _))
 have hsl := (hT y hym).code.2
 have hnl : ((g24 y.x.code).take y.x.code.length).length = y.x.code.length := by rw [List.length_take, g24_len]; omega
 refine h.appS (A.length + 1) 6 (s := ⟨some ⟨cb, 0, none⟩, 0, 0⟩) (news := (g24 y.x.code).take y.x.code.length) (a2 _ _) (u := tCs L ((ALL Y T).map pad24)) (by rw [hA, List.append_assoc]; exact r6 _ _ _) hrd insv_len und28 i1 i3 i2 rfl (by simp [Value.oneCell']) (by rw [i4]; show (0 + y.q.sl.len) * 16 ≤ _; omega) (by show 0 + y.q.sl.len ≤ _; omega) fun s5 w2 h _ _ => ?_
 rw [s2'] at h
 refine h.st (n := 3) A.length (a1 _ _) (by simp) rfl fun w2 h => ?_
 rw [s1'] at h
 obtain ⟨nx, hnx⟩ : ∃ nx, nx = nRt (y, s5) := ⟨_, rfl⟩
 have e1 : [Value.string y.q.nm, .int .i64 y.q.pa, .int .i64 y.q.lo, .slice y.q.sl.a y.q.sl.len y.q.sl.cap].set 3 (.slice s5.a s5.len s5.cap) = rtv nx := by rw [hnx]; rfl
 rw [e1] at h
 refine h.ld (n := 1) (k := .sl) (x := NF) 9 (by rw [hA, List.append_assoc, r9]; rfl) rfl ?_
 refine h.ld0 (k := .s) (x := nx.nm) A.length (by rw [a1]; rfl) rfl ?_
 refine h.ld (n := 1) (k := .i .i64) (x := nx.pa) A.length (by rw [a1]; rfl) rfl ?_
 refine h.ld (n := 2) (k := .i .i64) (x := nx.lo) A.length (by rw [a1]; rfl) rfl ?_
 refine h.ld (n := 3) (k := .sl) (x := nx.sl) A.length (by rw [a1]; rfl) rfl ?_
 have hNl := h.nest_see (e := 30) (n := 4) (cells := rtv) (sub := subI) (vis := id) (s := NF) (l := V.map nRt) 11 (by rw [hA, List.append_assoc, r11]; rfl)
 rw [List.length_map] at hNl
 have hsub : tSl s5 23 2 insv ([] ++ (g24 y.x.code).take y.x.code.length) = subI nx := by rw [hnx]; rfl
 rw [hsub] at h
 refine h.nest_app (e := 30) (n := 4) (cells := rtv) (sub := subI) (vis := id) 11 (A.length + 1) (by omega) nx (by rw [hA, List.append_assoc]; exact r11 _ _ _) (a2 _ _) rfl rtv_len und24 k1 k3 k2 rfl rfl (by simp [Value.oneCell']) (by rw [k4]; omega) (by omega) fun NF' w2 h _ => ?_
 have e2 : ((A ++ [tBlk sb 30 (rtv nx)] ++ [subI nx]).set 11 (tNest 30 4 rtv subI id NF' (V.map nRt ++ [id nx]))).set (A.length + 1) tEmp = A.set 11 (tNf NF' ((V ++ [(y, s5)]).map nRt)) ++ [tBlk sb 30 (rtv nx)] ++ [tEmp] := by
  rw [List.append_assoc, List.set_append_left _ _ (by omega)]
  rw [List.set_append_right _ _ (by simp)]
  simp [hnx]
 rw [e2] at h
 have h := h.front.front
 refine h.st (n := 1) 9 (v := .slice NF'.a NF'.len NF'.cap) (by rw [List.getElem?_set_ne (by decide), hA]; have := r9 NF V []; rw [List.append_nil] at this; exact this) (by simp) rfl fun w3 h => ?_
 have e3 : (A.set 11 (tNf NF' ((V ++ [(y, s5)]).map nRt))).set 9 (tBlk nb 37 [.slice NS.a NS.len NS.cap, .slice NF'.a NF'.len NF'.cap]) = R NF' (V ++ [(y, s5)]) := by
  rw [hA, hR]; rfl
 have h : Hp [] w0 w3 (R NF' (V ++ [(y, s5)])) := by rw [← e3]; exact h
 exact ⟨T.length - (j + 1), by omega, j + 1, NF', V ++ [(y, s5)], by rw [wr64 (by omega) (by omega)]; omega, by omega, rfl, by rw [List.map_append, hZ, List.take_add_one, hy]; rfl, h⟩
theorem now_rd {s1 s2 : Sl} {xs : List SV} {ys : List RV} {pb qb nb : Nat} {S F L M W NS NF : Sl} {Y : List QS} {T : List QR} {Z : List (QS × Sl)} {V : List (QR × Sl)} (hZ : Z.map (·.1) = Y) (hV : V.map (·.1) = T) (hY : ∀ y ∈ Y, y.Ok)
  (h : Hp [] w0 w (EN s1 s2 xs ys pb qb S F L M W Y T nb NS NF Z V ++ rest)) : RdS w NS ((Y.map (qSy g24)).map SV.m) ∧ RdR w NF ((T.map (qRt g24)).map RV.r) := by
 obtain ⟨O7, h7⟩ := h.see (i := 7) rfl
 obtain ⟨O10, h10⟩ := h.see (i := 10) rfl
 obtain ⟨O11, h11⟩ := h.see (i := 11) rfl
 have rg : ∀ {o : List Nat}, (∀ k ∈ o, k < w.heap.size) → ∀ k ∈ o, k ∈ List.range w.heap.size := fun h k hk => List.mem_range.2 (h k hk)
 constructor
 ·refine ⟨Z.map nSy, List.range w.heap.size, by rw [← hZ, List.map_map, List.map_map, List.map_map]; rfl, fun k hk => List.mem_range.1 hk, ?_, fun x hx => ?_⟩
  ·obtain ⟨o, ho⟩ := (Hp.nestRd (e := 54) (n := 8) (cells := syv) (sub := subR) (s := NS) (l := Z.map nSy)).rd h10
   exact ⟨o, ho, rg ho.lt⟩
  ·obtain ⟨y, hy, rfl⟩ := List.mem_map.1 hx
   have hy1 : y.1 ∈ Y := by rw [← hZ]; exact List.mem_map.2 ⟨y, hy, rfl⟩
   have ok := hY y.1 hy1
   have set : ∀ t ∈ y.1.q.sls, ∃ o, SlR w t.1 1 iv t.2 o ∧ ∀ k ∈ o, k ∈ List.range w.heap.size := fun t ht => by
    obtain ⟨u, hu, hr, hc⟩ := ok.sls t ht
    have hz : u.1 ∈ (PWs Y).map (·.1) := List.mem_map.2 ⟨u, List.mem_flatMap.2 ⟨y.1, hy1, hu⟩, rfl⟩
    have hl : u.1.2.length = t.2.length + 80 := by rw [hc, List.length_append]; unfold padI; rw [List.length_replicate]
    obtain ⟨o, ho⟩ := (Hp.nestSub (e := 52) (n := 1) (cells := siv) (s := M) hz (sub := tS) (hr.1 u.1.2 hl)).rd h7
    rw [hc, List.take_left] at ho
    exact ⟨o, ho, rg ho.lt⟩
   obtain ⟨o, ho⟩ := (Hp.nestSub (e := 54) (n := 8) (cells := syv) (s := NS) (sub := subR) hx Hp.rdSl).rd h10
   exact ⟨set (y.1.q.a, y.1.q.A) (by simp [SV.sls]), set (y.1.q.b, y.1.q.B) (by simp [SV.sls]), set (y.1.q.c, y.1.q.C) (by simp [SV.sls]), set (y.1.q.d, y.1.q.D) (by simp [SV.sls]), o, ho, rg ho.lt⟩
 ·refine ⟨V.map nRt, by rw [← hV, List.map_map, List.map_map, List.map_map]; rfl, ?_, fun x hx => ?_⟩
  ·exact (Hp.nestRd (e := 30) (n := 4) (cells := rtv) (sub := subI) (s := NF) (l := V.map nRt)).rd h11
  ·obtain ⟨y, hy, rfl⟩ := List.mem_map.1 hx
   exact (Hp.nestSub (e := 30) (n := 4) (cells := rtv) (s := NF) (sub := subI) hx Hp.rdSl).rd h11
end
end Go.Proofs.YtmfgofbcnlkolaaGreatDoor.F
end

section
namespace Go.Den
open Go
section
variable {α : Type} {n : Nat} {f : α → List Value} {e : TypeId}
def tBagP (n : Nat) (f : α → List Value) (P : Sl → α → Prop) : Thing :=
  { holds := fun w O => (∀ k ∈ O, k < w.heap.size) ∧ ∀ s y, P s y → s.len ≤ 1000000000000000 ∧ ∃ o, SlR w s n f (List.replicate s.len y) o ∧ ∀ k ∈ o, k ∈ O
    fr := fun {S w w' O} h hf hn => ⟨fun k hk => by have := h.1 k hk; have := hf.size; omega, fun s y hP => by
      obtain ⟨h1, o, h2, h3⟩ := h.2 s y hP
      exact ⟨h1, o, h2.fr hf (fun k hk => hn k (h3 k hk)), h3⟩⟩
    lt := fun h => h.1 }
def mkE (mk : Nat → α) (i : Nat) (x : Sl × List α) : Sl × List α := (x.1, List.replicate x.2.length (mk i))
def mkd (mk : Nat → α) (j : Nat) (es : List (Sl × List α)) : List (Sl × List α) := es.mapIdx fun i x => if i < j then mkE mk i x else x
theorem mkd_zero {mk : Nat → α} {es : List (Sl × List α)} : mkd mk 0 es = es := by
 apply List.ext_getElem?
 intro i
 unfold mkd
 rw [List.getElem?_mapIdx]
 cases es[i]? <;> simp
theorem mkd_len {mk : Nat → α} {j : Nat} {es : List (Sl × List α)} : (mkd mk j es).length = es.length := by unfold mkd; simp
theorem mkd_at {mk : Nat → α} {j : Nat} {es : List (Sl × List α)} {x : Sl × List α} (h : es[j]? = some x) : (mkd mk j es)[j]? = some x := by
 unfold mkd
 rw [List.getElem?_mapIdx, h]
 simp
theorem mkd_set {mk : Nat → α} {j : Nat} {es : List (Sl × List α)} {x : Sl × List α} (h : es[j]? = some x) : (mkd mk j es).set j (mkE mk j x) = mkd mk (j + 1) es := by
 apply List.ext_getElem?
 intro i
 have hlt := (List.getElem?_eq_some_iff.1 h).1
 rw [List.getElem?_set]
 unfold mkd
 rw [List.getElem?_mapIdx, List.getElem?_mapIdx]
 split
 ·rename_i e
  subst e
  rw [h, if_pos (by simpa using hlt)]
  simp
 ·rename_i e
  cases es[i]? with
  | none => rfl
  | some y =>
   simp only [Option.map_some, Option.some.injEq]
   by_cases hi : i < j
   ·rw [if_pos hi, if_pos (by omega)]
   ·rw [if_neg hi, if_neg (by omega)]
theorem mkd_all {mk : Nat → α} {es : List (Sl × List α)} {i : Nat} {x : Sl × List α} (h : es[i]? = some x) : (mkd mk es.length es)[i]? = some (mkE mk i x) := by
 unfold mkd
 have hlt := (List.getElem?_eq_some_iff.1 h).1
 rw [List.getElem?_mapIdx, h]
 simp [hlt]
theorem mkd_fst {mk : Nat → α} {j : Nat} {es : List (Sl × List α)} : (mkd mk j es).map (·.1) = es.map (·.1) := by
 apply List.ext_getElem?
 intro i
 unfold mkd
 rw [List.getElem?_map, List.getElem?_mapIdx, List.getElem?_map]
 cases es[i]? with
 | none => rfl
 | some y =>
  simp only [Option.map_some, Option.some.injEq]
  split <;> rfl
def Mkd (mk : Nat → α) (SS G : List Sl) (k : Nat) (s : Sl) (y : α) : Prop := ∃ i, i < k ∧ (SS[i]? = some s ∨ G[i]? = some s) ∧ y = mk i
end
namespace Hp
section
variable {S : List Nat} {w0 w : World} {its : List Thing}
variable {α : Type} {n : Nat} {f : α → List Value} {e : TypeId}
theorem bagP_nil (h : Hp S w0 w its) (n : Nat) (f : α → List Value) {P : Sl → α → Prop} (hP : ∀ s y, ¬ P s y) : Hp S w0 w (its ++ [tBagP n f P]) :=
 h.grow (Fr.refl _ _) (O := []) ⟨by simp, fun s y h => absurd h (hP s y)⟩ (by simp) rfl
theorem bagP_rd {P : Sl → α → Prop} {s : Sl} {y : α} (hP : P s y) : Reads (tBagP n f P) s n f (List.replicate s.len y) := ⟨fun {w O} h => by
 obtain ⟨_, o, h1, _⟩ := h.2 s y hP
 exact ⟨o, h1⟩⟩
theorem bagP_len (h : Hp S w0 w its) (i : Nat) {P : Sl → α → Prop} (hi : (its[i]?).map Thing.holds = some (tBagP n f P).holds) {s : Sl} {y : α} (hP : P s y) : s.len ≤ 1000000000000000 := by
 obtain ⟨O, hO⟩ := h.see' hi
 exact (hO.2 s y hP).1
theorem bagP_join (h : Hp S w0 w its) {i j : Nat} (hij : i ≠ j) {P P' : Sl → α → Prop} {s c : Sl} {y : α} (hi : its[i]? = some (tBagP n f P)) (hj : its[j]? = some (tShare (tRd s n f (List.replicate s.len y)) (tRd c n f (List.replicate c.len y))))
  (hs : s.len ≤ 1000000000000000) (hc : c.len ≤ 1000000000000000) (hP : ∀ s' y', P' s' y' → P s' y' ∨ (s' = s ∧ y' = y) ∨ (s' = c ∧ y' = y)) : Hp S w0 w ((its.set i (tBagP n f P')).set j tEmp) :=
 h.join hij hi hj rfl rfl rfl fun w O1 O2 h1 h2 _ => by
  obtain ⟨P1, P2, q1, q2, q3⟩ := h2
  refine ⟨fun k hk => ?_, fun s' y' hs' => ?_⟩
  ·rcases List.mem_append.1 hk with hk | hk
   ·exact h1.1 k hk
   ·exact ((q3 k).1 hk).elim (SlR.lt (n := n) q1 k) (SlR.lt (n := n) q2 k)
  ·rcases hP s' y' hs' with h | ⟨rfl, rfl⟩ | ⟨rfl, rfl⟩
   ·obtain ⟨g1, o, g2, g3⟩ := h1.2 s' y' h
    exact ⟨g1, o, g2, fun k hk => List.mem_append.2 (.inl (g3 k hk))⟩
   ·exact ⟨hs, P1, q1, fun k hk => List.mem_append.2 (.inr ((q3 k).2 (.inl hk)))⟩
   ·exact ⟨hc, P2, q2, fun k hk => List.mem_append.2 (.inr ((q3 k).2 (.inr hk)))⟩
end
end Hp
end Go.Den
end

section
namespace Go.Proofs.YtmfgofbcnlkolaaGreatDoor.F
open Go Go.Den Go.Proofs
theorem und34 : Tryz.prog.underlying 34 = some (.slice 5) := by kernel_rfl
theorem und62 : Tryz.prog.underlying 62 = some (.slice 34) := by kernel_rfl
theorem inf34 : ∃ inf : TypeInfo, Tryz.prog.info? 34 = some inf ∧ inf.zero = some (.slice none 0 0) ∧ inf.size = 1 ∧ inf.bytes = 24 := infoP (by kernel_rfl)
abbrev tSb (y : SI) : Thing := tSl y.1 5 1 u8v y.2
abbrev tBs (s : Sl) (l : List SI) : Thing := tNest 34 1 siv tSb id s l
section
variable {S : List Nat} {w0 w : World} {its rest : List Thing}
set_option maxHeartbeats 4000000 in
theorem bytes_3 (h : Hp S w0 w its) (i : Nat) {l : Sl} {es : List SI} (hi : its[i]? = some (tBs l es)) (hn3 : es.length = 3) (hlen : ∀ x ∈ es, x.2.length ≤ 1000000000000) {K : Bool → World → Prop}
  (hK : ∀ w' t, Hp S w0 w' (its.set i t) → K true w') :
  ∃ Inv_10 : Int → Nat → World → Prop, (∃ n : Nat, Inv_10 0 n w) ∧ ∀ i8 : Int, ∀ m19 : Nat, ∀ w : World, Inv_10 i8 m19 w → (if (decide (i8 < 3)) = true then (∃ Inv_11 : Int → Nat → World → Prop, (∃ n : Nat, Inv_11 0 n w) ∧ ∀ k4 : Int, ∀ m21 : Nat, ∀ w : World, Inv_11 k4 m21 w → (Ix (l.a) l.len i8 1 fun (a23 : Addr) =>
 Ld .sl w a23 fun (x26 : Sl) =>
 if (decide (k4 < (x26.len : Int))) = true then (Ix (l.a) l.len i8 1 fun (a24 : Addr) =>
 Ld .sl w a24 fun (x27 : Sl) =>
 Ix x27.a x27.len k4 1 fun (a25 : Addr) =>
 St a25 (.int .u8 (IntKind.u8.wrap (IntKind.i64.wrap (i8 + 1)))) w fun (w : World) =>
 ∃ m22 : Nat, m22 < m21 ∧ Inv_11 (IntKind.i64.wrap (k4 + 1)) m22 w) else (∃ m20 : Nat, m20 < m19 ∧ Inv_10 (IntKind.i64.wrap (i8 + 1)) m20 w))) else (∃ Inv_12 : Sl → Int → Nat → World → Prop, (∃ n : Nat, Inv_12 l 0 n w) ∧ ∀ l3 : Sl, ∀ i9 : Int, ∀ m23 : Nat, ∀ w : World, Inv_12 l3 i9 m23 w → (if (decide (i9 < 3)) = true then (Ix l3.a l3.len i9 1 fun (a26 : Addr) =>
 Ld .sl w a26 fun (w_2 : Sl) =>
 ∃ Inv_13 : Sl → Int → Nat → World → Prop, (∃ n : Nat, Inv_13 w_2 0 n w) ∧ ∀ w_3 : Sl, ∀ k5 : Int, ∀ m25 : Nat, ∀ w : World, Inv_13 w_3 k5 m25 w → (if (decide (k5 < 70)) = true then (Nw (.cells #[.int .u8 (IntKind.u8.wrap (IntKind.i64.wrap (i9 + 1)))] 5) w fun (b13 : Addr) (w : World) =>
 Run .sl Tryz.prog (Builtin.append_ #[34, 34] 34 #[.slice w_3.a w_3.len w_3.cap, .slice (some b13) 1 1]) w fun (w_4 : Sl) (w : World) =>
 ∃ m26 : Nat, m26 < m25 ∧ Inv_13 w_4 (IntKind.i64.wrap (k5 + 1)) m26 w) else (Nw (.cells #[.slice w_3.a w_3.len w_3.cap] 34) w fun (b14 : Addr) (w : World) =>
 Run .sl Tryz.prog (Builtin.append_ #[62, 62] 62 #[.slice l3.a l3.len l3.cap, .slice (some b14) 1 1]) w fun (l4 : Sl) (w : World) =>
 ∃ m24 : Nat, m24 < m23 ∧ Inv_12 l4 (IntKind.i64.wrap (i9 + 1)) m24 w))) else (∃ Inv_14 : Int → Nat → World → Prop, (∃ n : Nat, Inv_14 0 n w) ∧ ∀ i10 : Int, ∀ m27 : Nat, ∀ w : World, Inv_14 i10 m27 w → (if (decide (i10 < (l3.len : Int))) = true then (∃ Inv_15 : Int → Nat → World → Prop, (∃ n : Nat, Inv_15 0 n w) ∧ ∀ k6 : Int, ∀ m29 : Nat, ∀ w : World, Inv_15 k6 m29 w → (Ix l3.a l3.len i10 1 fun (a27 : Addr) =>
 Ld .sl w a27 fun (x28 : Sl) =>
 if (decide (k6 < (x28.len : Int))) = true then (Ix l3.a l3.len i10 1 fun (a28 : Addr) =>
 Ld .sl w a28 fun (x29 : Sl) =>
 Ix x29.a x29.len k6 1 fun (a29 : Addr) =>
 Ld (.i .u8) w a29 fun (x30 : Int) =>
 (3 : Int) ≠ 0 ∧ (if (x30 != (IntKind.u8.wrap (IntKind.i64.wrap ((Int.tmod i10 3) + 1)))) = true then (K false w) else (∃ m30 : Nat, m30 < m29 ∧ Inv_15 (IntKind.i64.wrap (k6 + 1)) m30 w))) else (∃ m28 : Nat, m28 < m27 ∧ Inv_14 (IntKind.i64.wrap (i10 + 1)) m28 w))) else (K true w)))))) := by
 have hn : es.length ≤ 1000000000 := by omega
 obtain ⟨inf, i1, i2, i3, i4⟩ := inf5
 obtain ⟨inf', j1, j2, j3, j4⟩ := inf34
 obtain ⟨O, h1, back⟩ := h.f1 hi rfl
 have fin : ∀ {w' : World} {r : List Thing} {t : Thing}, t.own = true → Hp.owns r = true → Hp O w w' (t :: r) → K true w' := fun {w' r t} ho hr h => hK w' t (back ho hr h).front
 clear h hK back
 have h := h1
 clear h1
 obtain ⟨mk, hmk⟩ : ∃ mk : Nat → Int, mk = fun i : Nat => (IntKind.u8.wrap (IntKind.i64.wrap ((i : Int) + 1)) : Int) := ⟨_, rfl⟩
 have hll := h.nest_see (e := 34) (n := 1) (cells := siv) (sub := tSb) (vis := id) (s := l) (l := es) 0 rfl
 have hll1 := hll.1
 have hN : es.length ≤ 1000000000 := hn
 refine ⟨fun i m w' => ∃ j : Nat, i = j ∧ j ≤ es.length ∧ m = es.length - j ∧ Hp O w w' [tBs l (mkd mk j es)], ⟨_, 0, rfl, by omega, rfl, by rw [mkd_zero]; exact h⟩, ?_⟩
 clear h
 rintro i m w1 ⟨j, rfl, hj, rfl, h⟩
 by_cases hend : j = es.length
 rotate_left
 ·obtain ⟨x, hx⟩ : ∃ x, es[j]? = some x := ⟨es[j]'(by omega), List.getElem?_eq_getElem (by omega)⟩
  have hxl := hlen x (List.mem_of_getElem? hx)
  refine ifT (by simp; omega) ?_
  have hjl : j < (mkd mk j es).length := by rw [mkd_len]; omega
  refine ⟨fun k m w' => ∃ q : Nat, k = q ∧ q ≤ x.2.length ∧ m = x.2.length - q ∧ Hp O w w' [tBs l ((mkd mk j es).set j (x.1, List.replicate q (mk j) ++ x.2.drop q))], ⟨_, 0, rfl, by omega, rfl, ?_⟩, ?_⟩
  ·rw [List.replicate_zero, List.nil_append, List.drop_zero, Hp.set_same' (mkd_at hx)]; exact h
  clear h
  rintro k m w2 ⟨q, rfl, hq, rfl, h⟩
  obtain ⟨z, hz⟩ : ∃ z : SI, z = (x.1, List.replicate q (mk j) ++ x.2.drop q) := ⟨_, rfl⟩
  rw [← hz] at h
  have hz1 : z.1 = x.1 := by rw [hz]
  have hz2 : z.2.length = x.2.length := by rw [hz]; simp; omega
  have hat : ((mkd mk j es).set j z)[j]? = some z := by rw [List.getElem?_set_self hjl]
  have hrd : Hp.Reads (tBs l ((mkd mk j es).set j z)) z.1 1 u8v z.2 := Hp.nestSub (List.mem_of_getElem? hat) Hp.rdSl
  have hln := h.lenU (u := tBs l ((mkd mk j es).set j z)) 0 rfl hrd
  refine h.ixldU (k := .sl) (u := tBs l ((mkd mk j es).set j z)) (y := z) (x := z.1) 0 rfl Hp.nestRd (by omega) (by rw [Int.toNat_natCast]; exact hat) (fun _ => rfl) rfl ?_
  by_cases hend2 : q = x.2.length
  ·refine ifF (by simp; omega) ?_
   have e : z = mkE mk j x := by rw [hz, hend2, List.drop_of_length_le (Nat.le_refl _)]; simp [mkE]
   rw [e, mkd_set hx] at h
   exact ⟨es.length - (j + 1), by omega, j + 1, by rw [wr64 (by omega) (by omega)]; omega, by omega, rfl, h⟩
  refine ifT (by simp; omega) ?_
  refine h.ixldU (k := .sl) (u := tBs l ((mkd mk j es).set j z)) (y := z) (x := z.1) 0 rfl Hp.nestRd (by omega) (by rw [Int.toNat_natCast]; exact hat) (fun _ => rfl) rfl ?_
  have h := h.hole (e := 34) (n := 1) (cells := siv) (sub := tSb) (s := l) (l := (mkd mk j es).set j z) (i := 0) (k := j) (z := z) rfl hat rfl
  have h : Hp O w w2 [tHole 34 1 siv tSb l ((mkd mk j es).set j z) j, tSb z] := h
  have ew : IntKind.u8.wrap (IntKind.i64.wrap ((j : Int) + 1)) = mk j := by rw [hmk]
  refine h.ixst 1 (y := mk j) rfl (by omega) (by rw [Int.toNat_natCast]; omega) u8v_len (by rw [ew]) rfl fun w4 h => ?_
  have e3 : z.2.set q (mk j) = List.replicate (q + 1) (mk j) ++ x.2.drop (q + 1) := by
   obtain ⟨c, hc⟩ : ∃ c, x.2[q]? = some c := ⟨x.2[q]'(by omega), List.getElem?_eq_getElem (by omega)⟩
   rw [hz]
   show (List.replicate q (mk j) ++ x.2.drop q).set q (mk j) = _
   rw [drop_cons hc, List.set_append_right _ _ (by simp)]
   have e4 : q - (List.replicate q (mk j)).length = 0 := by simp
   rw [e4, List.set_cons_zero, List.replicate_succ']
   simp
  rw [Int.toNat_natCast, e3] at h
  obtain ⟨z', hz'⟩ : ∃ z' : SI, z' = (x.1, List.replicate (q + 1) (mk j) ++ x.2.drop (q + 1)) := ⟨_, rfl⟩
  have h : Hp O w w4 [tHole 34 1 siv tSb l ((mkd mk j es).set j z) j, tSb z'] := by rw [hz1] at h; rw [hz']; exact h
  have h := h.unhole (e := 34) (n := 1) (cells := siv) (sub := tSb) (s := l) (l := (mkd mk j es).set j z) (i := 0) (m := 1) (k := j) (z := z) (z' := z') (by decide) rfl rfl hat (by show slv z'.1 = slv z.1; rw [hz', hz1]) rfl
  rw [List.set_set] at h
  have h : Hp O w w4 ([tBs l ((mkd mk j es).set j z')] ++ [tEmp]) := h
  have h := h.front
  rw [hz'] at h
  exact ⟨x.2.length - (q + 1), by omega, q + 1, by rw [wr64 (by omega) (by omega)]; omega, by omega, rfl, h⟩
 refine ifF (by simp; omega) ?_
 subst hend
 obtain ⟨M, hM⟩ : ∃ M, M = mkd mk es.length es := ⟨_, rfl⟩
 rw [← hM] at h
 have hMl : M.length = es.length := by rw [hM, mkd_len]
 obtain ⟨SS, hSS⟩ : ∃ SS : List Sl, SS = es.map (·.1) := ⟨_, rfl⟩
 have hSl : SS.length = es.length := by rw [hSS, List.length_map]
 have hMat : ∀ {i : Nat} {x : SI}, es[i]? = some x → M[i]? = some (mkE mk i x) ∧ SS[i]? = some x.1 := fun {i x} hx => ⟨by rw [hM]; exact mkd_all hx, by rw [hSS, List.getElem?_map, hx]; rfl⟩
 have hdl : ∀ x ∈ es, x.2.length = x.1.len := fun x hx => by
  obtain ⟨i, hi⟩ := List.mem_iff_getElem?.1 hx
  have hrd : Hp.Reads (tBs l M) x.1 1 u8v (mkE mk i x).2 := Hp.nestSub (sub := tSb) (List.mem_of_getElem? (hMat hi).1) Hp.rdSl
  have := h.lenU (u := tBs l M) 0 rfl hrd
  rw [← this]
  unfold mkE
  rw [List.length_replicate]
 obtain ⟨xs, hxs, h⟩ := h.nest_open (e := 34) (n := 1) (cells := siv) (sub := tSb) (vis := id) (s := l) (l := M) (i := 0) rfl
 rw [List.map_id] at hxs
 subst hxs
 have h : Hp O w w1 [tSl l 34 1 siv xs, tAll (xs.map tSb)] := h
 have h := h.weak (i := 0) (t' := tSl l 34 1 slv SS) rfl rfl (fun w O h => SlF.conv (by
  have e1 : xs.map siv = (xs.map (·.1)).map slv := by rw [List.map_map]; rfl
  rw [e1, hM, mkd_fst, hSS]) h) rfl
 have h := h.bagP_nil 1 u8v (P := Mkd mk SS [] 0) (fun s y ⟨i, hi, _⟩ => by omega)
 have h : Hp O w w1 [tSl l 34 1 slv SS, tAll (xs.map tSb), tBagP 1 u8v (Mkd mk SS [] 0)] := h
 refine ⟨fun l2 i m w' => ∃ (k : Nat) (G : List Sl), i = k ∧ k ≤ es.length ∧ m = es.length - k ∧ G.length = k ∧ Hp O w w' [tSl l2 34 1 slv (SS ++ G), tAll ((xs.drop k).map tSb), tBagP 1 u8v (Mkd mk SS G k)], ⟨_, 0, [], rfl, by omega, rfl, rfl, by rw [List.append_nil, List.drop_zero]; exact h⟩, ?_⟩
 clear h
 rintro l2 i m w2 ⟨k, G, rfl, hk, rfl, hG, h⟩
 have hl2 := h.len (s := l2) (e := 34) (n := 1) (f := slv) (l := SS ++ G) 0 rfl
 rw [List.length_append, hSl, hG] at hl2
 by_cases hend : k = es.length
 rotate_left
 ·obtain ⟨x, hx⟩ : ∃ x, es[k]? = some x := ⟨es[k]'(by omega), List.getElem?_eq_getElem (by omega)⟩
  have hxl := hlen x (List.mem_of_getElem? hx)
  have hxd := hdl x (List.mem_of_getElem? hx)
  obtain ⟨hx1, hx2⟩ := hMat hx
  refine ifT (by simp; omega) ?_
  refine h.ixldU (k := .sl) (u := tSl l2 34 1 slv (SS ++ G)) (y := x.1) (x := x.1) 0 rfl Hp.rdSl (by omega) (by rw [Int.toNat_natCast, List.getElem?_append_left (by omega)]; exact hx2) (fun _ => rfl) rfl ?_
  rw [drop_cons hx1, List.map_cons] at h
  have h := h.pick (i := 1) (k := 0) (t := tSb (mkE mk k x)) rfl rfl rfl
  have h := h.allDel (i := 1) 0 rfl
  have h : Hp O w w2 [tSl l2 34 1 slv (SS ++ G), tAll ((xs.drop (k + 1)).map tSb), tBagP 1 u8v (Mkd mk SS G k), tSl x.1 5 1 u8v (List.replicate x.2.length (mk k))] := h
  have h := h.lc_start (j := 3) (e := 5) (n := 1) (f := u8v) (l := x.1) (y := mk k) (p := x.2.length) rfl
  have ew : IntKind.u8.wrap (IntKind.i64.wrap ((k : Int) + 1)) = mk k := by rw [hmk]
  refine ⟨fun c t m w' => ∃ q : Nat, t = q ∧ q ≤ 70 ∧ m = 70 - q ∧ Hp O w w' [tSl l2 34 1 slv (SS ++ G), tAll ((xs.drop (k + 1)).map tSb), tBagP 1 u8v (Mkd mk SS G k), tLC 5 1 u8v x.1 c (mk k) x.2.length (x.2.length + q)], ⟨_, 0, rfl, by omega, rfl, h⟩, ?_⟩
  clear h
  rintro c t m w3 ⟨q, rfl, hq, rfl, h⟩
  by_cases hend2 : q = 70
  rotate_left
  ·refine ifT (by simp; omega) ?_
   refine h.lc_app (c' := 1) 3 (mk k) rfl u8v_len und34 i1 i3 i2 rfl (by rw [ew]) (by simp [Value.oneCell']) (by rw [i4]; omega) (by omega) fun c2 w4 h => ?_
   exact ⟨70 - (q + 1), by omega, q + 1, by rw [wr64 (by omega) (by omega)]; omega, by omega, rfl, h⟩
  refine ifF (by simp; omega) ?_
  subst hend2
  have hcl := (h.lc_len 3 rfl).1
  have h := h.lc_done (j := 3) rfl
  have h : Hp O w w3 [tSl l2 34 1 slv (SS ++ G), tAll ((xs.drop (k + 1)).map tSb), tBagP 1 u8v (Mkd mk SS G k), tShare (tRd x.1 1 u8v (List.replicate x.1.len (mk k))) (tRd c 1 u8v (List.replicate c.len (mk k)))] := by
   rw [hcl, ← hxd]; exact h
  refine h.nwapp (c' := 1) 0 c (s := l2) (l := SS ++ G) rfl (fun _ => rfl) und62 j1 j3 j2 rfl rfl (by simp [Value.oneCell']) (by rw [j4]; omega) (by omega) fun l3 w4 h _ _ => ?_
  have h := h.bagP_join (i := 2) (j := 3) (by decide) (P' := Mkd mk SS (G ++ [c]) (k + 1)) (s := x.1) (c := c) (y := mk k) rfl rfl (by omega) (by omega) (fun s' y' ⟨i, hi, hor, hy⟩ => by
   by_cases hik : i = k
   ·subst hik
    rcases hor with hs | hs
    ·rw [hx2] at hs
     exact .inr (.inl ⟨(Option.some.inj hs).symm, hy⟩)
    ·rw [List.getElem?_append_right (by omega), hG, Nat.sub_self] at hs
     exact .inr (.inr ⟨(Option.some.inj hs).symm, hy⟩)
   ·refine .inl ⟨i, by omega, ?_, hy⟩
    rcases hor with hs | hs
    ·exact .inl hs
    ·rw [List.getElem?_append_left (by omega)] at hs
     exact .inr hs)
  rw [List.append_assoc] at h
  have h : Hp O w w4 ([tSl l3 34 1 slv (SS ++ (G ++ [c])), tAll ((xs.drop (k + 1)).map tSb), tBagP 1 u8v (Mkd mk SS (G ++ [c]) (k + 1))] ++ [tEmp]) := h
  exact ⟨es.length - (k + 1), by omega, k + 1, G ++ [c], by rw [wr64 (by omega) (by omega)]; omega, by omega, rfl, by rw [List.length_append, hG]; rfl, h.front⟩
 refine ifF (by simp; omega) ?_
 subst hend
 refine ⟨fun i m w' => ∃ j : Nat, i = j ∧ j ≤ 2 * es.length ∧ m = 2 * es.length - j ∧ Hp O w w' [tSl l2 34 1 slv (SS ++ G), tAll ((xs.drop es.length).map tSb), tBagP 1 u8v (Mkd mk SS G es.length)], ⟨_, 0, rfl, by omega, rfl, h⟩, ?_⟩
 clear h
 rintro i m w3 ⟨j, rfl, hj, rfl, h⟩
 by_cases hend : j = 2 * es.length
 ·exact ifF (by simp; omega) (fin (r := []) rfl rfl (h.trim 1))
 obtain ⟨s, hs⟩ : ∃ s, (SS ++ G)[j]? = some s := ⟨(SS ++ G)[j]'(by rw [List.length_append]; omega), List.getElem?_eq_getElem _⟩
 have hP : Mkd mk SS G es.length s (mk (j % es.length)) := by
  by_cases hjn : j < es.length
  ·rw [List.getElem?_append_left (by omega)] at hs
   exact ⟨j, hjn, .inl hs, by rw [Nat.mod_eq_of_lt hjn]⟩
  ·rw [List.getElem?_append_right (by omega), hSl] at hs
   refine ⟨j - es.length, by omega, .inr hs, ?_⟩
   rw [Nat.mod_eq_sub_mod (by omega), Nat.mod_eq_of_lt (by omega)]
 have hsl := h.bagP_len 2 rfl hP
 refine ifT (by simp; omega) ?_
 refine ⟨fun k m w' => ∃ q : Nat, k = q ∧ q ≤ s.len ∧ m = s.len - q ∧ Hp O w w' [tSl l2 34 1 slv (SS ++ G), tAll ((xs.drop es.length).map tSb), tBagP 1 u8v (Mkd mk SS G es.length)], ⟨_, 0, rfl, by omega, rfl, h⟩, ?_⟩
 clear h
 rintro k m w4 ⟨q, rfl, hq, rfl, h⟩
 refine h.ixldU (k := .sl) (u := tSl l2 34 1 slv (SS ++ G)) (y := s) (x := s) 0 rfl Hp.rdSl (by omega) (by rw [Int.toNat_natCast]; exact hs) (fun _ => rfl) rfl ?_
 by_cases hend2 : q = s.len
 ·exact ifF (by simp; omega) ⟨2 * es.length - (j + 1), by omega, j + 1, by rw [wr64 (by omega) (by omega)]; omega, by omega, rfl, h⟩
 ·refine ifT (by simp; omega) ?_
  refine h.ixldU (k := .sl) (u := tSl l2 34 1 slv (SS ++ G)) (y := s) (x := s) 0 rfl Hp.rdSl (by omega) (by rw [Int.toNat_natCast]; exact hs) (fun _ => rfl) rfl ?_
  have hrd : Hp.Reads (tBagP 1 u8v (Mkd mk SS G es.length)) s 1 u8v (List.replicate s.len (mk (j % es.length))) := Hp.bagP_rd hP
  refine h.ixldU (k := .i .u8) (u := tBagP 1 u8v (Mkd mk SS G es.length)) (y := mk (j % es.length)) (x := mk (j % es.length)) 2 rfl hrd (by omega) (by rw [Int.toNat_natCast, List.getElem?_replicate, if_pos (by omega)]) u8v_len rfl ?_
  refine ⟨by omega, ?_⟩
  have htm : Int.tmod (j : Int) (3 : Int) = ((j % es.length : Nat) : Int) := by
   rw [Int.tmod_eq_emod_of_nonneg (by omega)]
   rw [hn3]; omega
  have hjm : j % es.length < es.length := Nat.mod_lt _ (by omega)
  have ewm : IntKind.u8.wrap (IntKind.i64.wrap ((Int.tmod (j : Int) 3) + 1)) = mk (j % es.length) := by
   rw [hmk, htm]
  refine ifF (by rw [ewm]; simp) ?_
  exact ⟨s.len - (q + 1), by omega, q + 1, by rw [wr64 (by omega) (by omega)]; omega, by omega, rfl, h⟩
end
def encB (p : PG) : List Int := if mayM p = true then encPg p else []
def errE (p : PG) : Int := if mayM p = true then 0 else 130
theorem encB_bytes {p : PG} (hok : p.Ok) : Bytes (encB p) ∧ (encB p).length ≤ 10000000 := by
 unfold encB
 split
 ·rename_i hm
  exact enc_bytes_len hm hok
 ·exact ⟨fun x hx => absurd hx (by simp), by simp⟩
def rtG (g : List Ins → List Ins) (r : RT) : RT := ⟨r.nm, r.pa, r.lo, (g r.code).take r.code.length⟩
def syG (g : List Ins → List Ins) (s : SY) : SY := ⟨s.A, s.B, s.C, s.D, rtG g s.run⟩
theorem qSy_m {g : List Ins → List Ins} {y : QS} (h : y.Ok) : (qSy g y).m = syG g y.x.m := by
 obtain ⟨a1, a2, a3, a4, a5⟩ := sy_eq.1 h.m
 obtain ⟨b1, b2, b3, b4⟩ := rt_eq.1 a5
 refine sy_eq.2 ⟨a1, a2, a3, a4, rt_eq.2 ⟨rfl, b2, b3, b4⟩⟩
theorem qRt_m {g : List Ins → List Ins} {y : QR} (h : y.Ok) : (qRt g y).r = rtG g y.x.r := by
 obtain ⟨b1, b2, b3, b4⟩ := rt_eq.1 h.m
 exact rt_eq.2 ⟨rfl, b2, b3, b4⟩
theorem qSys_m {g : List Ins → List Ins} {Y : List QS} {xs : List SV} (h : ∀ y ∈ Y, y.Ok) (hx : Y.map QS.x = xs) : (Y.map (qSy g)).map SV.m = (xs.map SV.m).map (syG g) := by
 rw [← hx, List.map_map, List.map_map, List.map_map]
 exact List.map_congr_left fun y hy => qSy_m (h y hy)
theorem qRts_m {g : List Ins → List Ins} {T : List QR} {ys : List RV} (h : ∀ y ∈ T, y.Ok) (hx : T.map QR.x = ys) : (T.map (qRt g)).map RV.r = (ys.map RV.r).map (rtG g) := by
 rw [← hx, List.map_map, List.map_map, List.map_map]
 exact List.map_congr_left fun y hy => qRt_m (h y hy)
def g0 (c : List Ins) : List Ins := c ++ pad7
theorem g0_len (c : List Ins) : (g0 c).length = c.length + 80 := by unfold g0 pad7; simp
theorem rtG0 (r : RT) : rtG g0 r = r := by
 unfold rtG g0
 rw [List.take_left]
theorem syG0 (s : SY) : syG g0 s = s := by unfold syG; rw [rtG0]
theorem map_id' {α : Type} {f : α → α} (h : ∀ x, f x = x) (l : List α) : l.map f = l := by
 have : f = id := funext h
 rw [this, List.map_id]
theorem rtG_ok {r : RT} (h : r.Ok) : (rtG g24 r).Ok := ⟨by
  show ((g24 r.code).take r.code.length).length ≤ _
  have := h.len
  rw [List.length_take]
  omega, fun x hx => by
  have hx : x ∈ (g24 r.code).take r.code.length := hx
  have := List.eq_of_mem_replicate (List.mem_of_mem_take hx)
  rw [this]
  decide⟩
section
variable {w0 w : World} {its rest : List Thing}
theorem Encode_v {s1 s2 : Sl} {p : PG} (hs : RdS w s1 p.sys) (hr : RdR w s2 p.fns) (hok : p.Ok) {K : Sl → Int → World → Prop}
  (hK : ∀ r w', Hp [] w w' [tB r (encB p)] → K r (errE p) w') : c22 s1 s2 w K :=
 Encode_spec hs hr hok (fun hm r w' h => by
  have := hK r w'
  unfold encB errE at this
  rw [if_pos hm, if_pos hm] at this
  exact this h) (fun hm w' h => by
  have := hK ⟨none, 0, 0⟩ w'
  unfold encB errE at this
  rw [if_neg (by rw [hm]; decide), if_neg (by rw [hm]; decide)] at this
  exact this (h.nil 5 1 u8v))
theorem REncode_v {s1 s2 : Sl} {p : PG} (hs : RdS w s1 p.sys) (hr : RdR w s2 p.fns) (hok : p.Ok) {K : Sl → Int → World → Prop}
  (hK : ∀ r w', Hp [] w w' [tB r (encB p)] → K r (errE p) w') : c23 s1 s2 w K :=
 REncode_spec hs hr hok (fun hm r w' h => by
  have := hK r w'
  unfold encB errE at this
  rw [if_pos hm, if_pos hm] at this
  exact this h) (fun hm w' h => by
  have := hK ⟨none, 0, 0⟩ w'
  unfold encB errE at this
  rw [if_neg (by rw [hm]; decide), if_neg (by rw [hm]; decide)] at this
  exact this (h.nil 5 1 u8v))
set_option maxHeartbeats 8000000 in
theorem encodes_spec {w : World} (hG : Glob w) {s1 s2 : Sl} {xs : List SV} {ys : List RV} (hsm : Small xs ys) (hS : (tSys s1 xs).holds w (List.range w.heap.size)) (hR : (tRts s2 ys).holds w (List.range w.heap.size)) {K : Bool → World → Prop} (hK : ∀ w', Hp [] w w' [] → K true w') : c5 s1 s2 w K := by
 refine c5_of ?_
 unfold f5
 have hok : PG.Ok ⟨xs.map SV.m, ys.map RV.r⟩ := ⟨fun s hs => by
  obtain ⟨x, hx, rfl⟩ := List.mem_map.1 hs
  exact (hsm.sys x hx).1, fun r hr => by
  obtain ⟨y, hy, rfl⟩ := List.mem_map.1 hr
  exact (hsm.fns y hy).1⟩
 have hok24 : PG.Ok ⟨(xs.map SV.m).map (syG g24), (ys.map RV.r).map (rtG g24)⟩ := ⟨fun s hs => by
  obtain ⟨x, hx, rfl⟩ := List.mem_map.1 hs
  have := hok.sys x hx
  exact ⟨rtG_ok this.run, this.lens⟩, fun r hr => by
  obtain ⟨y, hy, rfl⟩ := List.mem_map.1 hr
  exact rtG_ok (hok.fns y hy)⟩
 obtain ⟨p, hp⟩ : ∃ p : PG, p = ⟨xs.map SV.m, ys.map RV.r⟩ := ⟨_, rfl⟩
 obtain ⟨p2, hp2⟩ : ∃ p : PG, p = ⟨(xs.map SV.m).map (syG g24), (ys.map RV.r).map (rtG g24)⟩ := ⟨_, rfl⟩
 obtain ⟨eb, el⟩ := encB_bytes hok
 obtain ⟨eb2, el2⟩ := encB_bytes hok24
 have h : Hp [] w w [(tSys s1 xs).ro, (tRts s2 ys).ro] := ((Hp.init w).addRo hS (by simp)).addRo hR (by simp)
 refine h.nw fun pb w1 h => ?_
 refine shown_spec h hG fun w1 h => ?_
 refine pg_copy h (s1 := n3) (s2 := n3) fun qb w1 h => ?_
 have h := ((h.nil 54 8 syv).nil 30 4 rtv).nest_nil 28 1 scv subC id
 have h := (h.nest_nil 52 1 siv tS id).nil 52 1 slv
 have h : Hp [] w w1 (EA s1 s2 xs ys pb qb n3 n3 n3 n3 n3 [] [] []) := h
 refine enc_sys hsm h fun S L0 M W Y w1 hY hYk h => ?_
 refine enc_fns hsm hY h fun F L T w1 hT hTk h => ?_
 clear hS hR
 have e0 : (ALL Y T).map pad0 = (ALL Y T).map (gC g0) := rfl
 have pS : ∀ {w' : World} {lc : List SC} {B : List Thing}, Hp [] w w' (EA s1 s2 xs ys pb qb S F L M W Y T lc ++ B) → RdS w' s1 (xs.map SV.m) ∧ RdR w' s2 (ys.map RV.r) := fun {w' lc B} h => by
  obtain ⟨O, hO⟩ := h.see (i := 0) rfl
  obtain ⟨O', hO'⟩ := h.see (i := 1) rfl
  exact ⟨⟨xs, O, rfl, hO⟩, RdR.of hO'⟩
 have qS : ∀ {w' : World} {g : List Ins → List Ins} {B : List Thing}, (∀ c, (g c).length = c.length + 80) → Hp [] w w' (EA s1 s2 xs ys pb qb S F L M W Y T ((ALL Y T).map (gC g)) ++ B) → RdS w' S ((xs.map SV.m).map (syG g)) ∧ RdR w' F ((ys.map RV.r).map (rtG g)) := fun {w' g B} hg h => by
  have := q_rd hYk hTk hg h
  rw [qSys_m hYk hY, qRts_m hTk hT] at this
  exact this
 have lp : ∀ {w' : World} {lc : List SC} {B : List Thing} {G : Sl → Prop}, Hp [] w w' (EA s1 s2 xs ys pb qb S F L M W Y T lc ++ B) → G s1 → Ld .sl w' ⟨pb, 0, none⟩ G := fun {w' lc B G} h hG => h.ld0 (k := .sl) (x := s1) 2 rfl rfl hG
 have lp1 : ∀ {w' : World} {lc : List SC} {B : List Thing} {G : Sl → Prop}, Hp [] w w' (EA s1 s2 xs ys pb qb S F L M W Y T lc ++ B) → G s2 → Ld .sl w' ((⟨pb, 0, none⟩ : Addr).add 1) G := fun {w' lc B G} h hG => h.ld (n := 1) (k := .sl) (x := s2) 2 rfl rfl hG
 have lq : ∀ {w' : World} {lc : List SC} {B : List Thing} {G : Sl → Prop}, Hp [] w w' (EA s1 s2 xs ys pb qb S F L M W Y T lc ++ B) → G S → Ld .sl w' ⟨qb, 0, none⟩ G := fun {w' lc B G} h hG => h.ld0 (k := .sl) (x := S) 3 rfl rfl hG
 have lq1 : ∀ {w' : World} {lc : List SC} {B : List Thing} {G : Sl → Prop}, Hp [] w w' (EA s1 s2 xs ys pb qb S F L M W Y T lc ++ B) → G F → Ld .sl w' ((⟨qb, 0, none⟩ : Addr).add 1) G := fun {w' lc B G} h hG => h.ld (n := 1) (k := .sl) (x := F) 3 rfl rfl hG
 have a0 : ∀ {w' : World} {A : List Thing}, Hp [] w w' A → Hp [] w w' (A ++ []) := fun h => by rw [List.append_nil]; exact h
 have h := a0 h
 refine lq h (lq1 h ?_)
 have hq := qS g0_len h
 rw [map_id' syG0, map_id' rtG0] at hq
 refine Encode_v (p := ⟨xs.map SV.m, ys.map RV.r⟩) hq.1 hq.2 hok fun b6 w2 h2 => ?_
 have h := h.front.r0 (rest := [tB b6 (encB ⟨xs.map SV.m, ys.map RV.r⟩)]) rfl h2
 refine lp h (lp1 h ?_)
 refine REncode_v (p := ⟨xs.map SV.m, ys.map RV.r⟩) (pS h).1 (pS h).2 hok fun c w3 h3 => ?_
 have h := h.r0 (rest := [tB c (encB ⟨xs.map SV.m, ys.map RV.r⟩)]) rfl h3
 clear h2 h3 hq
 rw [← hp] at h eb el hok ⊢
 have h : Hp [] w w3 (EA s1 s2 xs ys pb qb S F L M W Y T ((ALL Y T).map pad0) ++ [tB b6 (encB p), tB c (encB p)]) := by rw [List.append_assoc] at h; exact h
 have rdl : ∀ {w' : World} {A B : List Thing} {r : Sl} {G : ByteArray → Prop}, Hp [] w w' (A ++ (tB r (encB p) :: B)) → G (strOf (encB p)) → RdB w' ⟨r.a, r.len, r.cap⟩ G := fun {w' A B r G} h hG =>
  h.rdb A.length (u := tB r (encB p)) (by rw [List.getElem?_append_right (Nat.le_refl _), Nat.sub_self]; rfl) Hp.rdSl (strOf (encB p)) (strL_of eb) hG
 refine ⟨fun w' => Hp [] w w' (EA s1 s2 xs ys pb qb S F L M W Y T ((ALL Y T).map pad0) ++ [tB b6 (encB p), tB c (encB p)]), ?_, ?_⟩
 ·refine ifF (by decide) ?_
  refine rdl h ?_
  have h' : Hp [] w w3 ((EA s1 s2 xs ys pb qb S F L M W Y T ((ALL Y T).map pad0) ++ [tB b6 (encB p)]) ++ [tB c (encB p)]) := by rw [List.append_assoc]; exact h
  refine rdl h' ?_
  exact ifF (by simp) (ifF (by simp) h)
 clear h
 intro w4 h
 refine lp h (lp1 h (lq h (lq1 h ?_)))
 have hq := qS g0_len h
 rw [map_id' syG0, map_id' rtG0] at hq
 refine programs_spec (p := ⟨xs.map SV.m, ys.map RV.r⟩) (q := ⟨xs.map SV.m, ys.map RV.r⟩) (pS h).1 (pS h).2 hq.1 hq.2 (by rw [← hp]; exact hok) (by have := hsm.n; simp; omega) (by have := hsm.m; simp; omega) fun kept w5 hk h5 => ?_
 obtain rfl := hk.2 rfl
 have h := h.keep h5.fr
 clear h5 hk hq
 refine enc_kinds hsm hY hYk h fun w5 h => ?_
 refine enc_lists hsm hY hT h fun w5 h => ?_
 refine enc_step hsm hY hT h fun w5 h => ?_
 clear eb2 el2
 -- the program asv it is now
 refine pg_copy h (s1 := n3) (s2 := n3) fun nb w5 h => ?_
 have h := (h.nest_nil 54 8 syv subR id).nest_nil 30 4 rtv subI id
 have h : Hp [] w w5 (EA s1 s2 xs ys pb qb S F L M W Y T ((ALL Y T).map pad24) ++ [tB b6 (encB p), tB c (encB p)] ++ [tBlk nb 37 [.slice n3.a n3.len n3.cap, .slice n3.a n3.len n3.cap], tNs n3 [], tNf n3 []]) := by
  simpa only [List.append_assoc, List.cons_append, List.nil_append] using h
 have h : Hp [] w w5 (EN s1 s2 xs ys pb qb S F L M W Y T nb n3 n3 [] [] ++ [tB b6 (encB p), tB c (encB p)]) := h.swap2
 refine enc_nows hsm hY hYk h fun NS Z w6 hZ h => ?_
 refine enc_nowf hsm hT hTk h fun NF V w7 hV h => ?_
 have nS := fun {w' : World} {B : List Thing} (h : Hp [] w w' (EN s1 s2 xs ys pb qb S F L M W Y T nb NS NF Z V ++ B)) => by
  have := now_rd hZ hV hYk h
  rw [qSys_m hYk hY, qRts_m hTk hT] at this
  exact this
 have ea : ∀ {w' : World} {B : List Thing}, Hp [] w w' (EN s1 s2 xs ys pb qb S F L M W Y T nb NS NF Z V ++ B) → Hp [] w w' (EA s1 s2 xs ys pb qb S F L M W Y T ((ALL Y T).map (gC g24)) ++ ([tBlk nb 37 [.slice NS.a NS.len NS.cap, .slice NF.a NF.len NF.cap], tNs NS (Z.map nSy), tNf NF (V.map nRt)] ++ B)) := fun {w' B} h => by
  have h : Hp [] w w' (EA s1 s2 xs ys pb qb S F L M W Y T ((ALL Y T).map pad24) ++ [tBlk nb 37 [.slice NS.a NS.len NS.cap, .slice NF.a NF.len NF.cap], tNs NS (Z.map nSy), tNf NF (V.map nRt)] ++ B) := h
  rw [List.append_assoc] at h
  exact h
 refine lq (ea h) (lq1 (ea h) ?_)
 have hq := qS g24_len (ea h)
 refine Encode_v (p := ⟨(xs.map SV.m).map (syG g24), (ys.map RV.r).map (rtG g24)⟩) hq.1 hq.2 hok24 fun yb w8 h8 => ?_
 have h := h.r0 (rest := [tB yb (encB ⟨(xs.map SV.m).map (syG g24), (ys.map RV.r).map (rtG g24)⟩)]) rfl h8
 rw [List.append_assoc] at h
 refine h.ld0 (k := .sl) (x := NS) 9 rfl rfl ?_
 refine h.ld (n := 1) (k := .sl) (x := NF) 9 rfl rfl ?_
 refine REncode_v (p := ⟨(xs.map SV.m).map (syG g24), (ys.map RV.r).map (rtG g24)⟩) (nS h).1 (nS h).2 hok24 fun vb w9 h9 => ?_
 have h := h.r0 (rest := [tB vb (encB ⟨(xs.map SV.m).map (syG g24), (ys.map RV.r).map (rtG g24)⟩)]) rfl h9
 clear h8 h9 hq
 obtain ⟨eb2, el2⟩ := encB_bytes hok24
 rw [← hp2] at h eb2 ⊢
 obtain ⟨A, hA⟩ : ∃ A, A = EN s1 s2 xs ys pb qb S F L M W Y T nb NS NF Z V ++ [tB b6 (encB p), tB c (encB p)] := ⟨_, rfl⟩
 have h : Hp [] w w9 (A ++ [tB yb (encB p2)] ++ [tB vb (encB p2)]) := by
  rw [hA]
  simpa only [List.append_assoc, List.cons_append, List.nil_append] using h
 refine h.rdb A.length (u := tB yb (encB p2)) (by rw [mid1]; rfl) Hp.rdSl (strOf (encB p2)) (strL_of eb2) ?_
 refine h.rdb (A.length + 1) (u := tB vb (encB p2)) (by rw [last2]; rfl) Hp.rdSl (strOf (encB p2)) (strL_of eb2) ?_
 refine ifF (by simp) ?_
 have h := h.front.front
 -- another one, and the same again
 refine h.nwS (l := [(⟨⟨#[102]⟩, 0, 0, n3, []⟩ : RV)]) (f := rtv) (n := 4) (m := 1) rfl rfl rtv_len fun fb w10 h => ?_
 have hF : RdS w10 n3 ([] : List SY) ∧ RdR w10 ⟨some ⟨fb, 0, none⟩, 1, 1⟩ [(⟨⟨#[102]⟩, 0, 0, []⟩ : RT)] := by
  refine ⟨⟨[], [], rfl, by simp, ⟨[], SlR.nil rfl, by simp⟩, by simp⟩, ?_⟩
  obtain ⟨O, hO⟩ := h.see (i := A.length) List.getElem?_concat_length
  exact ⟨[⟨⟨#[102]⟩, 0, 0, n3, []⟩], rfl, ⟨O, SlF.toR hO⟩, fun x hx => by
   rw [List.mem_singleton.1 hx]
   exact ⟨[], SlR.nil rfl⟩⟩
 refine Encode_v (p := ⟨[], [⟨⟨#[102]⟩, 0, 0, []⟩]⟩) hF.1 hF.2 ⟨by simp, fun r hr => by
  rw [List.mem_singleton.1 hr]
  exact ⟨by decide, fun x hx => by cases hx⟩⟩ fun xb w11 h11 => ?_
 have ex : encB ⟨[], [⟨⟨#[102]⟩, 0, 0, []⟩]⟩ = [0, 1, 1, 102, 0, 0, 0] := by decide +kernel
 rw [ex] at h11
 have h := h.front.r0 (rest := [tB xb [0, 1, 1, 102, 0, 0, 0]]) rfl h11
 clear h11 hF
 have hE : ∀ {w' : World} {B : List Thing}, Hp [] w w' (A ++ B) → Hp [] w w' (EA s1 s2 xs ys pb qb S F L M W Y T ((ALL Y T).map (gC g24)) ++ ([tBlk nb 37 [.slice NS.a NS.len NS.cap, .slice NF.a NF.len NF.cap], tNs NS (Z.map nSy), tNf NF (V.map nRt)] ++ ([tB b6 (encB p), tB c (encB p)] ++ B))) := fun {w' B} h => by
  rw [hA, List.append_assoc] at h
  exact ea h
 refine lp (hE h) (lp1 (hE h) ?_)
 refine Encode_v (p := ⟨xs.map SV.m, ys.map RV.r⟩) (pS (hE h)).1 (pS (hE h)).2 (by rw [← hp]; exact hok) fun d w12 h12 => ?_
 rw [← hp] at h12 ⊢
 have h := h.r0 (rest := [tB d (encB p)]) rfl h12
 clear h12
 obtain ⟨E0, hE0⟩ : ∃ E0, E0 = EN s1 s2 xs ys pb qb S F L M W Y T nb NS NF Z V := ⟨_, rfl⟩
 rw [← hE0] at hA
 have h : Hp [] w w12 (E0 ++ [tB b6 (encB p), tB c (encB p), tB xb [0, 1, 1, 102, 0, 0, 0], tB d (encB p)]) := by
  rw [hA] at h
  simpa only [List.append_assoc, List.cons_append, List.nil_append] using h
 have at_ : ∀ (k : Nat) (t : Thing), [tB b6 (encB p), tB c (encB p), tB xb [0, 1, 1, 102, 0, 0, 0], tB d (encB p)][k]? = some t → ((E0 ++ [tB b6 (encB p), tB c (encB p), tB xb [0, 1, 1, 102, 0, 0, 0], tB d (encB p)])[E0.length + k]?).map Thing.holds = some t.holds := fun k t ht => by
  rw [List.getElem?_append_right (by omega)]
  rw [show E0.length + k - E0.length = k by omega, ht]; rfl
 refine ⟨fun w' => Hp [] w w' (E0 ++ [tB b6 (encB p), tB c (encB p), tB xb [0, 1, 1, 102, 0, 0, 0], tB d (encB p)]), ?_, ?_⟩
 ·refine ifF (by decide) ?_
  refine h.rdb (E0.length + 3) (u := tB d (encB p)) (at_ 3 _ rfl) Hp.rdSl (strOf (encB p)) (strL_of eb) ?_
  refine h.rdb (E0.length + 1) (u := tB c (encB p)) (at_ 1 _ rfl) Hp.rdSl (strOf (encB p)) (strL_of eb) ?_
  refine ifF (by simp) (ifF (by simp) ?_)
  refine h.rdb (E0.length + 0) (u := tB b6 (encB p)) (at_ 0 _ rfl) Hp.rdSl (strOf (encB p)) (strL_of eb) ?_
  refine h.rdb (E0.length + 1) (u := tB c (encB p)) (at_ 1 _ rfl) Hp.rdSl (strOf (encB p)) (strL_of eb) ?_
  refine ifF (by simp) ?_
  refine h.rdb (E0.length + 2) (u := tB xb [0, 1, 1, 102, 0, 0, 0]) (at_ 2 _ rfl) Hp.rdSl ⟨#[0, 1, 1, 102, 0, 0, 0]⟩ rfl ?_
  exact ifF (by simp) h
 clear h
 intro w13 h
 have h : Hp [] w w13 (E0 ++ [tB b6 (encB p)] ++ [tB c (encB p)] ++ [tB xb [0, 1, 1, 102, 0, 0, 0], tB d (encB p)]) := by
  simpa only [List.append_assoc, List.cons_append, List.nil_append] using h
 have h := h.cutMid
 refine h.nwS (l := [b6, xb, d]) (f := slv) (n := 1) (m := 3) rfl rfl (fun _ => rfl) fun bb w14 h => ?_
 have h : Hp [] w w14 (E0 ++ [tB b6 (encB p), tB xb [0, 1, 1, 102, 0, 0, 0], tB d (encB p)] ++ [tSl ⟨some ⟨bb, 0, none⟩, 3, 3⟩ 34 1 slv [b6, xb, d]]) := by
  simpa only [List.append_assoc, List.cons_append, List.nil_append] using h
 have h := h.up
 have h := h.weak (i := E0.length) (t' := tSl ⟨some ⟨bb, 0, none⟩, 3, 3⟩ 34 1 siv [(b6, encB p), (xb, [0, 1, 1, 102, 0, 0, 0]), (d, encB p)]) (by rw [List.getElem?_append_right (Nat.le_refl _), Nat.sub_self]; rfl) rfl (fun w O h => SlF.conv rfl h) rfl
 rw [List.set_append_right _ _ (Nat.le_refl _), Nat.sub_self, List.set_cons_zero] at h
 have h := h.nest_make (e := 34) (n := 1) (cells := siv) (sub := tSb) (vis := id) (s := ⟨some ⟨bb, 0, none⟩, 3, 3⟩) (xs := [(b6, encB p), (xb, [0, 1, 1, 102, 0, 0, 0]), (d, encB p)]) rfl
 rw [List.map_id] at h
 refine bytes_3 h E0.length (l := ⟨some ⟨bb, 0, none⟩, 3, 3⟩) (es := [(b6, encB p), (xb, [0, 1, 1, 102, 0, 0, 0]), (d, encB p)]) List.getElem?_concat_length rfl ?_ fun w15 t h => ?_
 ·intro x hx
  simp only [List.mem_cons, List.not_mem_nil, or_false] at hx
  rcases hx with rfl | rfl | rfl
  ·show (encB p).length ≤ _; omega
  ·show ([0, 1, 1, 102, 0, 0, 0] : List Int).length ≤ 1000000000000; decide
  ·show (encB p).length ≤ _; omega
 ·exact hK w15 (frNil h.fr)
end
end Go.Proofs.YtmfgofbcnlkolaaGreatDoor.F
end

section
namespace Go.Proofs.YtmfgofbcnlkolaaGreatDoor.FW
open F
open Go Go.Den Go.Proofs Go.RowKit
theorem encodes_call {w : World} (hG : Glob w) {n : Nat} {cp : Array Value} (hp : cp.toList.length = 2) (h : RdV Tryz.prog w 1048576 n 37 cp.toList) :
  Calls Tryz.prog 5 #[.agg cp] w fun e w' => e = .returned (.bool true) ∧ Below w.heap.size w w' := by
 obtain ⟨s1, s2, xs, ys, e1, ⟨_, b1⟩, ⟨_, b2⟩, ok1, ok2, _, _, hS, hR⟩ := dec_pg hp h
 have e' : cp = #[.slice s1.a s1.len s1.cap, .slice s2.a s2.len s2.cap] := by
  apply Array.toList_inj.1
  exact e1
 subst e'
 exact calls_true (encodes_spec hG ⟨b1, b2, ok1, ok2⟩ hS hR fun w' hf => ⟨rfl, hf.fr⟩)
end Go.Proofs.YtmfgofbcnlkolaaGreatDoor.FW
end
