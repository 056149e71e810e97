/-
  Contracts of package table: Remove, Clone.
-/
import Derived.Test.YtfghoeojpnnkiaaC05b
import Derived.Laws.Externs

set_option linter.unusedSimpArgs false
set_option linter.unusedVariables false
namespace Go.Proofs.Ytfghoeojpnnkiaa.F
open Go Go.Den Go.Proofs

/-- Remove. -/
def TabM.delM (m : TabM) (row : Int) : TabM × Ent × Bool × Int :=
  if 0 ≤ row ∧ row < m.rows.length then (m.del row.toNat, if row = m.rows.length - 1 then ((0, 0), false, 0) else (m.owners.getD (m.rows.length - 1) (0, 0), true, 0)) else (m, (0, 0), false, 50)

def TabM.delK (m : TabM) (row k : Nat) : List (List Int) := (List.range m.n).map fun c => if c < k then (m.del row).col c else m.col c

theorem delK_get (m : TabM) (row : Nat) {k : Nat} (h : k < m.n) : (m.delK row k)[k]? = some (m.col k) := by
  simp [TabM.delK, h]
theorem delK_zero (m : TabM) (row : Nat) : m.delK row 0 = m.cols := by simp [TabM.delK, TabM.cols]
theorem delK_all (m : TabM) (row : Nat) : m.delK row m.n = (m.del row).cols := by
  unfold TabM.delK TabM.cols
  refine List.map_congr_left fun c hc => ?_
  rw [if_pos (List.mem_range.1 hc)]
theorem delK_succ (m : TabM) (row : Nat) {k : Nat} (h : k < m.n) : (m.delK row k).set k ((m.del row).col k) = m.delK row (k + 1) := by
  unfold TabM.delK
  apply List.ext_getElem?
  intro c
  rw [List.getElem?_set]
  simp only [List.getElem?_map, List.length_map, List.length_range]
  by_cases hc : c < m.n
  · rw [List.getElem?_range hc]
    by_cases e : k = c
    · subst e; simp [h]
    · simp only [if_neg e, Option.map_some]
      congr 1
      by_cases h1 : c < k
      · rw [if_pos h1, if_pos (by omega)]
      · rw [if_neg h1, if_neg (by omega)]
  · rw [List.getElem?_eq_none (by simp; omega), if_neg (by omega)]
    rfl
theorem del_owners_eq (m : TabM) (row : Nat) (h : 0 < m.rows.length) : (m.del row).owners = (m.owners.set row (m.owners.getD (m.rows.length - 1) (0, 0))).take (m.rows.length - 1) := by
  have hl := m.owners_len
  apply List.ext_getElem?
  intro i
  rw [TabM.del_owners m row i h, List.getElem?_take]
  split
  · rw [List.getElem?_set]
    by_cases e : row = i
    · rw [if_pos e.symm, if_pos e, if_pos (by omega)]
      simp [show m.rows.length - 1 < m.owners.length by omega]
    · rw [if_neg (fun h => e h.symm), if_neg e]
  · rfl

section
variable {S : List Nat} {w0 w : World} {its : List Thing}

theorem Remove_spec (h : Hp S w0 w its) (i : Nat) {b : Nat} {m : TabM} (hok : m.Ok) (hi : its[i]? = some (tTab b m)) {row : Int} {K : Int → Int → Bool → Int → World → Prop}
    (hK : ∀ w', Hp S w0 w' (its.set i (tTab b (m.delM row).1)) → K (m.delM row).2.1.1 (m.delM row).2.1.2 (m.delM row).2.2.1 (m.delM row).2.2.2 w') : c11 (some ⟨b, 0, none⟩) row w K := by
  refine c11_of ?_
  unfold f11
  obtain ⟨O, h1, back⟩ := h.f1 hi rfl
  refine h1.nw (c := [_, _]) fun ba w1 h1 => ?_
  refine there_spec h1 0 rfl ?_
  unfold TabM.delM at hK
  by_cases hr : 0 ≤ row ∧ row < m.rows.length
  · rw [if_pos hr] at hK
    refine ifF (by simp [hr]) ?_
    obtain ⟨so, sc, ss, bm, hn, h1⟩ := tab_open h1 (i := 0) rfl
    have hlo := h1.len 2 rfl
    have hol := m.owners_len
    have hlc := h1.len 3 rfl
    have hr200 := hok.r200
    have hn48 := hok.n48
    have hpos : 0 < m.rows.length := by omega
    have hsl : (so.len : Int) = m.rows.length := by omega
    have hlast : IntKind.i64.wrap ((so.len : Int) - 1) = (m.rows.length : Int) - 1 := by rw [wr64 (by omega) (by omega)]; omega
    rw [← hlast] at hK
    generalize hL : IntKind.i64.wrap ((so.len : Int) - 1) = L at hlast hK
    have hLn : L.toNat = m.rows.length - 1 := by omega
    have hrl : row.toNat < m.owners.length := by omega
    have hll : L.toNat < m.owners.length := by omega
    have hge : m.owners.getD (m.rows.length - 1) (0, 0) = m.owners[L.toNat] := by simp [hLn, show m.rows.length - 1 < m.owners.length by omega]
    refine nns ?_
    refine h1.ld0 (x := so) 0 rfl rfl ?_
    rw [hL]
    refine h1.dr fun w1 h1 => ?_
    refine nns ?_
    refine h1.ld (x := some bm) 0 rfl rfl ?_
    refine nns ?_
    refine h1.ld0 (x := so) 0 rfl rfl ?_
    refine h1.ixld2 (k := .i .i64) (k' := .i .i64) (y := m.owners[row.toNat]) 2 rfl hr.1 (by simp [hrl]) ent_len rfl rfl ?_
    refine Hp.delete (ek := entV) (ev := Value.int .i64) (k := m.owners[row.toNat]) h1 5 rfl rfl und60 keyEnt fun nv w1 h1 => ?_
    refine nns ?_
    refine h1.ld0 (x := so) 0 rfl rfl ?_
    refine h1.ixld2 (k := .i .i64) (k' := .i .i64) (y := m.owners[L.toNat]) 2 rfl (by omega) (by simp [hll]) ent_len rfl rfl ?_
    refine h1.nw (c := [_, _]) fun bv w1 h1 => ?_
    refine h1.st0 6 rfl (by simp) rfl fun w1 h1 => ?_
    refine h1.st 6 rfl (by simp) rfl fun w1 h1 => ?_
    refine nns ?_
    refine h1.ld (x := sc) 0 rfl rfl ?_
    refine ⟨fun t mm w' => ∃ (k : Nat) (ss : List Sl), t = k ∧ k ≤ m.n ∧ mm = m.n - k ∧ ss.length = m.n ∧ Hp O w w' [tBlk b 63 [.slice so.a so.len so.cap, .slice sc.a sc.len sc.cap, .map (some bm)], tBlk ba 32 [.int .i64 0, .int .i64 0], tSl so 32 2 ent m.owners, tSl sc 34 1 slv ss, tCols ss (m.delK row.toNat k), tMp bm entV (Value.int .i64) (upd1 (atI m) m.owners[row.toNat] none), tBlk bv 32 [.int .i64 m.owners[L.toNat].1, .int .i64 m.owners[L.toNat].2]],
      ⟨m.n, 0, ss, rfl, by omega, rfl, hn, by rw [delK_zero]; exact h1⟩, ?_⟩
    rintro t mm w2 ⟨k, ss, rfl, hk, rfl, hn, h1⟩
    by_cases hlt : k < m.n
    · refine ifT (by simp; omega) ?_
      refine h1.ixld (y := ss[k]) (x := ss[k]) 3 rfl (by omega) (by simp [hn, hlt]) slv_len rfl ?_
      have hcs : k < ss.length := by omega
      have hget := tCols_get (List.getElem?_eq_getElem hcs) (delK_get m row.toNat hlt)
      have h1 := h1.pick (i := 4) rfl hget rfl
      have hcl := h1.len 7 rfl
      rw [TabM.col_len] at hcl
      have hkl : L.toNat < (m.col k).length := by rw [TabM.col_len]; omega
      refine h1.ixld (k := .i .i64) (y := (m.col k)[L.toNat]) (x := (m.col k)[L.toNat]) 7 rfl (by omega) (by simp) iv_len rfl ?_
      refine h1.ixst 7 rfl hr.1 (by rw [TabM.col_len]; omega) iv_len (y := (m.col k)[L.toNat]) rfl rfl fun w1 h1 => ?_
      refine h1.dr fun w1 h1 => ?_
      refine nns ?_
      refine h1.ld (x := sc) 0 rfl rfl ?_
      have hcap := h1.cap 7 rfl
      refine h1.cut 7 (s := ss[k]) rfl iv_len (Int.le_refl 0) (by omega) (by omega) (by omega) (by omega) fun s h1 _ _ _ => ?_
      refine h1.ixst 3 rfl (by omega) (by simp; omega) slv_len (y := s) rfl rfl fun w1 h1 => ?_
      have h1 := h1.unpick (i := 4) (j := 7) (k := k) (by omega) rfl rfl (by
        rw [List.getElem?_set_self]; exact (List.getElem?_eq_some_iff.1 hget).1) rfl
      have h1 := h1.trim 7
      refine ⟨m.n - (k + 1), by omega, k + 1, ss.set k s, by rw [wr64 (by omega) (by omega)]; omega, by omega, rfl, by simpa using hn, ?_⟩
      have e : tCols (ss.set k s) (m.delK row.toNat (k + 1)) = tAll (((List.zipWith tCol ss (m.delK row.toNat k)).set k tEmp).set k (tCol s ((((m.col k).set row.toNat (m.col k)[L.toNat]).take L.toNat).drop (0 : Int).toNat))) := by
        rw [List.set_set, tCols_set]
        unfold tCols
        rw [← delK_succ m row.toNat hlt, TabM.del_col m _ _ hpos, ← hLn]
        have : (m.col k).getD L.toNat 0 = (m.col k)[L.toNat] := by simp [hkl]
        rw [this]; rfl
      rw [e]
      exact h1
    · refine ifF (by simp; omega) ?_
      have hkn : k = m.n := by omega
      subst hkn
      refine h1.dr fun w1 h1 => ?_
      refine nns ?_
      refine h1.ld0 (x := so) 0 rfl rfl ?_
      refine h1.ld0 (k := .i .i64) 6 rfl rfl ?_
      refine h1.ld (k := .i .i64) 6 rfl rfl ?_
      refine h1.ixst2 2 rfl hr.1 (by omega) ent_len (y := m.owners[L.toNat]) rfl rfl rfl fun w1 h1 => ?_
      refine nns ?_
      refine h1.ld0 (x := so) 0 rfl rfl ?_
      have hcap := h1.cap 2 rfl
      refine h1.cut 2 (s := so) rfl ent_len (Int.le_refl 0) (by omega) (by omega) (by omega) (by omega) fun s h1 _ _ _ => ?_
      refine nns ?_
      refine h1.st0 0 rfl (by simp) rfl fun w1 h1 => ?_
      have eo : (((m.owners.set row.toNat m.owners[L.toNat]).take L.toNat).drop (0 : Int).toNat) = (m.del row.toNat).owners := by
        rw [del_owners_eq m row.toNat hpos, hge]
        exact congrArg (fun n => List.take n (m.owners.set row.toNat m.owners[L.toNat])) hLn
      have hat := TabM.del_at hok (row := row.toNat) (e := m.owners[row.toNat]) (l := m.owners[L.toNat]) (by simp) (by rw [← hLn]; simp)
      by_cases hrow : row = L
      · rw [if_pos hrow] at hK
        rw [if_pos (by omega)] at hat
        refine ifT (by simpa using hrow) ?_
        refine h1.st0 1 rfl (by simp) rfl fun w1 h1 => ?_
        refine h1.st 1 rfl (by simp) rfl fun w1 h1 => ?_
        refine h1.ld0 (k := .i .i64) 1 rfl rfl ?_
        refine h1.ld (k := .i .i64) 1 rfl rfl ?_
        have h2 := h1.sel5 0 2 3 4 5 (by decide) rfl rfl rfl rfl rfl
        rw [eo, hat, delK_all] at h2
        have h3 := back (rest := []) rfl rfl (tab_close (m := m.del row.toNat) (rest := []) hn h2)
        rw [List.append_nil] at h3
        exact hK w1 h3
      · rw [if_neg hrow, hge] at hK
        rw [if_neg (by omega)] at hat
        refine ifF (by simpa using hrow) ?_
        refine h1.dr fun w1 h1 => ?_
        refine nns ?_
        refine h1.ld (x := some bm) 0 rfl rfl ?_
        refine h1.ld0 (k := .i .i64) 6 rfl rfl ?_
        refine h1.ld (k := .i .i64) 6 rfl rfl ?_
        refine Hp.update (ek := entV) (ev := Value.int .i64) (v := ((row.toNat : Nat) : Int)) (k := m.owners[L.toNat]) h1 5 rfl rfl und60 keyEnt (by congr 1; omega) fun w1 h1 => ?_
        refine h1.ld0 (k := .i .i64) 6 rfl rfl ?_
        refine h1.ld (k := .i .i64) 6 rfl rfl ?_
        refine h1.st0 1 rfl (by simp) rfl fun w1 h1 => ?_
        refine h1.st 1 rfl (by simp) rfl fun w1 h1 => ?_
        refine h1.ld0 (k := .i .i64) 1 rfl rfl ?_
        refine h1.ld (k := .i .i64) 1 rfl rfl ?_
        have h2 := h1.sel5 0 2 3 4 5 (by decide) rfl rfl rfl rfl rfl
        rw [eo, hat, delK_all] at h2
        have h3 := back (rest := []) rfl rfl (tab_close (m := m.del row.toNat) (rest := []) hn h2)
        rw [List.append_nil] at h3
        exact hK w1 h3
  · rw [if_neg hr] at hK
    refine ifT (by simp only [decide_eq_false hr]; rfl) ?_
    refine h1.st0 1 rfl (by simp) rfl fun w1 h1 => ?_
    refine h1.st 1 rfl (by simp) rfl fun w1 h1 => ?_
    refine h1.ld0 (k := .i .i64) 1 rfl rfl ?_
    refine h1.ld (k := .i .i64) 1 rfl rfl ?_
    have h3 := back (rest := []) rfl rfl (h1.sel1 0 rfl)
    rw [List.append_nil] at h3
    exact hK w1 h3

/-- What the model does for maps.clone. -/
theorem run_clone {b : Nat} {es : Array MapEntry} {clock : Nat} (hb : w.heap[b]? = some (.map es clock)) :
    (callFunc 30 #[.iface 60 (.map (some b))]).run Try.prog w = .ok (.value (.iface 60 (.map (some w.heap.size)))) (w.alloc (.map es clock)) := by
  rw [run_callFunc_extern (P := Try.prog) (fn := Try.f30) (e := Extern.MapsClone.clone) (by kernel_rfl) (by kernel_rfl) (by kernel_rfl) (by kernel_rfl) (by kernel_rfl)]
  have e : Extern.MapsClone.clone #[.iface 60 (.map (some b))] = (getObj b >>= fun o => match o with
      | .map entries clock => (newObj (.map entries clock) >>= fun n => pure (.iface 60 (.map (some n))))
      | _ => stuck "maps.clone: a map expected") := rfl
  rw [e]
  simp [MapKept.run_getObj_map hb]

theorem MClone_spec (h : Hp S w0 w its) (i : Nat) {b : Nat} {g : Ent → Option Int} (hi : (its[i]?).map Thing.holds = some (tMp b entV (Value.int .i64) g).holds) {K : Option Nat → World → Prop} (hK : ∀ b' w', Hp S w0 w' (its ++ [tMp b' entV (Value.int .i64) g]) → K (some b') w') : c23 (some b) w K := by
  refine c23_of ?_
  unfold f23
  obtain ⟨O, l, ⟨⟨es, clock, hb, hes⟩, rfl⟩, hnd, hg⟩ := h.see' hi
  refine ifF (by simp) ?_
  refine ⟨_, _, run_clone hb, ?_⟩
  have h1 : Hp S w0 (w.alloc (.map es clock)) (its ++ [tMp w.heap.size entV (Value.int .i64) g]) :=
    h.grow (Fr.alloc w _) (t := tMp w.heap.size entV (Value.int .i64) g) (O := [w.heap.size]) ⟨l, ⟨⟨es, clock, by show (w.heap.push _)[w.heap.size]? = _; simp, hes⟩, rfl⟩, hnd, hg⟩ (by simp) rfl
  refine ⟨.map (some w.heap.size), fun w' _ => ?_, hK _ _ h1⟩
  simp [Instr.typeAssert, run_underlying und60, Kd.inj]

theorem tCols_push {ss : List Sl} {ls : List (List Int)} (hl : ss.length = ls.length) (s : Sl) (l : List Int) : List.zipWith tCol (ss ++ [s]) (ls ++ [l]) = List.zipWith tCol ss ls ++ [tCol s l] := by
  rw [List.zipWith_append hl]; rfl

/-- Clone. -/
theorem Clone_spec (h : Hp S w0 w its) (i : Nat) {b : Nat} {m : TabM} (hok : m.Ok) (hi : (its[i]?).map Thing.holds = some (tTab b m).holds) {K : Option Addr → World → Prop}
    (hK : ∀ b' w', Hp S w0 w' (its ++ [tTab b' m]) → K (some ⟨b', 0, none⟩) w') : c15 (some ⟨b, 0, none⟩) w K := by
  refine c15_of ?_
  unfold f15
  obtain ⟨so, sc, ss, bm, hn, h1⟩ := tab_see h i hi
  have hol := m.owners_len
  have hlc := h1.len 2 rfl
  have hr200 := hok.r200
  have hn48 := hok.n48
  refine h1.dr fun w1 h1 => ?_
  refine nns ?_
  refine h1.ld0 (x := so) 0 rfl rfl ?_
  refine nns ?_
  refine h1.ld (x := some bm) 0 rfl rfl ?_
  refine Clone22_spec h1 1 rfl (by omega) fun r w1 h1 => ?_
  refine ⟨h1.cel 0 rfl rfl, ?_⟩
  refine MClone_spec h1 4 rfl fun bm' w1 h1 => ?_
  refine h1.nw (c := [_, _, _]) fun c w1 h1 => ?_
  refine nns ?_
  refine h1.ld (x := sc) 0 rfl rfl ?_
  have h1 := h1.nil 34 1 slv
  have h1 := h1.grow (Fr.refl _ _) (t := tCols [] []) (O := []) rfl (by simp) rfl
  refine ⟨fun t mm w' => ∃ (k : Nat) (sn : Sl) (sl : List Sl), t = k ∧ k ≤ m.n ∧ mm = m.n - k ∧ sl.length = k ∧ Hp [] w w' [(tBlk b 63 [.slice so.a so.len so.cap, .slice sc.a sc.len sc.cap, .map (some bm)]).ro, (tSl so 32 2 ent m.owners).ro, (tSl sc 34 1 slv ss).ro, (tCols ss m.cols).ro, (tMp bm entV (Value.int .i64) (atI m)).ro,
      tSl r 32 2 ent m.owners, tMp bm' entV (Value.int .i64) (atI m), tBlk c 63 [.slice r.a r.len r.cap, .slice sn.a sn.len sn.cap, .map (some bm')], tSl sn 34 1 slv sl, tCols sl (m.cols.take k)],
    ⟨m.n, 0, ⟨none, 0, 0⟩, [], rfl, by omega, rfl, rfl, h1⟩, ?_⟩
  rintro t mm w2 ⟨k, sn, sl, rfl, hk, rfl, hsl, h1⟩
  by_cases hlt : k < m.n
  · refine ifT (by simp; omega) ?_
    have hcs : k < ss.length := by omega
    refine h1.ixld (y := ss[k]) (x := ss[k]) 2 rfl (by omega) (by simp [hcs]) slv_len rfl ?_
    refine h1.dr fun w1 h1 => ?_
    refine h1.ld (x := sn) 7 rfl rfl ?_
    have h1 := col_see h1 3 rfl (List.getElem?_eq_getElem hcs) (m.cols_get hlt)
    refine Clone21_spec h1 10 rfl (by rw [TabM.col_len]; omega) fun r3 w1 h1 => ?_
    refine ⟨h1.cel 7 rfl rfl, ?_⟩
    have hsn := h1.len 8 rfl
    obtain ⟨inf, q1, q2, q3, q4⟩ := inf34
    refine h1.nwapp (c := [_]) 8 r3 rfl slv_len und51 q1 q3 q2 rfl rfl (by simp [slv, Value.oneCell']) (by rw [q4]; omega) (by omega) fun s w1 h1 _ _ => ?_
    refine h1.st 7 rfl (by simp) rfl fun w1 h1 => ?_
    have h1 := h1.join (i := 9) (j := 11) (c := tCols (sl ++ [r3]) (m.cols.take (k + 1))) (by omega) rfl rfl (tAll_own _) rfl (tAll_own _) (fun w O1 O2 g1 g2 g3 => by
      have e : m.cols.take (k + 1) = m.cols.take k ++ [m.col k] := by
        rw [List.take_add_one, m.cols_get hlt]; rfl
      unfold tCols
      rw [e, tCols_push (by rw [List.length_take, TabM.cols_len]; omega)]
      refine tAll_append g1 (us := [tCol r3 (m.col k)]) ⟨O2, [], g2, rfl, by simp, by simp⟩ g3)
    have h1 := h1.trim 10
    exact ⟨m.n - (k + 1), by omega, k + 1, s, sl ++ [r3], by rw [wr64 (by omega) (by omega)]; omega, by omega, rfl, by simpa using hsl, h1⟩
  · refine ifF (by simp; omega) ?_
    have hkn : k = m.n := by omega
    have h2 := h1.sel5 7 5 8 9 6 (by decide) rfl rfl rfl rfl rfl
    rw [List.take_of_length_le (by rw [TabM.cols_len]; omega)] at h2
    exact hK c _ (h.r0 rfl (tab_close (rest := []) (by omega) h2))

end
end Go.Proofs.Ytfghoeojpnnkiaa.F
