/-
  Contracts of package table: what each function does to a table.
-/
import Derived.Test.YtfghoeojpnnkiaaF05
import Derived.Test.YtfghoeojpnnkiaaDenZ
set_option linter.unusedSimpArgs false
set_option linter.unusedVariables false
namespace Go.Proofs.Ytfghoeojpnnkiaa.F
open Go Go.Den Go.Proofs

abbrev Ent := Int × Int
def entV (e : Ent) : Value := .agg #[.int .i64 e.1, .int .i64 e.2]
def ent (e : Ent) : List Value := [.int .i64 e.1, .int .i64 e.2]
def iv (n : Int) : List Value := [.int .i64 n]
def slv (s : Sl) : List Value := [.slice s.a s.len s.cap]
theorem ent_len (e : Ent) : (ent e).length = 2 := rfl
theorem iv_len (e : Int) : (iv e).length = 1 := rfl
theorem slv_len (e : Sl) : (slv e).length = 1 := rfl

theorem eqEnt {x y : Operand} {a b c d : Int} {w : World} {K : Bool → Prop} (hK : K (a == c && b == d)) :
    RunRo .b Try.prog (binSem .eql 32 x y (.agg #[.int .i64 a, .int .i64 b]) (.agg #[.int .i64 c, .int .i64 d])) w K := by
  refine runEq (r := (a == c && (b == d && true))) (by kernel_rfl) (by kernel_rfl) (by kernel_rfl) (by kernel_rfl) ?_
  rw [Bool.and_true]; exact hK
theorem neEnt {x y : Operand} {a b c d : Int} {w : World} {K : Bool → Prop} (hK : K (!(a == c && b == d))) :
    RunRo .b Try.prog (binSem .neq 32 x y (.agg #[.int .i64 a, .int .i64 b]) (.agg #[.int .i64 c, .int .i64 d])) w K := by
  refine runNe (r := (a == c && (b == d && true))) (by kernel_rfl) (by kernel_rfl) (by kernel_rfl) (by kernel_rfl) ?_
  rw [Bool.and_true]; exact hK

theorem und32 : Try.prog.underlying 32 = some (.struct (Try.prog.fieldsOf 32)) := by kernel_rfl
theorem keyEnt : KeyT Try.prog 32 entV := by
  refine keyT_struct und32 (fun a => ⟨_, rfl, ?_, ?_⟩) (fun w a b => ?_)
  · have hfs : (Try.prog.fieldsOf 32).toList.map (fun f => (Try.prog.underlying f.type, f.offset)) = [(some (.int .i64), 0), (some (.int .i64), 1)] := by kernel_rfl
    intro f hf
    have : (Try.prog.underlying f.type, f.offset) ∈ [(some (TypeDesc.int .i64), 0), (some (.int .i64), 1)] := by
      rw [← hfs]; exact List.mem_map.2 ⟨f, hf, rfl⟩
    simp only [List.mem_cons, Prod.mk.injEq, List.not_mem_nil, or_false] at this
    rcases this with ⟨h1, h2⟩ | ⟨h1, h2⟩
    · exact ⟨.i64, a.1, h1, by rw [h2]; rfl⟩
    · exact ⟨.i64, a.2, h1, by rw [h2]; rfl⟩
  · show Instr.sameBits (9999 + 1) _ _ = true
    simp [Instr.sameBits]
  · obtain ⟨a1, a2⟩ := a
    obtain ⟨b1, b2⟩ := b
    have e : (Op.equal 32 (entV (a1, a2)) (entV (b1, b2))).run Try.prog w = .ok (a1 == b1 && (a2 == b2 && true)) w := by
      show (Op.equalIn (9998 + 1 + 1) 32 (.agg _) (.agg _)).run Try.prog w = _
      rw [run_equalIn_struct (P := Try.prog) w (9998 + 1) 32 _ _ und32 (by kernel_rfl)]
      exact of_eqFs (by kernel_rfl)
    rw [e]
    congr 1
    by_cases h1 : a1 = b1
    · by_cases h2 : a2 = b2
      · simp [h1, h2]
      · have : ¬ b2 = a2 := fun e => h2 e.symm
        simp [h1, h2, this]
    · have : ¬ b1 = a1 := fun e => h1 e.symm
      simp [h1, this]

theorem inf32 : ∃ inf : TypeInfo, Try.prog.info? 32 = some inf ∧ inf.zero = some (.agg #[.int .i64 0, .int .i64 0]) ∧ inf.size = 2 ∧ inf.bytes = 16 := infoP (by kernel_rfl)
theorem inf2 : ∃ inf : TypeInfo, Try.prog.info? 2 = some inf ∧ inf.zero = some (.int .i64 0) ∧ inf.size = 1 ∧ inf.bytes = 8 := infoP (by kernel_rfl)
theorem inf34 : ∃ inf : TypeInfo, Try.prog.info? 34 = some inf ∧ inf.zero = some (.slice none 0 0) ∧ inf.size = 1 ∧ inf.bytes = 24 := infoP (by kernel_rfl)
theorem und34 : Try.prog.underlying 34 = some (.slice 2) := by kernel_rfl
theorem und61 : Try.prog.underlying 61 = some (.slice 32) := by kernel_rfl
theorem und51 : Try.prog.underlying 51 = some (.slice 34) := by kernel_rfl
theorem und60 : Try.prog.underlying 60 = some (.map 32 3) := by kernel_rfl
theorem inf3 : ∃ inf : TypeInfo, Try.prog.info? 3 = some inf ∧ inf.zero = some (.int .i64 0) ∧ inf.size = 1 ∧ inf.bytes = 8 := infoP (by kernel_rfl)

/-! ### What a table holds -/

structure TabM where
  n : Nat
  rows : List (Ent × List Int)

namespace TabM
def owners (m : TabM) : List Ent := m.rows.map (·.1)
def col (m : TabM) (c : Nat) : List Int := m.rows.map fun r => r.2.getD c 0
def cols (m : TabM) : List (List Int) := (List.range m.n).map m.col
/-- Where an entity's row stands. -/
def at_ (m : TabM) (e : Ent) : Option Nat := m.owners.findIdx? fun x => decide (x = e)
structure Ok (m : TabM) : Prop where
  n48 : m.n ≤ 48
  r200 : m.rows.length ≤ 200
  nd : m.owners.Nodup
  len : ∀ r ∈ m.rows, r.2.length = m.n
theorem owners_len (m : TabM) : m.owners.length = m.rows.length := by simp [owners]
theorem col_len (m : TabM) (c : Nat) : (m.col c).length = m.rows.length := by simp [col]
theorem cols_len (m : TabM) : m.cols.length = m.n := by simp [cols]
theorem cols_get (m : TabM) {c : Nat} (h : c < m.n) : m.cols[c]? = some (m.col c) := by simp [cols, h]
end TabM

def atI (m : TabM) (e : Ent) : Option Int := (m.at_ e).map fun (i : Nat) => (i : Int)
def tCol (s : Sl) (l : List Int) : Thing := tSl s 2 1 iv l
def tCols (ss : List Sl) (ls : List (List Int)) : Thing := tAll (List.zipWith tCol ss ls)

theorem tCols_get {ss : List Sl} {ls : List (List Int)} {c : Nat} {s : Sl} {l : List Int} (h1 : ss[c]? = some s) (h2 : ls[c]? = some l) : (List.zipWith tCol ss ls)[c]? = some (tCol s l) := by
  simp [List.getElem?_zipWith, h1, h2]
theorem tCols_set : ∀ {ss : List Sl} {ls : List (List Int)} {c : Nat} {s : Sl} {l : List Int}, (List.zipWith tCol ss ls).set c (tCol s l) = List.zipWith tCol (ss.set c s) (ls.set c l)
  | [], _, _, _, _ => by simp
  | _ :: _, [], _, _, _ => by simp
  | _ :: _, _ :: _, 0, _, _ => by simp
  | _ :: ss, _ :: ls, c + 1, _, _ => by simp [tCols_set (ss := ss) (ls := ls)]

/-- A table, its parts. -/
def tabI (b : Nat) (m : TabM) (so sc : Sl) (ss : List Sl) (bm : Nat) : Thing :=
  tStar (tBlk b 63 [.slice so.a so.len so.cap, .slice sc.a sc.len sc.cap, .map (some bm)]) (tStar (tSl so 32 2 ent m.owners) (tStar (tSl sc 34 1 slv ss) (tStar (tCols ss m.cols) (tMp bm entV (Value.int .i64) (atI m)))))

def tTab (b : Nat) (m : TabM) : Thing := tEx fun x : Sl × Sl × List Sl × Nat => tAnd (x.2.2.1.length = m.n) (tabI b m x.1 x.2.1 x.2.2.1 x.2.2.2)

section
variable {S : List Nat} {w0 w : World} {its : List Thing}

/-- The parts of a table, at the end of the list: block, owners, columns' slices, columns, map. -/
theorem tab_open (h : Hp S w0 w its) {i b : Nat} {m : TabM} (hi : its[i]? = some (tTab b m)) :
    ∃ so sc ss bm, ss.length = m.n ∧ Hp S w0 w (its.set i (tBlk b 63 [.slice so.a so.len so.cap, .slice sc.a sc.len sc.cap, .map (some bm)]) ++ [tSl so 32 2 ent m.owners, tSl sc 34 1 slv ss, tCols ss m.cols, tMp bm entV (Value.int .i64) (atI m)]) := by
  have hl := (List.getElem?_eq_some_iff.1 hi).1
  obtain ⟨⟨so, sc, ss, bm⟩, h⟩ := h.openEx hi (fun _ => rfl)
  obtain ⟨hn, h⟩ := h.openAnd (i := i) (by simp [hl]; rfl) rfl
  have h := h.split (i := i) (by simp [hl]; rfl) rfl rfl
  have e1 : ∀ (l : List Thing) (t : Thing), (l ++ [t])[l.length]? = some t := fun l t => by simp
  have h := h.split (e1 _ _) rfl rfl
  simp only [List.set_append_right _ _ (Nat.le_refl _), Nat.sub_self, List.set_cons_zero] at h
  have h := h.split (e1 _ _) rfl rfl
  rw [List.set_append_right _ _ (Nat.le_refl _), Nat.sub_self, List.set_cons_zero] at h
  have h := h.split (e1 _ _) (tAll_own _) rfl
  rw [List.set_append_right _ _ (Nat.le_refl _), Nat.sub_self, List.set_cons_zero] at h
  refine ⟨so, sc, ss, bm, hn, ?_⟩
  simpa using h

/-- A table of its parts. -/
theorem tab_close {b : Nat} {m : TabM} {so sc : Sl} {ss : List Sl} {bm : Nat} {rest : List Thing} (hn : ss.length = m.n)
    (h : Hp S w0 w (tBlk b 63 [.slice so.a so.len so.cap, .slice sc.a sc.len sc.cap, .map (some bm)] :: tSl so 32 2 ent m.owners :: tSl sc 34 1 slv ss :: tCols ss m.cols :: tMp bm entV (Value.int .i64) (atI m) :: rest)) :
    Hp S w0 w (tTab b m :: rest) := by
  have h := h.joinStar (i := 3) (j := 4) (by omega) rfl rfl (tAll_own _) rfl
  have h := h.joinStar (i := 2) (j := 3) (by omega) rfl rfl rfl rfl
  have h := h.joinStar (i := 1) (j := 2) (by omega) rfl rfl rfl rfl
  have h := h.joinStar (i := 0) (j := 1) (by omega) rfl rfl rfl rfl
  have h := h.putAnd (i := 0) hn rfl rfl
  have h := h.putEx (f := fun x : Sl × Sl × List Sl × Nat => tAnd (x.2.2.1.length = m.n) (tabI b m x.1 x.2.1 x.2.2.1 x.2.2.2)) (i := 0) (so, sc, ss, bm) rfl rfl
  have h : Hp S w0 w (tTab b m :: tEmp :: tEmp :: tEmp :: tEmp :: rest) := h
  exact h.drop1.drop1.drop1.drop1

/-- The parts of a table that is read only. -/
theorem tab_see (h : Hp S w0 w its) (i : Nat) {b : Nat} {m : TabM} (hi : (its[i]?).map Thing.holds = some (tTab b m).holds) :
    ∃ so sc ss bm, ss.length = m.n ∧ Hp [] w w [(tBlk b 63 [.slice so.a so.len so.cap, .slice sc.a sc.len sc.cap, .map (some bm)]).ro, (tSl so 32 2 ent m.owners).ro, (tSl sc 34 1 slv ss).ro, (tCols ss m.cols).ro, (tMp bm entV (Value.int .i64) (atI m)).ro] := by
  obtain ⟨O, ⟨so, sc, ss, bm⟩, hn, O1, O2, h1, ⟨O3, O4, h2, ⟨O5, O6, h3, ⟨O7, O8, h4, h5, _⟩, _⟩, _⟩, _⟩ := h.see' hi
  exact ⟨so, sc, ss, bm, hn, (((((Hp.init w).addRo h1 (by simp)).addRo h2 (by simp)).addRo h3 (by simp)).addRo h4 (by simp)).addRo h5 (by simp)⟩

/-- One of the columns of a table that is read only. -/
theorem col_see (h : Hp S w0 w its) (i : Nat) {ss : List Sl} {ls : List (List Int)} {c : Nat} {s : Sl} {l : List Int} (hi : its[i]? = some (tCols ss ls).ro) (h1 : ss[c]? = some s) (h2 : ls[c]? = some l) : Hp S w0 w (its ++ [(tSl s 2 1 iv l).ro]) := by
  obtain ⟨O, hO, back⟩ := h.roSee hi
  obtain ⟨O1, O2, g1, g2, g3, g4⟩ := tAll_pick (tCols_get h1 h2) hO
  exact back g1 fun k hk => (g4 k).2 (.inl hk)

/-- There. -/
theorem there_spec (h : Hp S w0 w its) (i : Nat) {b : Nat} {m : TabM} (hi : (its[i]?).map Thing.holds = some (tTab b m).holds) {row : Int} {K : Bool → World → Prop} (hK : K (decide (0 ≤ row ∧ row < m.rows.length)) w) : c20 (some ⟨b, 0, none⟩) row w K := by
  refine c20_of ?_
  unfold f20
  obtain ⟨so, sc, ss, bm, hn, h⟩ := tab_see h i hi
  have hl := h.len 1 rfl
  rw [TabM.owners_len] at hl
  by_cases h0 : row ≥ 0
  · refine ifT (by simpa using h0) ?_
    refine nns ?_
    refine h.ld0 (x := so) 0 rfl rfl ?_
    rw [← hl]
    have e : decide (0 ≤ row ∧ row < (m.rows.length : Int)) = decide (row < (m.rows.length : Int)) := by simp; omega
    rw [← e]; exact hK
  · refine ifF (by simpa using h0) ?_
    have e : decide (0 ≤ row ∧ row < (m.rows.length : Int)) = false := by simp; omega
    rw [← e]; exact hK

theorem Len_spec (h : Hp S w0 w its) (i : Nat) {b : Nat} {m : TabM} (hi : (its[i]?).map Thing.holds = some (tTab b m).holds) {K : Int → World → Prop} (hK : K m.rows.length w) : c12 (some ⟨b, 0, none⟩) w K := by
  refine c12_of ?_
  unfold f12
  obtain ⟨so, sc, ss, bm, hn, h⟩ := tab_see h i hi
  have hl := h.len 1 rfl
  rw [TabM.owners_len] at hl
  refine nns ?_
  refine h.ld0 (x := so) 0 rfl rfl ?_
  rw [← hl]; exact hK

/-- Find. -/
theorem Find_spec (h : Hp S w0 w its) (i : Nat) {b : Nat} {m : TabM} (hi : (its[i]?).map Thing.holds = some (tTab b m).holds) {e : Ent} {K : Int → World → Prop} (hK : ∀ w', Hp S w0 w' its → K ((atI m e).getD (-1)) w') : c9 (some ⟨b, 0, none⟩) e.1 e.2 w K := by
  refine c9_of ?_
  unfold f9
  obtain ⟨so, sc, ss, bm, hn, h1⟩ := tab_see h i hi
  refine h1.nw (c := [_, _]) fun be w h1 => ?_
  refine h1.dr fun w h1 => ?_
  refine nns ?_
  refine h1.ld (x := some bm) 0 rfl rfl ?_
  refine h1.ld0 (x := e.1) 5 rfl rfl ?_
  refine h1.ld (x := e.2) 5 rfl rfl ?_
  obtain ⟨inf, q1, q2, _⟩ := inf3
  refine Hp.lookup (kd := .i .i64) (vk := id) (z := (0 : Int)) (ek := entV) (g := atI m) (k := e) h1 4 rfl rfl und60 keyEnt q1 q2 (fun _ => rfl) ?_
  have := hK _ (h.keep h1.fr)
  cases hg : atI m e with
  | none => rw [hg] at this; exact ifF (by simp) this
  | some v => rw [hg] at this; exact ifT (by simp) this

/-- Cell. -/
def TabM.cellE (m : TabM) (row c : Int) : Int := if 0 ≤ row ∧ row < m.rows.length then if 0 ≤ c ∧ c < m.n then 0 else 63 else 50

theorem cell_spec (h : Hp S w0 w its) (i : Nat) {b : Nat} {m : TabM} (hi : (its[i]?).map Thing.holds = some (tTab b m).holds) {row c : Int} {K : Int → World → Prop} (hK : K (m.cellE row c) w) : c24 (some ⟨b, 0, none⟩) row c w K := by
  refine c24_of ?_
  unfold f24
  refine there_spec h i hi ?_
  obtain ⟨so, sc, ss, bm, hn, h⟩ := tab_see h i hi
  have hl := h.len 2 rfl
  by_cases hr : 0 ≤ row ∧ row < m.rows.length
  · refine ifF (by simp [hr]) ?_
    unfold TabM.cellE at hK
    rw [if_pos hr] at hK
    by_cases h0 : c < 0
    · rw [if_neg (by omega)] at hK
      exact ifT (by simpa using h0) hK
    · refine ifF (by simpa using h0) ?_
      refine nns ?_
      refine h.ld (x := sc) 0 rfl rfl ?_
      by_cases hc : c ≥ (sc.len : Int)
      · rw [if_neg (by omega)] at hK
        exact ifT (by simpa using hc) hK
      · rw [if_pos (by omega)] at hK
        exact ifF (by simpa using hc) hK
  · unfold TabM.cellE at hK
    rw [if_neg hr] at hK
    exact ifT (by simp only [decide_eq_false hr]; rfl) hK

/-- Get. -/
theorem Get_spec (h : Hp S w0 w its) (i : Nat) {b : Nat} {m : TabM} (hi : (its[i]?).map Thing.holds = some (tTab b m).holds) {row c : Int} {K : Int → Int → World → Prop}
    (hK : if m.cellE row c = 0 then K ((m.col c.toNat).getD row.toNat 0) 0 w else K 0 (m.cellE row c) w) : c19 (some ⟨b, 0, none⟩) row c w K := by
  refine c19_of ?_
  unfold f19
  refine cell_spec h i hi ?_
  obtain ⟨so, sc, ss, bm, hn, h⟩ := tab_see h i hi
  have hl := h.len 2 rfl
  by_cases he : m.cellE row c = 0
  · rw [if_pos he] at hK
    refine ifF (by simp [he]) ?_
    unfold TabM.cellE at he
    by_cases hr : 0 ≤ row ∧ row < m.rows.length
    · by_cases hc : 0 ≤ c ∧ c < m.n
      · refine nns ?_
        refine h.ld (x := sc) 0 rfl rfl ?_
        have hcs : c.toNat < ss.length := by omega
        have h := col_see h 3 rfl (List.getElem?_eq_getElem hcs) (m.cols_get (by omega))
        refine h.ixld (y := ss[c.toNat]) (x := ss[c.toNat]) 2 rfl hc.1 (by simp) slv_len rfl ?_
        have hlt : row.toNat < (m.col c.toNat).length := by rw [TabM.col_len]; omega
        refine h.ixld (k := .i .i64) (y := (m.col c.toNat)[row.toNat]) (x := (m.col c.toNat)[row.toNat]) 5 rfl hr.1 (by simp) iv_len rfl ?_
        have e : (m.col c.toNat).getD row.toNat 0 = (m.col c.toNat)[row.toNat] := by simp [hlt]
        rw [← e]; exact hK
      · rw [if_pos hr, if_neg hc] at he; cases he
    · rw [if_neg hr] at he; cases he
  · rw [if_neg he] at hK
    exact ifT (by simpa using he) hK

end
end Go.Proofs.Ytfghoeojpnnkiaa.F
