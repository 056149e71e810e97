/-
  Contracts of package pack, seventh part: GetRow.
-/
import Derived.Test.YtbmpgjheiknjlaaC01z
set_option linter.unusedSimpArgs false
set_option linter.unusedVariables false
set_option maxRecDepth 100000
namespace Go.Proofs.Ytbmpgjheiknjlaa.F
open Go Go.Den Go.Proofs

/-- Bytes begin with a row of so many numbers at most. -/
def Acc (bs : List Int) (most : Int) (l : List Int) : Prop := 0 ≤ most ∧ (l.length : Int) ≤ most ∧ l.length ≤ 100000 ∧ R64 l ∧ ∃ rest, bs = rowU l ++ rest
/-- What GetRow must answer. -/
def RowOk (bs : List Int) (most : Int) (X : List Int) (size : Int) : Prop :=
  (size = 0 → X = []) ∧ (size ≠ 0 → Acc bs most X ∧ size = ((rowU X).length : Int)) ∧ ∀ l, Acc bs most l → X = l ∧ size = ((rowU l).length : Int)

theorem bestU_form (l : List Int) : ∃ f : Int, (f = 0 ∨ f = 1 ∨ f = 2) ∧ bestU l = f :: formU f l := by
  unfold bestU
  have hs : ∀ a b : List Int, shorter a b = a ∨ shorter a b = b := fun a b => by unfold shorter; split <;> simp
  rcases hs (shorter (0 :: formU 0 l) (1 :: formU 1 l)) (2 :: formU 2 l) with h | h
  · rcases hs (0 :: formU 0 l) (1 :: formU 1 l) with h2 | h2
    · exact ⟨0, .inl rfl, by rw [h, h2]⟩
    · exact ⟨1, .inr (.inl rfl), by rw [h, h2]⟩
  · exact ⟨2, .inr (.inr rfl), h⟩

theorem putU_bytes {n : Int} (h : 0 ≤ n) : Bytes (putU n) := putF_byte 10 n h
theorem zig_nn (n : Int) : 0 ≤ zig n := by unfold zig; split <;> omega
theorem bytes_app {a b : List Int} (ha : Bytes a) (hb : Bytes b) : Bytes (a ++ b) := fun x hx => (List.mem_append.1 hx).elim (ha x) (hb x)
theorem encZ_bytes (l : List Int) : Bytes (encZ l) := by
  intro x hx
  obtain ⟨y, _, hy⟩ := List.mem_flatMap.1 hx
  exact putU_bytes (zig_nn y) x hy
theorem encS_bytes : ∀ (last : Int) (l : List Int), Bytes (encS last l)
  | _, [] => by intro x hx; cases hx
  | last, x :: r => bytes_app (putU_bytes (zig_nn _)) (encS_bytes x r)
theorem encR_bytes (l : List Int) : Bytes (encR l) := by
  refine bytes_app (putU_bytes (by omega)) ?_
  intro x hx
  obtain ⟨y, hm, hy⟩ := List.mem_flatMap.1 hx
  have := (runT_mem none l y hm).1
  exact bytes_app (putU_bytes (by omega)) (putU_bytes (zig_nn _)) x hy
theorem formU_bytes (f : Int) (l : List Int) : Bytes (formU f l) := by
  unfold formU
  split
  · exact encZ_bytes l
  · split
    · exact encS_bytes 0 l
    · exact encR_bytes l
theorem bestU_bytes (l : List Int) : Bytes (bestU l) := by
  obtain ⟨f, hf, e⟩ := bestU_form l
  rw [e]
  intro x hx
  rcases List.mem_cons.1 hx with rfl | hx
  · omega
  · exact formU_bytes f l x hx
theorem rowU_bytes (l : List Int) : Bytes (rowU l) := by
  unfold rowU
  refine bytes_app (putU_bytes (by omega)) ?_
  split
  · intro x hx; cases hx
  · exact bestU_bytes l

theorem Acc.head {bs : List Int} {most : Int} {l : List Int} (h : Acc bs most l) : getU bs = ((l.length : Int), ((putU l.length).length : Int)) ∧ ∃ rest, bs = rowU l ++ rest ∧ bs.drop (putU (l.length : Int)).length = (if l = [] then [] else bestU l) ++ rest := by
  obtain ⟨_, _, h1, _, rest, rfl⟩ := h
  have e : rowU l ++ rest = putU (l.length : Int) ++ ((if l = [] then [] else bestU l) ++ rest) := by unfold rowU; rw [List.append_assoc]
  exact ⟨by rw [e]; exact getU_put (by omega) (by omega) _, rest, rfl, by rw [e, List.drop_left]⟩

theorem no_row {bs : List Int} {most : Int} (h : ∀ l, ¬ Acc bs most l) : RowOk bs most [] 0 :=
  ⟨fun _ => rfl, fun h => (h rfl).elim, fun l hl => absurd hl (h l)⟩

theorem rowU_pos (l : List Int) : 1 ≤ (rowU l).length := by
  have := putU_pos l.length
  unfold rowU; rw [List.length_append]; omega

section
variable {S : List Nat} {w0 w : World} {its : List Thing}

theorem w100 {most : Int} (h : 0 ≤ most) : IntKind.u64.wrap (if 100000 < most then 100000 else most) = (if 100000 < most then 100000 else most) := by
  rw [w64]; split <;> omega

set_option maxHeartbeats 2000000 in
theorem GetRow_spec (h : Hp S w0 w its) (j : Nat) {u : Thing} {b : Sl} {bs : List Int} {most : Int} (hj : (its[j]?).map Thing.holds = some u.holds) (hu : Hp.Reads u b 1 u8v bs) (hb : Bytes bs) (hl : bs.length ≤ 9000000000000000) (hcap : b.len ≤ b.cap) {K : Sl → Int → World → Prop}
    (hK : ∀ s X size w', RowOk bs most X size → Hp S w0 w' (its ++ [tSl s 2 1 iv X]) → K s size w') : c33 b most w K := by
  refine c33_of ?_
  unfold f33
  have hbl := h.lenU j hj hu
  have h1 := h.ro1 hj
  have hu' : Hp.Reads u.ro b 1 u8v bs := ⟨hu.rd⟩
  obtain ⟨r0, r1, r2, r3, r4, r5⟩ := getU_range hb
  have none_ : (∀ l, ¬ Acc bs most l) → ∀ {w' : World}, Fr [] w w' → K ⟨none, 0, 0⟩ 0 w' := fun hn w' hf => hK _ _ _ _ (no_row hn) ((h.keep hf).nil 2 1 iv)
  refine h1.nw (c := [_, _]) fun r w1 h1 => ?_
  refine number_spec (S := []) (w0 := w) (R := []) h1 hu' hb hl hcap fun s2 w2 hr2 hc2 h1 => ?_
  have hbad : (cond false true ((getU bs).2 == 0)) = ((getU bs).2 == 0) := rfl
  rw [hbad] at h1
  refine ⟨fun w' => w' = w2 ∧ (getU bs).2 ≠ 0 ∧ 0 ≤ most ∧ (getU bs).1 ≤ (if 100000 < most then 100000 else most), ?_, ?_⟩
  · refine h1.ld (k := .b) (x := ((getU bs).2 == 0)) 1 rfl rfl ?_
    by_cases hz : (getU bs).2 = 0
    · refine ifT (by simpa using hz) (none_ ?_ h1.fr)
      intro l hl'
      have := hl'.head.1
      rw [this] at hz
      have := putU_pos l.length
      dsimp only at hz
      omega
    refine ifF (by simpa using hz) ?_
    by_cases hm : most < 0
    · refine ifT (by simpa using hm) (none_ ?_ h1.fr)
      intro l hl'
      have := hl'.1
      omega
    refine ifF (by simpa using hm) ?_
    rw [w100 (by omega)]
    by_cases hn : (getU bs).1 > (if 100000 < most then 100000 else most)
    · refine ifT (by simpa using hn) (none_ ?_ h1.fr)
      intro l hl'
      have h2 := hl'.head.1
      rw [h2] at hn
      obtain ⟨_, a1, a2, _⟩ := hl'
      dsimp only at hn
      split at hn <;> omega
    · exact ifF (by simpa using hn) ⟨rfl, hz, by omega, by omega⟩
  rintro w3 ⟨rfl, hz, hm, hn⟩
  have hmm : (getU bs).1 ≤ most ∧ (getU bs).1 ≤ 100000 := by split at hn <;> omega
  have hback := getU_back hb hz
  by_cases hn0 : (getU bs).1 = 0
  · refine ifT (by simpa using hn0) ?_
    rw [hn0] at hback
    have e0 : putU 0 = [0] := by decide
    rw [e0] at hback
    refine hK _ [] 1 _ ⟨fun h => by omega, fun _ => ⟨⟨hm, by simpa using hm, by simp, (by intro x hx; cases hx), bs.drop (getU bs).2.toNat, ?_⟩, ?_⟩, ?_⟩ ((h.keep h1.fr).nil 2 1 iv)
    · have e1 : rowU [] = [0] := by decide
      rw [e1, hback, List.take_append_drop]
    · decide
    · intro l hl'
      have h2 := hl'.head.1
      rw [h2] at hn0
      have : l = [] := List.eq_nil_of_length_eq_zero (by dsimp only at hn0; omega)
      subst this
      exact ⟨rfl, by decide⟩
  refine ifF (by simpa using hn0) ?_
  have hlen2 : (bs.drop (getU bs).2.toNat).length = bs.length - (getU bs).2.toNat := List.length_drop
  have hs2l := h1.lenU 0 rfl hr2
  -- whoever is accepted stands behind the head
  have accF : ∀ l, Acc bs most l → (l.length : Int) = (getU bs).1 ∧ l ≠ [] ∧ ∃ rest, bs = rowU l ++ rest ∧ bs.drop (getU bs).2.toNat = bestU l ++ rest := by
    intro l hl'
    obtain ⟨g1, rest, g2, g3⟩ := hl'.head
    have hl0 : l ≠ [] := by
      rintro rfl
      rw [g1] at hn0
      exact hn0 rfl
    rw [if_neg hl0] at g3
    refine ⟨by rw [g1], hl0, rest, g2, ?_⟩
    rw [g1]
    exact g3
  refine h1.ld0 (k := .sl) (x := s2) 1 rfl rfl ?_
  by_cases he : s2.len = 0
  · refine ifT (by simpa using he) (none_ ?_ h1.fr)
    intro l hl'
    obtain ⟨_, _, rest, _, g⟩ := accF l hl'
    have hp := bestU_pos l
    have := congrArg List.length g
    simp only [List.length_append] at this
    omega
  refine ifF (by simpa using he) ?_
  refine h1.ld0 (k := .sl) (x := s2) 1 rfl rfl ?_
  obtain ⟨form, cur, hcur⟩ : ∃ form cur, bs.drop (getU bs).2.toNat = form :: cur := by
    cases hc : bs.drop (getU bs).2.toNat with
    | nil => rw [hc] at hs2l; simp at hs2l; omega
    | cons x y => exact ⟨x, y, rfl⟩
  rw [hcur] at hr2 hs2l
  simp only [List.length_cons] at hs2l
  have hbc : Bytes (form :: cur) := by rw [← hcur]; exact bytes_drop hb _
  have hf := hbc form (by simp)
  refine h1.ixldU (k := .i .u8) (u := u.ro) (y := form) (x := form) 0 rfl hr2 (by omega) rfl u8v_len rfl ?_
  refine h1.ld0 (k := .sl) (x := s2) 1 rfl rfl ?_
  refine Hp.cutv (s := s2) hr2 (by simp; omega) u8v_len (by omega) (by omega) (by omega) (Int.le_refl _) (by omega) fun s3 hs3 hl3 hc3 => ?_
  have e3 : (((form :: cur).take ((s2.len : Int)).toNat).drop (1 : Int).toNat) = cur := by
    rw [List.take_of_length_le (by simp; omega)]; rfl
  rw [e3] at hs3
  refine h1.st0 1 rfl (by simp) rfl fun w4 h1 => ?_
  simp only [List.set_cons_zero, List.set_cons_succ] at h1
  have hz' : ((getU bs).2 == 0) = false := by simpa using hz
  rw [hz'] at h1
  have hcl : cur.length ≤ bs.length := by
    have := congrArg List.length hcur
    simp only [List.length_cons] at this
    omega
  refine read_spec h1 hs3 (fun x hx => hbc x (by simp [hx])) (by omega) (by omega) hf.1 (by omega) (by omega) fun out s' X cur' bad' w5 hr' hc' hsuf hX hXn hf3 hsay h1 => ?_
  refine h1.ld0 (k := .sl) (x := s') 1 rfl rfl ?_
  refine h1.dr fun w6 h1 => ?_
  refine h1.ld (k := .b) (x := bad') 1 rfl rfl ?_
  have hol := h1.len (s := out) 2 rfl
  have hs'l := h1.lenU 0 rfl hr'
  -- what a canonical text was read as
  have accS : ∀ l, Acc bs most l → X = l ∧ bad' = false ∧ bs = rowU l ++ cur' := by
    intro l hl'
    obtain ⟨g0, g1, rest, g2, g3⟩ := accF l hl'
    obtain ⟨f, hf', hfe⟩ := bestU_form l
    rw [hcur, hfe] at g3
    injection g3 with g4 g5
    subst g4
    obtain ⟨e1, e2, e3⟩ := hsay hf' l rest g5 g0 hl'.2.2.2.1
    exact ⟨e1, e3, by rw [g2, e2]⟩
  cases hb' : bad' with
  | true =>
    refine ifT rfl (none_ ?_ h1.fr)
    intro l hl'
    obtain ⟨_, g, _⟩ := accS l hl'
    rw [hb'] at g; cases g
  | false =>
  refine ifF (by simp) ?_
  have ewo : IntKind.u64.wrap (out.len : Int) = (X.length : Int) := by rw [w64]; omega
  rw [ewo]
  by_cases hXl : (X.length : Int) = (getU bs).1
  · refine ifF (by simpa using hXl) ?_
    obtain ⟨p, hp⟩ := hsuf
    have hlens := congrArg List.length hcur
    simp only [List.length_cons] at hlens
    have hcl' : cur.length = p.length + cur'.length := by rw [hp]; simp
    have ews : IntKind.i64.wrap ((b.len : Int) - (s'.len : Int)) = (bs.length : Int) - cur'.length := by rw [wr64 (by omega) (by omega)]; omega
    rw [ews]
    refine Hp.cutv (s := b) hu' (by omega) u8v_len (by omega) (by omega) (by omega) (Int.le_refl _) (by omega) fun s4 hs4 _ _ => ?_
    have hpre : (bs.take ((bs.length : Int) - cur'.length).toNat).drop (0 : Int).toNat = bs.take (bs.length - cur'.length) := by
      rw [show ((bs.length : Int) - cur'.length).toNat = bs.length - cur'.length by omega]; rfl
    rw [hpre] at hs4
    have hsplit : bs = bs.take (bs.length - cur'.length) ++ cur' := by
      have e1 : bs = bs.take (getU bs).2.toNat ++ (form :: (p ++ cur')) := by rw [← hp, ← hcur, List.take_append_drop]
      have e2 : bs.drop (bs.length - cur'.length) = cur' := by
        conv => lhs; rw [e1]
        rw [show bs.take (getU bs).2.toNat ++ (form :: (p ++ cur')) = (bs.take (getU bs).2.toNat ++ (form :: p)) ++ cur' by simp]
        rw [List.length_append, Nat.add_sub_cancel, List.drop_left]
      conv => lhs; rw [← List.take_append_drop (bs.length - cur'.length) bs]
      rw [e2]
    have hb4 : Bytes (bs.take (bs.length - cur'.length)) := bytes_take hb _
    refine h1.rdb 0 (u := u.ro) rfl hs4 _ (strL_of hb4) ?_
    refine row_spec h1 2 rfl Hp.rdSl hX (by omega) fun r2 w7 h1 => ⟨h1.bat 0 (u := u.ro) rfl hs4 _ (strL_of hb4), ?_⟩
    have hrb := rowU_bytes X
    refine h1.rdb 3 rfl Hp.rdSl _ (strL_of hrb) ?_
    rw [str_beq, strL_of hrb, strL_of hb4]
    by_cases heq : rowU X = bs.take (bs.length - cur'.length)
    · refine ifF (by simpa using heq) ?_
      have hlen : ((bs.length : Int) - cur'.length) = ((rowU X).length : Int) := by
        rw [heq, List.length_take]; omega
      rw [hlen]
      have hpos := rowU_pos X
      refine hK out X _ w7 ⟨fun h => by omega, fun _ => ⟨⟨hm, by omega, by omega, hX, cur', by rw [heq]; exact hsplit⟩, rfl⟩, ?_⟩ (h.r0 rfl (h1.sel1 2 rfl))
      intro l hl'
      obtain ⟨g, _, _⟩ := accS l hl'
      rw [g]; exact ⟨rfl, rfl⟩
    · refine ifT (by simpa using heq) (none_ ?_ h1.fr)
      intro l hl'
      obtain ⟨g, _, g2⟩ := accS l hl'
      apply heq
      rw [g]
      conv => rhs; rw [g2]
      simp
  · refine ifT (by simpa using hXl) (none_ ?_ h1.fr)
    intro l hl'
    obtain ⟨g, _, _⟩ := accS l hl'
    have := (accF l hl').1
    rw [g] at hXl
    exact hXl this
end
end Go.Proofs.Ytbmpgjheiknjlaa.F
