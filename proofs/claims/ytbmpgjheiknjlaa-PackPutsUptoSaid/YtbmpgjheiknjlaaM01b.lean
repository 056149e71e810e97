/-
  Rows of numbers in the shortest of three forms, told in plain words.
-/
import Derived.Test.YtbmpgjheiknjlaaM01
set_option linter.unusedSimpArgs false
set_option linter.unusedVariables false
namespace Go.Proofs.Ytbmpgjheiknjlaa.F
open Go Go.Den Go.Proofs

def R64 (l : List Int) : Prop := ∀ x ∈ l, -9223372036854775808 ≤ x ∧ x ≤ 9223372036854775807

/-- Each number. -/
def encZ (l : List Int) : List Int := l.flatMap fun x => putU (zig x)
/-- The steps from one to the next. -/
def encS : Int → List Int → List Int
  | _, [] => []
  | last, x :: r => putU (zig (IntKind.i64.wrap (x - last))) ++ encS x r
/-- How many of these stand ahead. -/
def cnt (x : Int) : List Int → Nat
  | [] => 0
  | y :: r => if y = x then cnt x r + 1 else 0
/-- The runs that begin in a row, behind a number. -/
def runT : Option Int → List Int → List (Int × Int)
  | _, [] => []
  | p, x :: r => if p = some x then runT (some x) r else (((cnt x r + 1 : Nat) : Int), x) :: runT (some x) r
def runsL (l : List Int) : List (Int × Int) := runT none l
def encP (x : Int × Int) : List Int := putU x.1 ++ putU (zig x.2)
def encR (l : List Int) : List Int := putU (runsL l).length ++ (runsL l).flatMap encP
def formU (f : Int) (l : List Int) : List Int := if f = 0 then encZ l else if f = 1 then encS 0 l else encR l
/-- The shorter one, the first if none is. -/
def shorter (a b : List Int) : List Int := if b.length < a.length then b else a
def bestU (l : List Int) : List Int := shorter (shorter (0 :: formU 0 l) (1 :: formU 1 l)) (2 :: formU 2 l)
def rowU (l : List Int) : List Int := putU l.length ++ (if l = [] then [] else bestU l)

/-- One number more, as the code does it. -/
def runStep (out : List (Int × Int)) (x : Int) : List (Int × Int) :=
  match out.getLast? with
  | some (n, y) => if y = x then out.dropLast ++ [(n + 1, y)] else out ++ [(1, x)]
  | none => [(1, x)]

theorem runStep_eq (out : List (Int × Int)) (n y : Int) : runStep (out ++ [(n, y)]) y = out ++ [(n + 1, y)] := by
  unfold runStep
  simp
theorem runStep_ne (out : List (Int × Int)) (n : Int) {x y : Int} (h : y ≠ x) : runStep (out ++ [(n, y)]) x = out ++ [(n, y)] ++ [(1, x)] := by
  unfold runStep
  simp [h]

theorem fold_runs : ∀ (r : List Int) (out : List (Int × Int)) (n y : Int), r.foldl runStep (out ++ [(n, y)]) = out ++ [(n + cnt y r, y)] ++ runT (some y) r
  | [], out, n, y => by simp [runT, cnt]
  | x :: r, out, n, y => by
    rw [List.foldl_cons]
    by_cases h : x = y
    · subst h
      rw [runStep_eq, fold_runs r out (n + 1) x, runT, if_pos rfl]
      simp only [cnt, if_true]
      have e : n + 1 + (cnt x r : Int) = n + ((cnt x r + 1 : Nat) : Int) := by omega
      rw [e]
    · rw [runStep_ne _ _ (Ne.symm h), fold_runs r (out ++ [(n, y)]) 1 x, runT, if_neg (by simpa using Ne.symm h)]
      have e : cnt y (x :: r) = 0 := by simp [cnt, h]
      rw [e]
      have e2 : (1 : Int) + (cnt x r : Int) = ((cnt x r + 1 : Nat) : Int) := by omega
      rw [e2]
      simp
theorem fold_all (l : List Int) : l.foldl runStep [] = runsL l := by
  cases l with
  | nil => rfl
  | cons x r =>
    rw [List.foldl_cons]
    have e : runStep [] x = [] ++ [(1, x)] := rfl
    rw [e, fold_runs]
    unfold runsL
    rw [runT, if_neg (by simp)]
    have e2 : (1 : Int) + (cnt x r : Int) = ((cnt x r + 1 : Nat) : Int) := by omega
    rw [e2]
    simp

theorem cnt_le (x : Int) : ∀ r : List Int, cnt x r ≤ r.length
  | [] => by simp [cnt]
  | y :: r => by
    rw [cnt]; split
    · have := cnt_le x r; simp; omega
    · simp
theorem runT_len : ∀ (p : Option Int) (l : List Int), (runT p l).length ≤ l.length
  | p, [] => by simp [runT]
  | p, x :: r => by
    have := runT_len (some x) r
    rw [runT]; split
    · simp; omega
    · simp; omega
theorem runsL_len (l : List Int) : (runsL l).length ≤ l.length := runT_len none l
theorem runT_mem : ∀ (p : Option Int) (l : List Int) (y : Int × Int), y ∈ runT p l → 1 ≤ y.1 ∧ y.1 ≤ l.length ∧ y.2 ∈ l
  | p, [], y, h => by simp [runT] at h
  | p, x :: r, y, h => by
    rw [runT] at h
    split at h
    · have := runT_mem (some x) r y h
      exact ⟨this.1, by simp; omega, by simp [this.2.2]⟩
    · rcases List.mem_cons.1 h with rfl | h
      · have := cnt_le x r
        exact ⟨by show (1 : Int) ≤ _; omega, by show ((cnt x r + 1 : Nat) : Int) ≤ _; simp; omega, by simp⟩
      · have := runT_mem (some x) r y h
        exact ⟨this.1, by simp; omega, by simp [this.2.2]⟩

theorem encZ_len (l : List Int) : (encZ l).length ≤ 10 * l.length := by
  induction l with
  | nil => simp [encZ]
  | cons x r ih =>
    have := putU_len (zig x)
    simp only [encZ, List.flatMap_cons, List.length_append, List.length_cons] at ih ⊢
    omega
theorem encS_len : ∀ (last : Int) (l : List Int), (encS last l).length ≤ 10 * l.length
  | _, [] => by simp [encS]
  | last, x :: r => by
    have := putU_len (zig (IntKind.i64.wrap (x - last)))
    have := encS_len x r
    simp only [encS, List.length_append, List.length_cons]
    omega
theorem encP_len (x : Int × Int) : (encP x).length ≤ 20 := by
  have := putU_len x.1
  have := putU_len (zig x.2)
  simp only [encP, List.length_append]; omega
theorem encRs_len (l : List (Int × Int)) : (l.flatMap encP).length ≤ 20 * l.length := by
  induction l with
  | nil => simp
  | cons x r ih =>
    have := encP_len x
    simp only [List.flatMap_cons, List.length_append, List.length_cons]
    omega
theorem encR_len (l : List Int) : (encR l).length ≤ 10 + 20 * l.length := by
  have := putU_len (runsL l).length
  have := encRs_len (runsL l)
  have := runsL_len l
  simp only [encR, List.length_append]
  omega
theorem formU_len (f : Int) (l : List Int) : (formU f l).length ≤ 10 + 20 * l.length := by
  unfold formU
  have := encZ_len l
  have := encS_len 0 l
  have := encR_len l
  split
  · omega
  · split <;> omega
theorem bestU_len (l : List Int) : (bestU l).length ≤ 11 + 10 * l.length := by
  have h0 : (0 :: formU 0 l).length ≤ 11 + 10 * l.length := by
    have := encZ_len l
    simp only [formU, if_true, List.length_cons]; omega
  unfold bestU
  have hs : ∀ a b : List Int, (shorter a b).length ≤ a.length := fun a b => by unfold shorter; split <;> omega
  have := hs (0 :: formU 0 l) (1 :: formU 1 l)
  have := hs (shorter (0 :: formU 0 l) (1 :: formU 1 l)) (2 :: formU 2 l)
  omega
theorem shorter_pos {a b : List Int} (ha : 1 ≤ a.length) (hb : 1 ≤ b.length) : 1 ≤ (shorter a b).length := by
  unfold shorter; split <;> assumption
theorem bestU_pos (l : List Int) : 1 ≤ (bestU l).length :=
  shorter_pos (shorter_pos (by simp) (by simp)) (by simp)
end Go.Proofs.Ytbmpgjheiknjlaa.F
