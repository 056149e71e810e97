/-
  Part 7 of the proof: WorldGoesOn of layer 6 is true of the given program for every input that its guards let in.
-/
import Derived.Test.YtcccjgmekakabaaPkF
section
set_option linter.unusedSimpArgs false
set_option linter.unusedVariables false
set_option maxRecDepth 100000
namespace Go.Proofs.Ytcccjgmekakabaa.FW
open Go.Proofs.Ytcccjgmekakabaa.F
open Go Go.Den Go.Proofs
open Go.Proofs.Ytcccjgmekakabaa.FI (PoolM tPool pk)
open Go.Proofs.Ytcccjgmekakabaa.FT (TabM tTab Ent entV ent ent_len atI keyEnt iv iv_len)
def RdP (w : World) (s : Sl) (l : List Part) : Prop := ∃ xs : List PV, xs.map pvis = l ∧ (∃ o, SlR w s 2 pdv xs o) ∧ ∀ x ∈ xs, ∃ o, SlR w x.2.1 1 iv x.2.2 o

def RdW (w : World) (s : Sl) (l : List RowT) : Prop := ∃ xs : List RV, xs.map rvis = l ∧ (∃ o, SlR w s 3 rdv xs o) ∧ ∀ x ∈ xs, RdP w x.2.1 x.2.2

theorem SlR.keep {α : Type} {f : α → List Value} {n : Nat} {w w' : World} {s : Sl} {l : List α} (h : ∃ o, SlR w s n f l o) (hf : Fr [] w w') : ∃ o, SlR w' s n f l o := by
  obtain ⟨o, h⟩ := h
  exact ⟨o, h.fr hf (by simp)⟩

theorem RdP.keep {w w' : World} {s : Sl} {l : List Part} (h : RdP w s l) (hf : Fr [] w w') : RdP w' s l := by
  obtain ⟨xs, h1, h2, h3⟩ := h
  exact ⟨xs, h1, SlR.keep h2 hf, fun x hx => SlR.keep (h3 x hx) hf⟩

theorem RdW.keep {w w' : World} {s : Sl} {l : List RowT} (h : RdW w s l) (hf : Fr [] w w') : RdW w' s l := by
  obtain ⟨xs, h1, h2, h3⟩ := h
  exact ⟨xs, h1, SlR.keep h2 hf, fun x hx => (h3 x hx).keep hf⟩

def WA.does (a : WA) (A : List Ent) (d : Deed) : WA × List Ent × Int :=
  if pk d.1 5 = 0 ∨ A = [] then
    ((a.spawn [partL d.2.2.1 d.2.2.2]).1, if (a.spawn [partL d.2.2.1 d.2.2.2]).2.2 = 0 then A ++ [(a.spawn [partL d.2.2.1 d.2.2.2]).2.1] else A, (a.spawn [partL d.2.2.1 d.2.2.2]).2.2)
  else
    let e := A.getD (pk d.2.1 A.length).toNat (0, 0)
    let r := if pk d.1 5 = 1 then a.despawn e else if pk d.1 5 = 2 then a.add e (partL d.2.2.1 d.2.2.2) else if pk d.1 5 = 3 then a.remove e (1 + pk d.2.2.1 4) else a.set e (partL d.2.2.1 d.2.2.2)
    (r.1, A, r.2)

section
variable {S : List Nat} {w0 w : World} {its : List Thing}
set_option maxHeartbeats 4000000 in
theorem does_W (h : Hp S w0 w its) (i j : Nat) (hij : i ≠ j) {b : Nat} {a : WA} {all : Sl} {A : List Ent} {d : Deed} (hi : its[i]? = some (tW b a)) (hj : its[j]? = some (tSl all 43 2 ent A)) (hA : A.length ≤ 1000000)
    (hd1 : -9223372036854775808 ≤ d.1) (hd2 : -9223372036854775808 ≤ d.2.1) (hd3 : -9223372036854775808 ≤ d.2.2.1) {K : Sl → Int → World → Prop}
    (hK : ∀ all' w', Hp S w0 w' ((its.set i (tW b (a.does A d).1)).set j (tSl all' 43 2 ent (a.does A d).2.1)) → K all' (a.does A d).2.2 w') : c15 (some ⟨b, 0, none⟩) all d.1 d.2.1 d.2.2.1 d.2.2.2 w K := by
  refine c15_of ?_
  unfold f15
  obtain ⟨inf2, i1, i2, i3, i4⟩ := FT.inf32
  obtain ⟨O, h1, back⟩ := h.f2 hij hi hj rfl rfl
  clear h
  have h := h1
  clear h1
  have hAl := h.len (s := all) 1 rfl
  have fin : ∀ {w' : World} {a' : WA} {all' : Sl} {A' : List Ent} {more : List Thing}, Hp O w w' ([tW b a', tSl all' 43 2 ent A'] ++ more) → Hp S w0 w' ((its.set i (tW b a')).set j (tSl all' 43 2 ent A')) := fun {w' a' all' A' more} h => by
    have := back (rest := []) rfl rfl rfl h.front
    rwa [List.append_nil] at this
  refine h.nw (c := [_, _, _, _]) fun db w1 h => ?_
  refine h.ld0 (k := .i .i64) (x := d.1) 2 rfl rfl ?_
  refine FI.pick_spec (by decide) ?_
  obtain ⟨p0, p5⟩ := FI.pk_range (c := d.1) (n := 5) hd1 (by decide)
  have hd : pk d.1 5 = 0 ∨ A = [] ∨ (pk d.1 5 ≠ 0 ∧ 0 < A.length) := by
    by_cases h0 : pk d.1 5 = 0
    · exact .inl h0
    · cases A with
      | nil => exact .inr (.inl rfl)
      | cons x l => exact .inr (.inr ⟨h0, by simp⟩)
  by_cases hc : pk d.1 5 = 0 ∨ A = []
  · have hdo : a.does A d = ((a.spawn [partL d.2.2.1 d.2.2.2]).1, if (a.spawn [partL d.2.2.1 d.2.2.2]).2.2 = 0 then A ++ [(a.spawn [partL d.2.2.1 d.2.2.2]).2.1] else A, (a.spawn [partL d.2.2.1 d.2.2.2]).2.2) := by unfold WA.does; rw [if_pos hc]
    rw [hdo] at hK
    refine ifT (by rcases hc with hc | hc
                   · simp [hc]
                   · simp [← hAl, hc]) ?_
    refine h.ld (n := 2) (k := .i .i64) (x := d.2.2.1) 2 rfl rfl ?_
    refine h.ld (n := 3) (k := .i .i64) (x := d.2.2.2) 2 rfl rfl ?_
    refine part_spec h hd3 fun vs w10 h => ?_
    obtain ⟨q1, q2⟩ := partL_kind d.2.2.1 d.2.2.2 hd3
    have hpr := partL_rng d.2.2.1 d.2.2.2
    generalize partL d.2.2.1 d.2.2.2 = pt at q1 q2 hpr h hK ⊢
    refine h.nwS (l := [((pt.1, vs, pt.2) : PV)]) (f := pdv) (n := 2) (c := [_, _]) rfl rfl pdv_len fun b5 w11 h => ?_
    have h : Hp O w w11 ([tW b a, tSl all 43 2 ent A, tBlk db 47 [.int .i64 d.1, .int .i64 d.2.1, .int .i64 d.2.2.1, .int .i64 d.2.2.2]] ++ [tSl vs 2 1 iv pt.2] ++ [tSl ⟨some ⟨b5, 0, none⟩, 1, 1⟩ 40 2 pdv [((pt.1, vs, pt.2) : PV)]]) := h
    have h := h.swap2
    rw [List.append_assoc] at h
    have h := h.nest_make (vis := pvis) (sub := tV) (xs := [((pt.1, vs, pt.2) : PV)]) rfl
    have h : Hp O w w11 [tW b a, tSl all 43 2 ent A, tBlk db 47 [.int .i64 d.1, .int .i64 d.2.1, .int .i64 d.2.2.1, .int .i64 d.2.2.2], tParts ⟨some ⟨b5, 0, none⟩, 1, 1⟩ [pt]] := h
    refine Spawn_W h 0 3 (by decide) rfl rfl (fun x hx => ?_) (fun x hx => ?_) (by simp) fun w12 h => ?_
    · simp only [List.mem_singleton] at hx; subst hx; omega
    · simp only [List.mem_singleton] at hx; subst hx; exact hpr
    generalize a.spawn [pt] = sp at h hK ⊢
    obtain ⟨a', e, err⟩ := sp
    dsimp only at h hK ⊢
    refine h.nw (c := [_, _]) fun xb w13 h => ?_
    refine h.st0 4 rfl (by simp) rfl fun w14 h => ?_
    refine h.st (n := 1) 4 rfl (by simp) rfl fun w15 h => ?_
    have h : Hp O w w15 [tW b a', tSl all 43 2 ent A, tBlk db 47 [.int .i64 d.1, .int .i64 d.2.1, .int .i64 d.2.2.1, .int .i64 d.2.2.2], tParts ⟨some ⟨b5, 0, none⟩, 1, 1⟩ [pt], tBlk xb 43 [.int .i64 e.1, .int .i64 e.2]] := h
    by_cases he : err = 0
    · simp only [if_pos he] at hK
      refine ifT (by simp [he]) ?_
      refine h.ld0 (k := .i .i64) (x := e.1) 4 rfl rfl ?_
      refine h.ld (n := 1) (k := .i .i64) (x := e.2) 4 rfl rfl ?_
      refine h.nwapp 1 e (c := [_, _]) rfl ent_len und35 i1 i3 i2 rfl rfl (by simp [ent, Value.oneCell']) (by rw [i4]; omega) (by omega) fun all2 w17 h _ _ => ?_
      exact hK all2 w17 (fin (more := [_, _, _]) h)
    · simp only [if_neg he] at hK
      exact ifF (by simp [he]) (hK all w15 (fin (more := [_, _, _]) h))
  · have hA0 : 0 < A.length := by
      cases A with
      | nil => exact absurd (.inr rfl) hc
      | cons x l => simp
    have hk0 : pk d.1 5 ≠ 0 := fun e => hc (.inl e)
    refine ifF (by simp [hk0]; omega) ?_
    refine h.ld (n := 1) (k := .i .i64) (x := d.2.1) 2 rfl rfl ?_
    refine FI.pick_spec (by omega) ?_
    obtain ⟨r0, r1⟩ := FI.pk_range (c := d.2.1) (n := (all.len : Int)) hd2 (by omega)
    have hdo : a.does A d = (let r := if pk d.1 5 = 1 then a.despawn (A.getD (pk d.2.1 A.length).toNat (0, 0)) else if pk d.1 5 = 2 then a.add (A.getD (pk d.2.1 A.length).toNat (0, 0)) (partL d.2.2.1 d.2.2.2) else if pk d.1 5 = 3 then a.remove (A.getD (pk d.2.1 A.length).toNat (0, 0)) (1 + pk d.2.2.1 4) else a.set (A.getD (pk d.2.1 A.length).toNat (0, 0)) (partL d.2.2.1 d.2.2.2); (r.1, A, r.2)) := by
      unfold WA.does; rw [if_neg hc]
    rw [hAl] at hdo
    generalize pk d.2.1 (all.len : Int) = r at r0 r1 hdo ⊢
    obtain ⟨r, rfl⟩ : ∃ n : Nat, r = n := ⟨r.toNat, by omega⟩
    have hrl : r < A.length := by omega
    have hy : A[r]? = some A[r] := by simp [hrl]
    rw [Int.toNat_natCast, List.getD_eq_getElem?_getD, hy] at hdo
    generalize A[r] = e at hy hdo
    dsimp only [Option.getD_some] at hdo
    refine h.ixr (s := all) (l := A) (f := ent) (n := 2) (e := 43) 1 rfl (by omega) (by rw [Int.toNat_natCast]; exact hy) ent_len fun ad2 hc2 => ?_
    refine ldR0 (k := .i .i64) (x := e.1) (hc2 0 (by omega)) rfl ?_
    refine ldR (k := .i .i64) (x := e.2) (hc2 1 (by omega)) rfl ?_
    refine h.nw (c := [_, _]) fun eb w2 h => ?_
    refine h.st0 3 rfl (by simp) rfl fun w3 h => ?_
    refine h.st (n := 1) 3 rfl (by simp) rfl fun w4 h => ?_
    have h : Hp O w w4 [tW b a, tSl all 43 2 ent A, tBlk db 47 [.int .i64 d.1, .int .i64 d.2.1, .int .i64 d.2.2.1, .int .i64 d.2.2.2], tBlk eb 43 [.int .i64 e.1, .int .i64 e.2]] := h
    refine h.ld0 (k := .i .i64) (x := d.1) 2 rfl rfl ?_
    refine FI.pick_spec (by decide) ?_
    by_cases h1 : pk d.1 5 = 1
    · rw [if_pos h1] at hdo
      rw [hdo] at hK
      refine ifT (by simp [h1]) ?_
      refine h.ld0 (k := .i .i64) (x := e.1) 3 rfl rfl ?_
      refine h.ld (n := 1) (k := .i .i64) (x := e.2) 3 rfl rfl ?_
      refine Despawn_W h 0 (e := e) rfl fun w5 h => ?_
      exact hK all w5 (fin (more := [_, _]) h)
    rw [if_neg h1] at hdo
    refine ifF (by simpa using h1) ?_
    by_cases h2 : pk d.1 5 = 2
    · rw [if_pos h2] at hdo
      rw [hdo] at hK
      refine ifT (by simp [h2]) ?_
      refine h.dr fun w5 h => ?_
      refine h.ld0 (k := .i .i64) (x := e.1) 3 rfl rfl ?_
      refine h.ld (n := 1) (k := .i .i64) (x := e.2) 3 rfl rfl ?_
      refine h.ld (n := 2) (k := .i .i64) (x := d.2.2.1) 2 rfl rfl ?_
      refine h.ld (n := 3) (k := .i .i64) (x := d.2.2.2) 2 rfl rfl ?_
      refine part_spec h hd3 fun vs w6 h => ?_
      obtain ⟨q1, q2⟩ := partL_kind d.2.2.1 d.2.2.2 hd3
      refine ⟨h.cel0 3 rfl rfl, h.cel (n := 1) 3 rfl rfl, ?_⟩
      refine Add_W h 0 4 (by decide) (e := e) (v := (partL d.2.2.1 d.2.2.2).2) rfl rfl (by omega) (by omega) (partL_rng _ _) fun w7 h => ?_
      exact hK all w7 (fin (more := [_, _, _]) h)
    rw [if_neg h2] at hdo
    refine ifF (by simpa using h2) ?_
    by_cases h3 : pk d.1 5 = 3
    · rw [if_pos h3] at hdo
      rw [hdo] at hK
      refine ifT (by simp [h3]) ?_
      refine h.dr fun w5 h => ?_
      refine h.ld0 (k := .i .i64) (x := e.1) 3 rfl rfl ?_
      refine h.ld (n := 1) (k := .i .i64) (x := e.2) 3 rfl rfl ?_
      refine h.ld (n := 2) (k := .i .i64) (x := d.2.2.1) 2 rfl rfl ?_
      refine FI.pick_spec (by decide) ?_
      obtain ⟨t0, t4⟩ := FI.pk_range (c := d.2.2.1) (n := 4) hd3 (by decide)
      refine ⟨h.cel0 3 rfl rfl, h.cel (n := 1) 3 rfl rfl, ?_⟩
      rw [wr64 (n := 1 + pk d.2.2.1 4) (by omega) (by omega)]
      refine Remove_W h 0 (e := e) rfl (by omega) (by omega) fun w6 h => ?_
      exact hK all w6 (fin (more := [_, _]) h)
    rw [if_neg h3] at hdo
    rw [hdo] at hK
    refine ifF (by simpa using h3) ?_
    refine h.dr fun w5 h => ?_
    refine h.ld0 (k := .i .i64) (x := e.1) 3 rfl rfl ?_
    refine h.ld (n := 1) (k := .i .i64) (x := e.2) 3 rfl rfl ?_
    refine h.ld (n := 2) (k := .i .i64) (x := d.2.2.1) 2 rfl rfl ?_
    refine h.ld (n := 3) (k := .i .i64) (x := d.2.2.2) 2 rfl rfl ?_
    refine part_spec h hd3 fun vs w6 h => ?_
    obtain ⟨q1, q2⟩ := partL_kind d.2.2.1 d.2.2.2 hd3
    refine ⟨h.cel0 3 rfl rfl, h.cel (n := 1) 3 rfl rfl, ?_⟩
    refine Set_W h 0 4 (by decide) (e := e) (v := (partL d.2.2.1 d.2.2.2).2) rfl rfl Hp.rdSl (by omega) (by omega) (partL_rng _ _) fun w7 h => ?_
    exact hK all w7 (fin (more := [_, _, _]) h)

end
end Go.Proofs.Ytcccjgmekakabaa.FW
end

section
set_option linter.unusedSimpArgs false
set_option linter.unusedVariables false
set_option maxRecDepth 100000
namespace Go.Proofs.Ytcccjgmekakabaa.FW
open Go.Proofs.Ytcccjgmekakabaa.F
open Go Go.Den Go.Proofs
open Go.Proofs.Ytcccjgmekakabaa.FI (PoolM tPool pk fromM)
open Go.Proofs.Ytcccjgmekakabaa.FT (TabM tTab Ent entV ent ent_len atI keyEnt iv iv_len)
open Go.Proofs.Ytcccjgmekakabaa.FP (putU zig zag encZ rowU tB putU_len encZ_len R64 RowOk Acc getU getI getU_range getU_put getI_put)
theorem RowOk.uniq {bs : List Int} {m : Int} {X X' : List Int} {s s' : Int} (h : RowOk bs m X s) (h' : RowOk bs m X' s') : X = X' ∧ s = s' := by
  by_cases h0 : s = 0
  · by_cases h0' : s' = 0
    · rw [h.1 h0, h'.1 h0', h0, h0']; exact ⟨rfl, rfl⟩
    · have := h.2.2 X' (h'.2.1 h0').1
      exact ⟨this.1, by rw [this.2, (h'.2.1 h0').2]⟩
  · have := h'.2.2 X (h.2.1 h0).1
    exact ⟨this.1.symm, by rw [(h.2.1 h0).2, this.2]⟩

open Classical in
/-- The row with which bytes begin, and how long it is. -/
noncomputable def getR (bs : List Int) (most : Int) : List Int × Int := if h : ∃ p : List Int × Int, RowOk bs most p.1 p.2 then Classical.choose h else ([], 0)

theorem getR_of {bs : List Int} {m : Int} {X : List Int} {s : Int} (h : RowOk bs m X s) : getR bs m = (X, s) := by
  have he : ∃ p : List Int × Int, RowOk bs m p.1 p.2 := ⟨(X, s), h⟩
  unfold getR
  rw [dif_pos he]
  have := RowOk.uniq (Classical.choose_spec he) h
  exact Prod.ext this.1 this.2

open Classical in
noncomputable def nums (bs : List Int) : Option (List Int × List Int) :=
  if (getR bs 200).2 = 0 ∨ ¬ (∀ x ∈ (getR bs 200).1, 0 ≤ x ∧ x ≤ 1000001) then none else some ((getR bs 200).1, bs.drop (getR bs 200).2.toNat)

def loadVals : Nat → List Int → Option (List Int × List Int)
  | 0, bs => some ([], bs)
  | n + 1, bs => if (getI bs).2 = 0 then none else (loadVals n (bs.drop (getI bs).2.toNat)).map fun r => ((getI bs).1 :: r.1, r.2)

/-- The parts that a set and its numbers make. -/
def plOf (ks : KD) (set : Int) (v : List Int) : PL := (List.range ks.length).map fun i => if bit set (i + 1) = 1 then some ((v.drop (atF ks set i)).take (((ks[i]?).map (·.2.length)).getD 0)) else none

def loadRows (ks : KD) : List Ent → List Int → (Ent → Option PL) → Option ((Ent → Option PL) × List Int)
  | [], bs, row => some (row, bs)
  | e :: es, bs, row =>
    if (getU bs).2 = 0 ∨ (getU bs).1 % 2 = 1 ∨ (getU bs).1 / 2 ^ (ks.length + 1) ≠ 0 then none
    else match loadVals (atF ks (getU bs).1 ks.length) (bs.drop (getU bs).2.toNat) with
      | none => none
      | some r => loadRows ks es r.2 (upd1 row e (some (plOf ks (getU bs).1 r.1)))

noncomputable def load (ks : KD) (bs : List Int) : Option WA × Int :=
  if ¬ mayOk ks then (none, 65) else match nums bs with
  | none => (none, 64)
  | some r1 => match nums r1.2 with
    | none => (none, 64)
    | some r2 => match fromM 200 r1.1 r2.1 with
      | none => (none, 64)
      | some m => match loadRows ks (m.allU m.gens.length) r2.2 (fun _ => none) with
        | none => (none, 64)
        | some r => if r.2 = [] then (some ⟨ks, m, r.1⟩, 0) else (none, 64)

theorem atF_mono (ks : KD) (set : Int) {i j : Nat} (h : i ≤ j) : atF ks set i ≤ atF ks set j := by
  induction j with
  | zero => rw [show i = 0 by omega]; exact Nat.le_refl _
  | succ j ih =>
    by_cases hi : i ≤ j
    · have := ih hi
      rw [atF]; omega
    · obtain rfl : i = j + 1 := by omega
      exact Nat.le_refl _

theorem plOf_len (ks : KD) (set : Int) (v : List Int) : (plOf ks set v).length = ks.length := by simp [plOf]

theorem plOf_get {ks : KD} {set : Int} {v : List Int} {i : Nat} {k : ByteArray × List ByteArray} (hk : ks[i]? = some k) :
    (plOf ks set v)[i]? = some (if bit set (i + 1) = 1 then some ((v.drop (atF ks set i)).take k.2.length) else none) := by
  have hl := (List.getElem?_eq_some_iff.1 hk).1
  unfold plOf
  rw [List.getElem?_map, List.getElem?_range hl, Option.map_some, hk]; rfl

theorem atF_step {ks : KD} {set : Int} {i : Nat} {k : ByteArray × List ByteArray} (hk : ks[i]? = some k) : atF ks set (i + 1) = atF ks set i + if bit set (i + 1) = 1 then k.2.length else 0 := by
  rw [atF, hk]; rfl

theorem plOf_flat {ks : KD} {set : Int} {v : List Int} (hv : v.length = atF ks set ks.length) : ∀ q, q ≤ ks.length → flat ((plOf ks set v).take q) = v.take (atF ks set q)
  | 0, _ => by simp [atF, flat]
  | q + 1, hq => by
    have ih := plOf_flat hv q (by omega)
    have hk : ks[q]? = some ks[q] := by simp [show q < ks.length by omega]
    have hg := plOf_get (set := set) (v := v) hk
    have hm := atF_mono ks set (show q + 1 ≤ ks.length from hq)
    have hs := atF_step (set := set) hk
    rw [flat_take hg, ih]
    by_cases hb : bit set (q + 1) = 1
    · rw [if_pos hb] at hs ⊢
      rw [hs, Option.getD_some]
      rw [List.take_add]
    · rw [if_neg hb] at hs ⊢
      rw [hs]; simp

theorem plOf_all {ks : KD} {set : Int} {v : List Int} (hv : v.length = atF ks set ks.length) : flat (plOf ks set v) = v := by
  have := plOf_flat hv ks.length (Nat.le_refl _)
  rwa [← plOf_len ks set v, List.take_length, plOf_len, ← hv, List.take_length] at this

theorem plOf_fit {ks : KD} {set : Int} {v : List Int} (hv : v.length = atF ks set ks.length) : (plOf ks set v).fit ks := by
  refine ⟨plOf_len _ _ _, fun i x k hx hk => ?_⟩
  rw [plOf_get hk] at hx
  have hil := (List.getElem?_eq_some_iff.1 hk).1
  have hx := Option.some.inj hx
  split at hx
  · rename_i hb
    obtain rfl := Option.some.inj hx
    have hm := atF_mono ks set (show i + 1 ≤ ks.length from hil)
    have hs := atF_step (set := set) hk
    rw [if_pos hb] at hs
    rw [List.length_take, List.length_drop]
    omega
  · cases hx

theorem plOf_set {ks : KD} (hl : ks.length ≤ 12) {set : Int} {v : List Int} (h0 : 0 ≤ set) (h1 : set % 2 = 0) (h2 : set / 2 ^ (ks.length + 1) = 0) : setI (plOf ks set v) = set := by
  obtain ⟨s, rfl⟩ : ∃ s : Nat, set = s := ⟨set.toNat, by omega⟩
  have h2' : s / 2 ^ (ks.length + 1) = 0 := by
    have e : ((s : Int) / 2 ^ (ks.length + 1)) = ((s / 2 ^ (ks.length + 1) : Nat) : Int) := by simp
    rw [e] at h2; omega
  have hlt : s < 2 ^ (ks.length + 1) := by
    rcases Nat.lt_or_ge s (2 ^ (ks.length + 1)) with h | h
    · exact h
    · have := Nat.div_pos h (Nat.two_pow_pos _)
      omega
  unfold setI
  congr 1
  apply Nat.eq_of_testBit_eq
  intro j
  rw [setN_bit]
  cases j with
  | zero =>
    rw [Nat.testBit_zero]
    show false = _
    symm
    simp; omega
  | succ i =>
    show ((plOf ks (s : Int) v).getD i none).isSome = _
    by_cases hi : i < ks.length
    · have hk : ks[i]? = some ks[i] := by simp [hi]
      rw [List.getD_eq_getElem?_getD, plOf_get hk, Option.getD_some]
      have hb : bit (s : Int) (i + 1) = ((s / 2 ^ (i + 1) % 2 : Nat) : Int) := by unfold bit; simp
      rw [hb, Nat.testBit_eq_decide_div_mod_eq]
      by_cases h : s / 2 ^ (i + 1) % 2 = 1
      · rw [if_pos (by rw [h]; rfl), decide_eq_true h]; rfl
      · rw [if_neg (by omega), decide_eq_false h]; rfl
    · rw [List.getD_eq_getElem?_getD, List.getElem?_eq_none (by rw [plOf_len]; omega)]
      symm
      exact Nat.testBit_lt_two_pow (Nat.lt_of_lt_of_le hlt (Nat.pow_le_pow_right (by omega) (by omega)))

theorem plOf_back {ks : KD} {p : PL} (h : p.fit ks) : plOf ks (setI p) (flat p) = p := by
  apply List.ext_getElem?
  intro i
  by_cases hi : i < ks.length
  · have hk : ks[i]? = some ks[i] := by simp [hi]
    have hp : p[i]? = some (p[i]'(by rw [h.1]; exact hi)) := List.getElem?_eq_getElem _
    rw [plOf_get hk]
    cases ho : p[i]'(by rw [h.1]; exact hi) with
    | none =>
      rw [ho] at hp
      rw [if_neg (fun hb => by have := bit_is.1 hb; rw [List.getD_eq_getElem?_getD, hp] at this; cases this), hp]
    | some x =>
      rw [ho] at hp
      rw [if_pos (bit_is.2 (by rw [List.getD_eq_getElem?_getD, hp]; rfl)), hp]
      have hl := h.2 i x _ hp hk
      have := h.get hp
      rw [List.drop_take, Nat.add_sub_cancel_left] at this
      rw [← hl, this]
  · rw [List.getElem?_eq_none (by rw [plOf_len]; omega), List.getElem?_eq_none (by rw [h.1]; omega)]

theorem drop_app {a b : List Int} {n : Int} (h : n = (a.length : Int)) : (a ++ b).drop n.toNat = b := by
  rw [h, Int.toNat_natCast, List.drop_left]

theorem zig_zag {x : Int} : zag (zig x) = x := by
  unfold zag zig
  split <;> split <;> omega

theorem loadVals_enc : ∀ (v : List Int), R64 v → ∀ r, loadVals v.length (encZ v ++ r) = some (v, r)
  | [], _, r => rfl
  | x :: v, hv, r => by
    have hx := hv x (by simp)
    have e : encZ (x :: v) ++ r = putU (zig x) ++ (encZ v ++ r) := by unfold encZ; rw [List.flatMap_cons, List.append_assoc]
    have hg := getI_put hx.1 hx.2 (encZ v ++ r)
    have hgi : getI (putU (zig x) ++ (encZ v ++ r)) = (x, ((putU (zig x)).length : Int)) := by
      unfold getI; rw [hg, zig_zag]
    have hpos := FP.putU_pos (zig x)
    rw [e, List.length_cons, loadVals, hgi, if_neg (by show ¬ ((putU (zig x)).length : Int) = 0; omega)]
    rw [drop_app rfl, loadVals_enc v (fun y hy => hv y (by simp [hy])) r]; rfl

theorem loadRows_snap {ks : KD} (hl : ks.length ≤ 12) {row0 : Ent → Option PL} : ∀ (es : List Ent) (row : Ent → Option PL), (∀ e ∈ es, ∃ p, row0 e = some p ∧ p.fit ks ∧ R64 (flat p)) →
    loadRows ks es (es.flatMap fun e => snapRow ((row0 e).getD [])) row = some (fun e => if e ∈ es then row0 e else row e, [])
  | [], row, _ => by simp [loadRows]
  | e :: es, row, h => by
    obtain ⟨p, hp, hf, hr⟩ := h e (by simp)
    have hs0 := setI_nn p
    have hs1 := setI_lt (show p.length ≤ 12 by rw [hf.1]; exact hl)
    have e1 : (e :: es).flatMap (fun e => snapRow ((row0 e).getD [])) = putU (setI p) ++ (encZ (flat p) ++ es.flatMap fun e => snapRow ((row0 e).getD [])) := by
      rw [List.flatMap_cons, hp]
      show putU (setI p) ++ encZ (flat p) ++ _ = _
      rw [List.append_assoc]
    have hg := getU_put (n := setI p) hs0 (by omega) (encZ (flat p) ++ es.flatMap fun e => snapRow ((row0 e).getD []))
    have hpos := FP.putU_pos (setI p)
    rw [e1, loadRows, hg]
    dsimp only
    rw [if_neg, drop_app rfl, ← hf.all, loadVals_enc _ hr]
    · dsimp only
      rw [plOf_back hf, loadRows_snap hl es _ (fun x hx => h x (by simp [hx]))]
      congr 2
      funext x
      unfold upd1
      by_cases hx : x ∈ es
      · rw [if_pos hx, if_pos (by simp [hx])]
      · rw [if_neg hx]
        by_cases hxe : x = e
        · rw [if_pos hxe, if_pos (by simp [hxe]), hxe, hp]
        · rw [if_neg hxe, if_neg (by simp [hx, hxe])]
    · have heven : setI p % 2 = 0 := by unfold setI; rw [setN]; simp
      have hbig : setI p / 2 ^ (ks.length + 1) = 0 := by
        have h1 := setN_lt (none :: p)
        have e : (setI p / 2 ^ (ks.length + 1)) = ((setN (none :: p) / 2 ^ (ks.length + 1) : Nat) : Int) := by unfold setI; simp
        rw [e, Nat.div_eq_of_lt]
        · rfl
        · rw [← hf.1]; exact h1
      rintro (h | h | h)
      · have : (putU (setI p)).length = 0 := by omega
        omega
      · omega
      · exact h hbig

/-- What Load makes of a snapshot. -/
theorem load_snap {a : WA} (hok : a.Ok) (hfit : ∀ e p, a.row e = some p → p.fit a.ks) (r1 : ∀ l, Acc a.snap 200 l → getR a.snap 200 = (l, ((rowU l).length : Int))) (r2 : ∀ l, Acc (a.snap.drop (rowU a.pool.stGens).length) 200 l → getR (a.snap.drop (rowU a.pool.stGens).length) 200 = (l, ((rowU l).length : Int))) : load a.ks a.snap = (some a, 0) := by
  obtain ⟨g1, g2, g3, g4⟩ := stGens_rng hok.pok
  have h1 := r1 a.pool.stGens ⟨by omega, by omega, by omega, g1, rowU a.pool.free ++ a.all.flatMap (fun e => snapRow ((a.row e).getD [])), by unfold WA.snap; rw [List.append_assoc]⟩
  have ed : a.snap.drop (rowU a.pool.stGens).length = rowU a.pool.free ++ a.all.flatMap fun e => snapRow ((a.row e).getD []) := by
    unfold WA.snap; rw [List.append_assoc, List.drop_left]
  have h2 := r2 a.pool.free ⟨by omega, by omega, by omega, g3, _, ed⟩
  have hpos : ∀ l, 0 < (rowU l).length := fun l => by
    unfold rowU
    rw [List.length_append]
    have := FP.putU_pos l.length
    omega
  have hn1 : nums a.snap = some (a.pool.stGens, a.snap.drop (rowU a.pool.stGens).length) := by
    unfold nums
    rw [h1]
    dsimp only
    rw [if_neg, Int.toNat_natCast]
    rintro (h | h)
    · have := hpos a.pool.stGens; omega
    · refine h fun x hx => ?_
      unfold PoolM.stGens at hx
      obtain ⟨i, hi, rfl⟩ := List.mem_mapIdx.1 hx
      have := hok.pok.gens _ (List.getElem_mem hi)
      split <;> omega
  have hn2 : nums (a.snap.drop (rowU a.pool.stGens).length) = some (a.pool.free, a.all.flatMap fun e => snapRow ((a.row e).getD [])) := by
    unfold nums
    rw [h2]
    dsimp only
    rw [if_neg, ed, drop_app rfl]
    rintro (h | h)
    · have := hpos a.pool.free; omega
    · refine h fun x hx => ?_
      have := hok.pok.free x hx
      have := hok.pok.len200
      omega
  have hfr : fromM 200 a.pool.stGens a.pool.free = some a.pool := by
    have := FI.from_same hok.pok2
    rwa [hok.most] at this
  have hlr := loadRows_snap (ks := a.ks) hok.len.2 (row0 := a.row) a.all (fun _ => none) (fun e he => by
    obtain ⟨p, hp⟩ := all_lives hok he
    exact ⟨p, hp, hfit e p hp, hok.rng e p hp⟩)
  unfold load
  rw [if_neg (by simpa using hok.may), hn1]
  dsimp only
  rw [hn2]
  dsimp only
  rw [hfr]
  dsimp only
  show (match loadRows a.ks a.all _ _ with | none => _ | some r => _) = _
  rw [hlr]
  dsimp only
  rw [if_pos rfl]
  have : (fun e => if e ∈ a.all then a.row e else none) = a.row := by
    funext e
    split
    · rfl
    · rename_i h
      cases hr : a.row e with
      | none => rfl
      | some p => exact absurd ((all_mem hok).2 (by rw [hr]; rfl)) h
  rw [this]

section
variable {S : List Nat} {w0 w : World} {its : List Thing}
theorem rd_nil {u : Thing} {f : Int → List Value} {n : Nat} : Hp.Reads u ⟨none, 0, 0⟩ n f ([] : List Int) := ⟨fun {w O} _ => ⟨[], SlR.nil rfl⟩⟩

set_option maxHeartbeats 1000000 in
theorem numbers_spec (h : Hp S w0 w its) (j : Nat) {u : Thing} {b : Sl} {bs : List Int} (hj : its[j]? = some u) (hu : Hp.Reads u b 1 u8v bs) (hb : Bytes bs) (hl : bs.length ≤ 9000000000000000) (hcap : b.len ≤ b.cap) {K : Sl → Sl → Bool → World → Prop}
    (hK : ∀ out s one w' (l bs' : List Int), RowOk bs 200 (getR bs 200).1 (getR bs 200).2 → Hp S w0 w' (its ++ [tSl out 3 1 iv l]) → Hp.Reads u s 1 u8v bs' → s.len ≤ s.cap → Bytes bs' → bs'.length ≤ bs.length → (one = true → nums bs = some (l, bs') ∧ l.length ≤ 200) → (one = false → nums bs = none) → K out s one w') : c67 b w K := by
  refine c67_of ?_
  unfold f67
  obtain ⟨inf, q1, q2, q3, q4⟩ := FT.inf3
  have hjl := (List.getElem?_eq_some_iff.1 hj).1
  refine FP.GetRow_spec h j (by rw [hj]; rfl) hu hb hl hcap fun s X size w1 hR h => ?_
  have hg := getR_of hR
  have hbl := h.lenU (u := u) j (by rw [List.getElem?_append_left hjl, hj]; rfl) hu
  have hX : X.length ≤ 200 := by
    by_cases h0 : size = 0
    · rw [hR.1 h0]; simp
    · have := (hR.2.1 h0).1.2.1; omega
  have hXr : R64 X := by
    by_cases h0 : size = 0
    · rw [hR.1 h0]; intro x hx; cases hx
    · exact (hR.2.1 h0).1.2.2.2.1
  have hsz : 0 ≤ size ∧ size ≤ bs.length := by
    by_cases h0 : size = 0
    · omega
    · obtain ⟨hA, he⟩ := hR.2.1 h0
      obtain ⟨_, _, _, _, rest, hr⟩ := hA
      have := congrArg List.length hr
      rw [List.length_append] at this
      omega
  have hR' : RowOk bs 200 (getR bs 200).1 (getR bs 200).2 := by rw [hg]; exact hR
  have h := h.nil 3 1 iv
  have hsl := h.len (s := s) (e := 2) (n := 1) (f := iv) (l := X) its.length (by rw [List.append_assoc, List.getElem?_append_right (Nat.le_refl _), Nat.sub_self]; rfl)
  have g0 : ∀ {l : List Thing} (k : Nat), (its ++ l)[its.length + k]? = l[k]? := fun {l} k => by rw [List.getElem?_append_right (by omega)]; simp
  have s0 : ∀ {l : List Thing} (k : Nat) (t : Thing), (its ++ l).set (its.length + k) t = its ++ l.set k t := fun {l} k t => by rw [List.set_append_right _ _ (by omega)]; simp
  have h : Hp S w0 w1 (its ++ [tSl s 2 1 iv X] ++ [tSl ⟨none, 0, 0⟩ 3 1 iv []]) := h
  rw [List.append_assoc] at h
  have h : Hp S w0 w1 (its ++ [tSl s 2 1 iv X, tSl ⟨none, 0, 0⟩ 3 1 iv []]) := h
  refine ⟨fun out t17 mm w' => ∃ k : Nat, t17 = k ∧ k ≤ X.length ∧ mm = X.length - k ∧ (∀ x ∈ X.take k, 0 ≤ x ∧ x ≤ 1000001) ∧ Hp S w0 w' (its ++ [tSl s 2 1 iv X, tSl out 3 1 iv (X.take k)]), ⟨X.length, 0, rfl, by omega, rfl, by simp, h⟩, ?_⟩
  clear h
  rintro out t17 mm w2 ⟨k, rfl, hk, rfl, hall, h⟩
  have hol := h.len (s := out) (e := 3) (n := 1) (f := iv) (l := X.take k) (its.length + 1) (by rw [g0]; rfl)
  rw [List.length_take] at hol
  by_cases hlt : k < X.length
  · refine ifT (by simp; omega) ?_
    refine h.ixld (k := .i .i64) (s := s) (e := 2) (f := iv) (l := X) (y := X[k]) (x := X[k]) (its.length + 0) (by rw [g0]; rfl) (by omega) (by simp [hlt]) iv_len rfl ?_
    by_cases hx : 0 ≤ X[k] ∧ X[k] ≤ 1000001
    · refine ifF ?_ ?_
      · have a1 : ¬ (X[k] < 0) := by omega
        have a2 : ¬ (X[k] > 1000001) := by omega
        simp [a1, a2]
      refine h.nwapp (its.length + 1) (X[k]) (c := [_]) (by rw [g0]; rfl) iv_len FI.und22 q1 q3 q2 rfl rfl (by simp [iv, Value.oneCell']) (by rw [q4]; omega) (by omega) fun out2 w3 h _ _ => ?_
      rw [s0] at h
      refine ⟨X.length - (k + 1), by omega, k + 1, by rw [wr64 (by omega) (by omega)]; omega, by omega, rfl, ?_, ?_⟩
      · rw [List.take_succ_eq_append_getElem hlt]
        intro y hy
        rcases List.mem_append.1 hy with hy | hy
        · exact hall y hy
        · simp only [List.mem_singleton] at hy
          subst hy; exact hx
      · rw [List.take_succ_eq_append_getElem hlt]
        exact h
    · refine ifT ?_ ?_
      · by_cases a1 : X[k] < 0
        · simp [a1]
        · have a2 : X[k] > 1000001 := by omega
          simp [a1, a2]
      have h : Hp S w0 w2 (its ++ [tSl s 2 1 iv X] ++ [tSl out 3 1 iv (X.take k)]) := by simpa using h
      refine hK _ _ _ w2 [] [] hR' (h.front.front.nil 3 1 iv) rd_nil (Nat.le_refl _) (by intro x hx; cases hx) (Nat.zero_le _) (fun hh => by cases hh) (fun _ => ?_)
      unfold nums
      rw [hg, if_pos (.inr (fun hh => hx (hh _ (List.getElem_mem hlt))))]
  · refine ifF (by simp; omega) ?_
    rw [List.take_of_length_le (by omega)] at h hall
    refine h.dr fun w3 h => ?_
    refine Hp.cutv (s := b) hu hbl u8v_len (by omega) (by omega) (by omega) (Int.le_refl _) (by omega) fun s2 hs2 hl2 hc2 => ?_
    have hcap2 : s2.len ≤ s2.cap := by rw [hl2, hc2]; omega
    have e1 : (bs.take ((b.len : Nat) : Int).toNat).drop size.toNat = bs.drop size.toNat := by rw [Int.toNat_natCast, List.take_of_length_le (by omega)]
    rw [e1] at hs2
    have h : Hp S w0 w3 (its ++ [tSl s 2 1 iv X] ++ [tSl out 3 1 iv X]) := by simpa using h
    have h : Hp S w0 w3 (its ++ [tSl s 2 1 iv X] ++ [tSl out 3 1 iv X]) := h
    refine hK out s2 _ w3 X (bs.drop size.toNat) hR' h.cutMid hs2 hcap2 (fun x hx => hb x (List.mem_of_mem_drop hx)) (by rw [List.length_drop]; omega) (fun hh => ⟨?_, hX⟩) (fun hh => ?_)
    · have hpos : size > 0 := of_decide_eq_true hh
      unfold nums
      rw [hg]
      dsimp only
      rw [if_neg]
      rintro (h | h)
      · omega
      · exact h hall
    · have hpos : ¬ size > 0 := of_decide_eq_false hh
      unfold nums
      rw [hg]
      dsimp only
      rw [if_pos (.inl (by omega))]

end
end Go.Proofs.Ytcccjgmekakabaa.FW
end

section
set_option linter.unusedSimpArgs false
set_option linter.unusedVariables false
set_option maxRecDepth 100000
namespace Go.Proofs.Ytcccjgmekakabaa.FW
open Go.Proofs.Ytcccjgmekakabaa.F
open Go Go.Den Go.Proofs
open Go.Proofs.Ytcccjgmekakabaa.FI (PoolM tPool pk fromM)
open Go.Proofs.Ytcccjgmekakabaa.FT (TabM tTab Ent entV ent ent_len atI keyEnt iv iv_len)
open Go.Proofs.Ytcccjgmekakabaa.FP (putU zig zag encZ rowU tB putU_len encZ_len R64 RowOk Acc getU getI getU_range getU_put getI_put)
theorem allU_iff {m : PoolM} (hm : m.Ok) {e : Ent} : e ∈ m.allU m.gens.length ↔ m.is e.1 e.2 = true := by
  constructor
  · intro he
    obtain ⟨h1, _⟩ := FI.allU_get m m.gens.length
    obtain ⟨_, _, h2, h3⟩ := h1 e he
    exact PoolM.is_iff.2 ⟨h2, h3⟩
  · intro he
    obtain ⟨h1, h2⟩ := PoolM.is_iff.1 he
    obtain ⟨h3, h4⟩ := FI.lives_lt' hm h1
    exact allU_mem m h1 h2 h3 _ h4

theorem zag_rng {n : Int} (h0 : 0 ≤ n) (h1 : n < 18446744073709551616) : -9223372036854775808 ≤ zag n ∧ zag n ≤ 9223372036854775807 := by
  unfold zag; split <;> omega

theorem low_bit {s : Nat} (h1 : s < 18446744073709551616) : IntKind.u64.wrap ((BitVec.ofInt 64 (s : Int) &&& BitVec.ofInt 64 1).toNat : Nat) = ((s % 2 : Nat) : Int) := by
  have e2 : (BitVec.ofInt 64 (s : Int) &&& BitVec.ofInt 64 1).toNat = s % 2 := by
    rw [BitVec.toNat_and]
    have a1 : (BitVec.ofInt 64 (s : Int)).toNat = s := by rw [BitVec.toNat_ofInt]; omega
    have a2 : (BitVec.ofInt 64 1).toNat = 1 := by decide
    rw [a1, a2, Nat.and_one_is_mod]
  rw [e2, FP.w64]
  omega

section
variable {S : List Nat} {w0 w : World} {its : List Thing}
set_option maxHeartbeats 8000000 in
theorem Load_W (h : Hp S w0 w its) (i j : Nat) {s : Sl} {l : KD} (hi : its[i]? = some (tKinds s l)) (hl : l.length ≤ 1000000) (hsz : ∀ x ∈ l, x.1.size ≤ 1000000000000 ∧ ∀ y ∈ x.2, y.size ≤ 1000000000000)
    {u : Thing} {b : Sl} {bs : List Int} (hj : its[j]? = some u) (hu : Hp.Reads u b 1 u8v bs) (hb : Bytes bs) (hbl : bs.length ≤ 9000000000000000) (hcap : b.len ≤ b.cap) {K : Option Addr → Int → World → Prop}
    (hK : (mayOk l → RowOk bs 200 (getR bs 200).1 (getR bs 200).2 ∧ ∀ r1, nums bs = some r1 → RowOk r1.2 200 (getR r1.2 200).1 (getR r1.2 200).2) →
      (∀ a wb w', load l bs = (some a, 0) → Hp S w0 w' (its ++ [tW wb a]) → K (some ⟨wb, 0, none⟩) 0 w') ∧ (∀ e w', load l bs = (none, e) → Hp S w0 w' its → K none e w')) : c29 s b w K := by
  refine c29_of ?_
  unfold f29
  obtain ⟨inf, q1, q2, q3, q4⟩ := FT.inf2
  have hsl0 := h.nest_see (s := s) (l := l) (e := 94) (n := 2) (cells := kdv) (sub := tF) (vis := kvis) i (by rw [hi]; rfl)
  have hjl := (List.getElem?_eq_some_iff.1 hj).1
  refine New_W h i hi hl hsz (fun hm wb w1 h => ?_) (fun hm w1 h => ?_)
  case refine_2 =>
    refine ifT rfl ((hK fun hm' => absurd hm' hm).2 65 w1 ?_ h)
    unfold load; rw [if_pos hm]
  refine ifF (by simp) ?_
  have hlen : 1 ≤ l.length ∧ l.length ≤ 12 := ⟨hm.2.1, hm.2.2.1⟩
  have gj : ∀ {l' : List Thing}, (its ++ l')[j]? = some u := fun {l'} => by rw [List.getElem?_append_left hjl]; exact hj
  refine numbers_spec h j gj hu hb hbl hcap fun gens b2 one w2 l1 bs1 hR1 h hu1 hcap1 hb1 hbl1 hn1 hn1' => ?_
  refine numbers_spec h j (by rw [List.append_assoc]; exact gj) hu1 hb1 (by omega) hcap1 fun free b3 two w3 l2 bs2 hR2 h hu2 hcap2 hb2 hbl2 hn2 hn2' => ?_
  have fin := hK fun _ => ⟨hR1, fun r1 hr1 => by
    cases one with
    | true =>
      rw [(hn1 rfl).1] at hr1
      rw [← Option.some.inj hr1]; exact hR2
    | false => rw [hn1' rfl] at hr1; cases hr1⟩
  cases one with
  | false =>
    refine ifT rfl (fin.2 64 w3 ?_ h.front.front.front)
    unfold load; rw [if_neg (by simpa using hm), hn1' rfl]
  | true =>
  obtain ⟨hn1, hl1⟩ := hn1 rfl
  cases two with
  | false =>
    refine ifT rfl (fin.2 64 w3 ?_ h.front.front.front)
    unfold load; rw [if_neg (by simpa using hm), hn1]; dsimp only; rw [hn2' rfl]
  | true =>
  obtain ⟨hn2, hl2⟩ := hn2 rfl
  refine ifF (by simp) ?_
  have g0 : ∀ {l : List Thing} (k : Nat), (its ++ l)[its.length + k]? = l[k]? := fun {l} k => by rw [List.getElem?_append_right (by omega)]; simp
  have s0 : ∀ {l : List Thing} (k : Nat) (t : Thing), (its ++ l).set (its.length + k) t = its ++ l.set k t := fun {l} k t => by rw [List.set_append_right _ _ (by omega)]; simp
  have h : Hp S w0 w3 (its ++ [tW wb (WA.new l), tSl gens 3 1 iv l1, tSl free 3 1 iv l2]) := by simpa using h
  have hload : ∀ x, fromM 200 l1 l2 = x → load l bs = (match x with
      | none => (none, 64)
      | some m => match loadRows l (m.allU m.gens.length) bs2 (fun _ => none) with
        | none => (none, 64)
        | some r => if r.2 = [] then (some ⟨l, m, r.1⟩, 0) else (none, 64)) := fun x hx => by
    unfold load; rw [if_neg (by simpa using hm), hn1]; dsimp only; rw [hn2]; dsimp only; rw [hx]; try rfl
  refine FI.From_h h (its.length + 1) (its.length + 2) (u := tSl gens 3 1 iv l1) (v := tSl free 3 1 iv l2) (by rw [g0]; rfl) (by rw [g0]; rfl) Hp.rdSl Hp.rdSl (by omega) (fun w4 hfm h => ?_) (fun m pb2 w4 hfm h => ?_)
  · -- no pool
    obtain ⟨O, h1, back⟩ := h.f1 (i := its.length + 0) (by rw [g0]; rfl) rfl
    obtain ⟨q, hok, ht, hk, h2⟩ := W_open h1
    refine nns ?_
    refine h2.st (n := 1) 0 rfl (by simp) rfl fun w5 h2 => ?_
    refine ifT rfl (fin.2 64 w5 (by rw [hload _ hfm]) ?_)
    have := back (t' := tEmp) (rest := []) rfl rfl (h2.emp1.trim 1)
    rw [List.append_nil, s0] at this
    exact this.front
  have h : Hp S w0 w4 (its ++ [tW wb (WA.new l)] ++ [tSl gens 3 1 iv l1, tSl free 3 1 iv l2] ++ [tPool 149 pb2 m]) := by simpa using h
  have h := h.cutMid
  have h : Hp S w0 w4 (its ++ [tW wb (WA.new l), tPool 149 pb2 m]) := by simpa using h
  obtain ⟨O, h1, back⟩ := h.f2r (i := its.length + 0) (i' := its.length + 1) (j := j) (by omega) (by omega) (by omega) (by rw [g0]; rfl) (by rw [g0]; rfl) gj rfl rfl
  clear h
  obtain ⟨hm2, hmost⟩ := FI.fromM_ok hfm
  obtain ⟨q, hok0, ht0, hk0, h⟩ := W_open h1
  have hload := hload _ hfm
  dsimp only at hload
  have hur : Hp.Reads u.ro b3 1 u8v bs2 := ⟨fun {w O} h => hu2.rd h⟩
  refine nns ?_
  refine h.st (n := 1) 0 rfl (by simp) rfl fun w5 h => ?_
  refine ifF (by simp) ?_
  have h := h.selL [0, 1, 2, 3, 8, 5, 6, 7, 9] (by decide) (ts := ({ q with pb := pb2 } : WH).all wb ⟨l, m, fun _ => none, []⟩ tEmp ++ [u.ro]) rfl
  refine nns ?_
  refine h.ld (n := 1) (k := .p) (x := some ⟨pb2, 0, none⟩) 0 rfl rfl ?_
  refine FI.All_h h 4 (m := m) hm2.toOk rfl fun r2 w6 h => ?_
  have h := h.up (A := ({ q with pb := pb2 } : WH).all wb ⟨l, m, fun _ => none, []⟩ tEmp)
  have hr2 := h.len (s := r2) 8 rfl
  have hes200 : (m.allU m.gens.length).length ≤ 200 := by
    have h1 := PoolM.allU_len m m.gens.length
    have h2 := hm2.toOk.len200
    omega
  have hnd : (m.allU m.gens.length).Nodup := by
    rw [List.nodup_iff_pairwise_ne]
    refine List.Pairwise.imp (fun {x y} h e => ?_) (FI.allU_get m m.gens.length).2
    rw [e] at h; omega
  have hmem : ∀ e, e ∈ m.allU m.gens.length ↔ m.is e.1 e.2 = true := fun e => allU_iff hm2.toOk
  generalize m.allU m.gens.length = es at hload h hr2 hes200 hnd hmem ⊢
  have hkq : kinds ({ q with pb := pb2 } : WH).xs = l := hk0
  have ht1 : Tabs l (fun _ => none) (fun e => ((fun _ => none : Ent → Option PL) e).map setI) ({ q with pb := pb2 } : WH).tabs := ht0
  generalize ({ q with pb := pb2 } : WH) = q' at h hkq ht1
  refine ⟨fun b4 t62 mm w' => ∃ (k : Nat) (cur : List Int) (row : Ent → Option PL) (q : WH), t62 = k ∧ k ≤ es.length ∧ mm = es.length - k ∧ loadRows l (es.drop k) cur row = loadRows l es bs2 (fun _ => none) ∧ Tabs l row (fun e => (row e).map setI) q.tabs ∧ kinds q.xs = l ∧ (∀ e, (row e).isSome = true ↔ e ∈ es.take k) ∧ (∀ e p, row e = some p → R64 (flat p)) ∧
      Hp.Reads u.ro b4 1 u8v cur ∧ b4.len ≤ b4.cap ∧ Bytes cur ∧ cur.length ≤ bs.length ∧ Hp O w4 w' (q.all wb ⟨l, m, fun e => (row e).map setI, []⟩ tEmp ++ [tSl r2 43 2 ent es, u.ro]),
    ⟨es.length, 0, bs2, fun _ => none, q', rfl, by omega, rfl, rfl, ht1, hkq, by simp, by simp, hur, hcap2, hb2, by omega, h⟩, ?_⟩
  clear h ht1 hkq
  rintro b4 t62 mm w7 ⟨k, cur, row, q', rfl, hk, rfl, hrest, ht, hkq, hrow, hrng, hrd, hcap4, hbc, hcl, h⟩
  have bad : ∀ {w' : World} {ts : List Thing}, Hp O w4 w' ts → loadRows l es bs2 (fun _ => none) = none ∨ (∃ r, loadRows l es bs2 (fun _ => none) = some r ∧ r.2 ≠ []) → K none 64 w' := fun {w' ts} h hbad => by
    refine fin.2 64 w' ?_ ?_
    · rw [hload]
      rcases hbad with hbad | ⟨r, hr, hne⟩
      · rw [hbad]
      · rw [hr]; dsimp only; rw [if_neg hne]
    · have h2 := h.emp1.emp1.trim 2
      have := back (t' := tEmp) (u' := tEmp) (rest := []) rfl rfl rfl h2
      rw [List.append_nil, s0, s0] at this
      exact this.front
  have hcurl := h.lenU (u := u.ro) 9 rfl hrd
  have hkl : (kinds q'.xs).length = q'.xs.length := by simp [kinds]
  have h12 : q'.xs.length ≤ 12 := by rw [hkq] at hkl; omega
  have h4k : ∀ x ∈ l, x.2.length ≤ 4 := fun x hx => (hm.1 x hx).1
  have h4 : ∀ x ∈ q'.xs, x.2.2.length ≤ 4 := fun x hx => h4k (x.1, x.2.2) (by rw [← hkq]; exact List.mem_map.2 ⟨x, hx, rfl⟩)
  by_cases hlt : k < es.length
  · refine ifT (by simp; omega) ?_
    have hx : es[k]? = some es[k] := by simp [hlt]
    have hdr : es.drop k = es[k] :: es.drop (k + 1) := List.drop_eq_getElem_cons hlt
    have htk : es.take (k + 1) = es.take k ++ [es[k]] := List.take_succ_eq_append_getElem hlt
    have hout : es[k] ∉ es.take k := fun hm0 => by
      obtain ⟨j0, hj0⟩ := List.getElem?_of_mem hm0
      have hjl0 := (List.getElem?_eq_some_iff.1 hj0).1
      rw [List.getElem?_take] at hj0
      split at hj0
      · have := (List.getElem?_inj (i := j0) (j := k) (l := es) (by simp at hjl0; omega) hnd).1 (by rw [hj0, hx])
        simp at hjl0; omega
      · cases hj0
    generalize es[k] = e at hx hdr htk hout
    rw [hdr] at hrest
    refine h.ixr (s := r2) (l := es) (f := ent) (n := 2) (e := 43) 8 rfl (by omega) (by rw [Int.toNat_natCast]; exact hx) ent_len fun ad hc => ?_
    refine ldR0 (k := .i .i64) (x := e.1) (hc 0 (by omega)) rfl ?_
    refine ldR (k := .i .i64) (x := e.2) (hc 1 (by omega)) rfl ?_
    refine h.nw (c := [_, _]) fun xb w8 h => ?_
    have h := h.up (A := q'.all wb ⟨l, m, fun e => (row e).map setI, []⟩ tEmp)
    refine h.st0 8 rfl (by simp) rfl fun w9 h => ?_
    refine h.st (n := 1) 8 rfl (by simp) rfl fun w10 h => ?_
    have h : Hp O w4 w10 (q'.all wb ⟨l, m, fun e => (row e).map setI, []⟩ tEmp ++ [tBlk xb 43 [.int .i64 e.1, .int .i64 e.2], tSl r2 43 2 ent es, u.ro]) := h
    refine FP.Get_spec h 10 (u := u.ro) rfl hrd hbc (by omega) ?_
    have hgr := getU_range hbc
    have hrest0 := hrest
    rw [loadRows] at hrest
    generalize hgu : getU cur = gu at hgr hrest ⊢
    obtain ⟨set, sz⟩ := gu
    dsimp only at hgr hrest ⊢
    obtain ⟨s0', s1', z0, z1, z10, _⟩ := hgr
    refine ⟨fun w' => ¬ (sz = 0 ∨ set % 2 = 1 ∨ set / 2 ^ (l.length + 1) ≠ 0) ∧ w' = w10, ?_, ?_⟩
    · by_cases hz : sz = 0
      · refine ifT (by simp [hz]) (bad h (.inl ?_))
        rw [← hrest, if_pos (.inl hz)]
      refine ifF (by simpa using hz) ?_
      obtain ⟨sn, rfl⟩ : ∃ sn : Nat, set = sn := ⟨set.toNat, by omega⟩
      rw [low_bit (by omega)]
      by_cases hodd : sn % 2 = 1
      · refine ifT (by simp [hodd]) (bad h (.inl ?_))
        rw [← hrest, if_pos (.inr (.inl (by omega)))]
      refine ifF (by simp; omega) ?_
      have hkw : IntKind.i64.wrap ((s.len : Int) + 1) = ((l.length + 1 : Nat) : Int) := by rw [wr64 (by omega) (by omega)]; omega
      rw [hkw, Int.toNat_natCast, show min (l.length + 1) 64 = l.length + 1 by omega]
      refine ⟨by omega, ?_⟩
      have hfd : Int.fdiv (sn : Int) (2 ^ (l.length + 1)) = (sn : Int) / 2 ^ (l.length + 1) := Int.fdiv_eq_ediv_of_nonneg _ (by exact_mod_cast Nat.zero_le _)
      rw [hfd]
      by_cases hbig : (sn : Int) / 2 ^ (l.length + 1) = 0
      · refine ifF (by simp [hbig]) ⟨?_, rfl⟩
        rintro (h | h | h)
        · exact hz h
        · omega
        · exact h hbig
      · refine ifT (by simpa using hbig) (bad h (.inl ?_))
        rw [← hrest, if_pos (.inr (.inr hbig))]
    rintro w' ⟨hgood, rfl⟩
    rw [if_neg hgood] at hrest
    simp only [not_or, Decidable.not_not] at hgood
    obtain ⟨hz, hev, hbig⟩ := hgood
    have hset13 : set < 8192 := by
      obtain ⟨sn, rfl⟩ : ∃ sn : Nat, set = sn := ⟨set.toNat, by omega⟩
      have e : ((sn : Int) / 2 ^ (l.length + 1)) = ((sn / 2 ^ (l.length + 1) : Nat) : Int) := by simp
      rw [e] at hbig
      have : sn < 2 ^ (l.length + 1) := by
        rcases Nat.lt_or_ge sn (2 ^ (l.length + 1)) with h | h
        · exact h
        · have := Nat.div_pos h (Nat.two_pow_pos _); omega
      have := Nat.lt_of_lt_of_le this (Nat.pow_le_pow_right (n := 2) (by omega) (show l.length + 1 ≤ 13 by omega))
      omega
    refine Hp.cutv (s := b4) hrd hcurl u8v_len (by omega) (by omega) (by omega) (Int.le_refl _) (by omega) fun b5 hrd5 hl5 hc5 => ?_
    have e1 : (cur.take ((b4.len : Nat) : Int).toNat).drop sz.toNat = cur.drop sz.toNat := by rw [Int.toNat_natCast, List.take_of_length_le (by omega)]
    rw [e1] at hrd5
    have hcap5 : b5.len ≤ b5.cap := by rw [hl5, hc5]; omega
    have hkw : IntKind.i64.wrap ((s.len : Int) + 1) = ((q'.xs.length + 1 : Nat) : Int) := by rw [← hkl, hkq, wr64 (by omega) (by omega)]; omega
    rw [hkw, wr64 (n := set) (by omega) (by omega)]
    refine at_spec h 0 2 3 (cells := [_, _, _]) rfl rfl rfl h12 h4 s0' (by omega) (q := q'.xs.length) (Nat.le_refl _) ?_
    rw [hkq, ← hkl, hkq]
    have htot := atF_le h4k set l.length
    have h := (h.nil 2 1 iv).up (A := q'.all wb ⟨l, m, fun e => (row e).map setI, []⟩ tEmp)
    refine ⟨fun b6 values t96 m3 w' => ∃ (n : Nat) (cur2 vs : List Int), t96 = n ∧ n ≤ atF l set l.length ∧ m3 = atF l set l.length - n ∧ vs.length = n ∧ loadVals (atF l set l.length) (cur.drop sz.toNat) = (loadVals (atF l set l.length - n) cur2).map (fun r => (vs ++ r.1, r.2)) ∧ R64 vs ∧
        Hp.Reads u.ro b6 1 u8v cur2 ∧ b6.len ≤ b6.cap ∧ Bytes cur2 ∧ cur2.length ≤ bs.length ∧ Hp O w4 w' (q'.all wb ⟨l, m, fun e => (row e).map setI, []⟩ tEmp ++ [tSl values 2 1 iv vs, tBlk xb 43 [.int .i64 e.1, .int .i64 e.2], tSl r2 43 2 ent es, u.ro]),
      ⟨atF l set l.length, 0, cur.drop sz.toNat, [], rfl, by omega, rfl, rfl, by simp, (fun x hx => by cases hx), hrd5, hcap5, (fun x hx => hbc x (List.mem_of_mem_drop hx)), by rw [List.length_drop]; omega, h⟩, ?_⟩
    clear h
    rintro b6 values t96 m3 w11 ⟨n, cur2, vs, rfl, hn, rfl, hvl, hlv, hvr, hrd6, hcap6, hb6, hcl6, h⟩
    have hcur2l := h.lenU (u := u.ro) 11 rfl hrd6
    have hvll := h.len (s := values) 8 rfl
    by_cases hnlt : n < atF l set l.length
    · refine ifT (by simp; omega) ?_
      refine FP.GetInt_spec h 11 (u := u.ro) rfl hrd6 hb6 (by omega) ?_
      have hgr2 := getU_range hb6
      obtain ⟨s0'', s1'', y0, y1, y10, _⟩ := hgr2
      have hgi : getI cur2 = (zag (getU cur2).1, (getU cur2).2) := rfl
      have hrem : atF l set l.length - n = (atF l set l.length - (n + 1)) + 1 := by omega
      rw [hrem, loadVals] at hlv
      by_cases hz2 : (getI cur2).2 = 0
      · refine ifT (by simp [hz2]) (bad h (.inl ?_))
        rw [if_pos hz2] at hlv
        rw [← hrest, hlv]; rfl
      · refine ifF (by simpa using hz2) ?_
        rw [if_neg hz2] at hlv
        refine h.dr fun w12 h => ?_
        have hy : (getI cur2).2 = (getU cur2).2 := rfl
        refine Hp.cutv (s := b6) hrd6 hcur2l u8v_len (by omega) (by omega) (by omega) (Int.le_refl _) (by omega) fun b7 hrd7 hl7 hc7 => ?_
        have e2 : (cur2.take ((b6.len : Nat) : Int).toNat).drop (getI cur2).2.toNat = cur2.drop (getI cur2).2.toNat := by rw [Int.toNat_natCast, List.take_of_length_le (by omega)]
        rw [e2] at hrd7
        refine h.nwapp 8 ((getI cur2).1) (c := [_]) rfl iv_len FT.und34 q1 q3 q2 rfl rfl (by simp [iv, Value.oneCell']) (by rw [q4]; omega) (by omega) fun values2 w13 h _ _ => ?_
        refine ⟨atF l set l.length - (n + 1), by omega, n + 1, cur2.drop (getI cur2).2.toNat, vs ++ [(getI cur2).1], by rw [wr64 (by omega) (by omega)]; omega, by omega, rfl, by simp [hvl], ?_, ?_, hrd7, by rw [hl7, hc7]; omega, (fun x hx => hb6 x (List.mem_of_mem_drop hx)), by rw [List.length_drop]; omega, h⟩
        · rw [hlv, Option.map_map]
          congr 1
          funext r
          simp
        · intro x hx
          rcases List.mem_append.1 hx with hx | hx
          · exact hvr x hx
          · simp only [List.mem_singleton] at hx
            subst hx
            rw [hgi]
            exact zag_rng s0'' s1''
    · refine ifF (by simp; omega) ?_
      obtain rfl : n = atF l set l.length := by omega
      rw [Nat.sub_self, loadVals] at hlv
      have hlv : loadVals (atF l set l.length) (cur.drop sz.toNat) = some (vs, cur2) := by rw [hlv]; simp
      rw [hlv] at hrest
      dsimp only at hrest
      have hp1 := plOf_all hvl
      have hp2 := plOf_fit hvl
      have hp3 := plOf_set (v := vs) hlen.2 s0' (by omega) hbig
      generalize plOf l set vs = p at hrest hp1 hp2 hp3
      refine h.ld0 (k := .i .i64) (x := e.1) 9 rfl rfl ?_
      refine h.ld (n := 1) (k := .i .i64) (x := e.2) 9 rfl rfl ?_
      have hrn : row e = none := by
        cases hr : row e with
        | none => rfl
        | some p0 => exact absurd ((hrow e).1 (by rw [hr]; rfl)) hout
      have hfew : ∀ L : List Ent, L.Nodup → (∀ x ∈ L, (row x).isSome = true) → L.length < 200 := fun L hLn hL => by
        have := pool_few hm2.toOk (L := e :: L) (by
          rw [List.nodup_cons]
          exact ⟨fun hm0 => (by have := hL _ hm0; rw [hrn] at this; cases this), hLn⟩) (fun x hx => by
          rcases List.mem_cons.1 hx with rfl | hx
          · exact (hmem _).1 (List.mem_of_getElem? (by assumption))
          · exact (hmem x).1 (List.mem_of_mem_take ((hrow x).1 (hL x hx))))
        simp only [List.length_cons] at this
        omega
      have h := all_swap h
      rw [← hp1] at h
      rw [← hp3]
      refine enter_W h (row := row) (e := e) (p := p) (by rw [hkq]; exact ht) (by rw [hkq]; exact hm) hrn (by rw [hkq]; exact hp2) hfew Hp.rdSl fun T' w12 ht' h => ?_
      have h : Hp O w4 w12 (({ q' with T := T' } : WH).all wb ⟨l, m, upd1 (fun e => (row e).map setI) e (some (setI p)), []⟩ (tSl values 2 1 iv (flat p)) ++ (tEmp :: [tBlk xb 43 [.int .i64 e.1, .int .i64 e.2], tSl r2 43 2 ent es, u.ro])) := h
      have h := all_swap h
      have h : Hp O w4 w12 (({ q' with T := T' } : WH).all wb ⟨l, m, upd1 (fun e => (row e).map setI) e (some (setI p)), []⟩ tEmp ++ [tSl values 2 1 iv (flat p), tBlk xb 43 [.int .i64 e.1, .int .i64 e.2]] ++ [tSl r2 43 2 ent es, u.ro]) := h
      have h := h.cutMid
      have es' : upd1 (fun e => (row e).map setI) e (some (setI p)) = fun x => (upd1 row e (some p) x).map setI := (upd_sets row e (some p)).symm
      rw [es'] at h
      refine ⟨es.length - (k + 1), by omega, k + 1, cur2, upd1 row e (some p), { q' with T := T' }, by rw [wr64 (by omega) (by omega)]; omega, by omega, rfl, ?_, ?_, hkq, fun x => ?_, fun x p' hx' => ?_, hrd6, hcap6, hb6, hcl6, h⟩
      · rw [← hrest]
      · rw [← es']
        have := ht'
        rw [hkq] at this
        exact this
      · rw [htk]
        unfold upd1
        by_cases hxe : x = e
        · rw [if_pos hxe]; simp [hxe]
        · rw [if_neg hxe, hrow x]; simp [hxe]
      · unfold upd1 at hx'
        split at hx'
        · obtain rfl := Option.some.inj hx'
          rw [hp1]; exact hvr
        · exact hrng x p' hx'
  · refine ifF (by simp; omega) ?_
    have hk' : k = es.length := by omega
    subst hk'
    rw [List.drop_of_length_le (Nat.le_refl _), loadRows] at hrest
    rw [List.take_length] at hrow
    by_cases hcz : cur = []
    · refine ifF (by simp; rw [← hcurl, hcz]; rfl) ?_
      have hres : load l bs = (some ⟨l, m, row⟩, 0) := by rw [hload, ← hrest]; dsimp only; rw [if_pos hcz]
      have hokA : WA.Ok ⟨l, m, row⟩ := ⟨hm2, hmost, hm, (fun e => by
        have h1 := hrow e
        have h2 := hmem e
        show (row e).isSome = m.is e.1 e.2
        cases ha : (row e).isSome with
        | true => exact (h2.1 (h1.1 ha)).symm
        | false =>
          cases hb : m.is e.1 e.2 with
          | false => rfl
          | true => rw [h1.2 (h2.2 hb)] at ha; cases ha), hrng⟩
      refine fin.1 _ wb w7 hres ?_
      have h : Hp O w4 w7 (q'.all wb ⟨l, m, fun e => (row e).map setI, []⟩ tEmp ++ [tSl r2 43 2 ent es, u.ro]) := h
      have h2 := W_shut (u := tEmp) (m := ⟨l, m, fun e => (row e).map setI, []⟩) (q := q') (b := wb) (a := ⟨l, m, row⟩) (rest := []) hokA ht hkq rfl rfl (by rw [List.append_nil]; exact h.front)
      have h3 := h2.grow (Fr.refl _ _) (t := tEmp) (O := []) rfl (by simp) rfl
      have := back (t' := tW wb ⟨l, m, row⟩) (u' := tEmp) (rest := []) rfl rfl rfl h3
      rw [List.append_nil, s0, s0] at this
      have this : Hp S w0 w7 (its ++ [tW wb ⟨l, m, row⟩] ++ [tEmp]) := by simpa using this
      exact this.front
    · have hpos : 0 < cur.length := List.length_pos_iff.2 hcz
      refine ifT (by simp; omega) (bad h (.inr ⟨(row, cur), hrest.symm, hcz⟩))

end
end Go.Proofs.Ytcccjgmekakabaa.FW
end

section
set_option linter.unusedSimpArgs false
set_option linter.unusedVariables false
set_option maxRecDepth 100000
namespace Go.Proofs.Ytcccjgmekakabaa.FW
open Go.Proofs.Ytcccjgmekakabaa.F
open Go Go.Den Go.Proofs
open Go.Proofs.Ytcccjgmekakabaa.FI (PoolM tPool pk fromM)
open Go.Proofs.Ytcccjgmekakabaa.FT (TabM tTab Ent entV ent ent_len atI keyEnt iv iv_len)
open Go.Proofs.Ytcccjgmekakabaa.FP (putU zig zag encZ rowU tB putU_len encZ_len R64 RowOk Acc getU getI getU_range getU_put getI_put rowU_bytes putU_bytes encZ_bytes)
theorem snap_bytes (a : WA) : Bytes a.snap := by
  intro x hx
  unfold WA.snap at hx
  rcases List.mem_append.1 hx with hx | hx
  · rcases List.mem_append.1 hx with hx | hx
    · exact rowU_bytes _ x hx
    · exact rowU_bytes _ x hx
  · obtain ⟨e, _, hx⟩ := List.mem_flatMap.1 hx
    unfold snapRow at hx
    rcases List.mem_append.1 hx with hx | hx
    · exact putU_bytes (setI_nn _) x hx
    · exact encZ_bytes _ x hx

theorem snap_len {a : WA} (hok : a.Ok) (hfit : ∀ e p, a.row e = some p → p.fit a.ks) : a.snap.length ≤ 1000000 := by
  obtain ⟨g1, g2, g3, g4⟩ := stGens_rng hok.pok
  have h1 := rowU_len a.pool.stGens
  have h2 := rowU_len a.pool.free
  have hal : a.all.length ≤ 200 := by
    have h1 := PoolM.allU_len a.pool a.pool.gens.length
    have h2 := hok.pok.len200
    show (a.pool.allU a.pool.gens.length).length ≤ 200
    omega
  have key : ∀ L : List Ent, (∀ e ∈ L, e ∈ a.all) → (L.flatMap fun e => snapRow ((a.row e).getD [])).length ≤ 490 * L.length := by
    intro L
    induction L with
    | nil => simp
    | cons e L ih =>
      intro hL
      obtain ⟨p, hp⟩ := all_lives hok (hL e (by simp))
      have e1 := putU_len (setI p)
      have e2 := encZ_len (flat p)
      have e3 := (hfit _ p hp).all
      have e4 := atF_le hok.four (setI p) a.ks.length
      have e5 := hok.len.2
      have := ih (fun x hx => hL x (by simp [hx]))
      rw [List.flatMap_cons, List.length_append, hp]
      show (putU (setI p) ++ encZ (flat p)).length + _ ≤ _
      rw [List.length_append, List.length_cons]
      omega
  have := key a.all (fun e he => he)
  unfold WA.snap
  rw [List.length_append, List.length_append]
  omega

theorem spawn_ks (a : WA) (ps : List Part) : (a.spawn ps).1.ks = a.ks := by
  unfold WA.spawn
  split
  · rfl
  · split <;> rfl

theorem does_ks (a : WA) (A : List Ent) (d : Deed) : (a.does A d).1.ks = a.ks := by
  unfold WA.does
  split
  · exact spawn_ks a _
  · dsimp only
    split
    · unfold WA.despawn; split <;> rfl
    · split
      · unfold WA.add; repeat' split
        all_goals rfl
      · split
        · unfold WA.remove; repeat' split
          all_goals rfl
        · unfold WA.set; repeat' split
          all_goals rfl

theorem does_len (a : WA) (A : List Ent) (d : Deed) : (a.does A d).2.1.length ≤ A.length + 1 := by
  unfold WA.does
  split
  · dsimp only
    split <;> simp
  · dsimp only; omega

def Deed.Ok (x : Deed) : Prop := (-9223372036854775808 ≤ x.1 ∧ x.1 ≤ 9223372036854775807) ∧ (-9223372036854775808 ≤ x.2.1 ∧ x.2.1 ≤ 9223372036854775807) ∧ (-9223372036854775808 ≤ x.2.2.1 ∧ x.2.2.1 ≤ 9223372036854775807)

theorem usual_sz : ∀ x ∈ usualK, x.1.size ≤ 1000000000000 ∧ ∀ y ∈ x.2, y.size ≤ 1000000000000 := fun x hx => by
  simp only [usualK, List.mem_cons, List.not_mem_nil, or_false] at hx
  rcases hx with rfl | rfl | rfl | rfl
  · exact ⟨by decide, by decide⟩
  · exact ⟨by decide, by decide⟩
  · exact ⟨by decide, by decide⟩
  · exact ⟨by decide, by decide⟩

section
variable {S : List Nat} {w0 w : World} {its : List Thing}
theorem grown_spec (h : Hp S w0 w its) (i : Nat) {deeds : Sl} {xs : List Deed} {u : Thing} (hi : its[i]? = some u) (hu : Hp.Reads u deeds 4 ddv xs) (hr : ∀ x ∈ xs, Deed.Ok x) {K : Option Addr → Sl → World → Prop}
    (hK : ∀ b all a A w', a.ks = usualK → A.length ≤ 400 → Hp S w0 w' (its ++ [tW b a, tSl all 43 2 ent A]) → K (some ⟨b, 0, none⟩) all w') : c28 deeds w K := by
  refine c28_of ?_
  unfold f28
  have hil := (List.getElem?_eq_some_iff.1 hi).1
  have hdl := h.lenU i (by rw [hi]; rfl) hu
  have g0 : ∀ {l : List Thing} (k : Nat), (its ++ l)[its.length + k]? = l[k]? := fun {l} k => by rw [List.getElem?_append_right (by omega)]; simp
  have s0 : ∀ {l : List Thing} (k : Nat) (t : Thing), (its ++ l).set (its.length + k) t = its ++ l.set k t := fun {l} k t => by rw [List.set_append_right _ _ (by omega)]; simp
  refine usual_spec h fun sk w2 h => ?_
  refine New_W h (its.length + 0) (s := sk) (l := usualK) (by rw [g0]; rfl) (by decide) usual_sz (fun _ b w3 h => ?_) (fun hno => absurd usual_may hno)
  refine ifF (by simp) ?_
  have h := h.cutMid.nil 43 2 ent
  have h : Hp S w0 w3 (its ++ [tW b (WA.new usualK), tSl ⟨none, 0, 0⟩ 43 2 ent []]) := by simpa using h
  refine ⟨fun all i mm w' => ∃ (k : Nat) (a : WA) (A : List Ent), i = k ∧ k ≤ xs.length ∧ k ≤ 400 ∧ mm = xs.length - k ∧ a.ks = usualK ∧ A.length ≤ k ∧ Hp S w0 w' (its ++ [tW b a, tSl all 43 2 ent A]), ⟨xs.length, 0, WA.new usualK, [], rfl, by omega, by omega, rfl, rfl, by simp, h⟩, ?_⟩
  clear h
  rintro all i0 mm w4 ⟨k, a, A, rfl, hk1, hk2, rfl, hks, hAk, h⟩
  by_cases hlt : k < xs.length ∧ k < 400
  · refine ifT (by simp; omega) ?_
    have hx : xs[k]? = some xs[k] := by simp [hlt.1]
    have hxr := hr xs[k] (List.getElem_mem hlt.1)
    generalize xs[k] = d at hx hxr
    obtain ⟨O, hO⟩ := h.see (i := i) (by rw [List.getElem?_append_left hil]; exact hi)
    obtain ⟨o, hR⟩ := hu.rd hO
    refine SlR.ix ddv_len hR (by omega) (x := d) (by rw [Int.toNat_natCast]; exact hx) fun ad hc => ?_
    refine ldR0 (k := .i .i64) (x := d.1) (hc 0 (by omega)) rfl ?_
    refine ldR (k := .i .i64) (x := d.2.1) (hc 1 (by omega)) rfl ?_
    refine ldR (k := .i .i64) (x := d.2.2.1) (hc 2 (by omega)) rfl ?_
    refine ldR (k := .i .i64) (x := d.2.2.2) (hc 3 (by omega)) rfl ?_
    refine does_W h (its.length + 0) (its.length + 1) (by omega) (d := d) (by rw [g0]; rfl) (by rw [g0]; rfl) (by omega) hxr.1.1 hxr.2.1.1 hxr.2.2.1 fun all2 w5 h => ?_
    rw [s0, s0] at h
    have := does_len a A d
    exact ⟨xs.length - (k + 1), by omega, k + 1, (a.does A d).1, (a.does A d).2.1, by rw [wr64 (by omega) (by omega)]; omega, by omega, by omega, rfl, by rw [does_ks]; exact hks, by omega, h⟩
  · refine ifF (by simp; omega) ?_
    exact hK b all a A w4 hks (by omega) h

theorem nes_self {x y : Operand} {a b : Int} {w : World} {K : Bool → Prop} (hK : K false) : RunRo .b Try.prog (binSem .neq 43 x y (.agg #[.int .i64 a, .int .i64 b]) (.agg #[.int .i64 a, .int .i64 b])) w K :=
  FT.neEnt (by
    have : (!((a == a) && (b == b))) = false := by simp
    rw [this]; exact hK)

set_option maxHeartbeats 4000000 in
theorem goes_spec {deeds more : Sl} {xs ys : List Deed} {oa ob : List Nat} {K : Bool → World → Prop} (has : SlR w deeds 4 ddv xs oa) (hbs : SlR w more 4 ddv ys ob) (hrx : ∀ x ∈ xs, Deed.Ok x) (hry : ∀ x ∈ ys, Deed.Ok x)
    (hK : ∀ w', Fr [] w w' → K true w') : c6 deeds more w K := by
  refine c6_of ?_
  unfold f6
  obtain ⟨inf2, i1, i2, i3, i4⟩ := FT.inf32
  have h := Hp.begin_ w
  have h := (h.addRo (t := tRd deeds 4 ddv xs) has (by simp)).addRo (t := tRd more 4 ddv ys) hbs (by simp)
  have hyl := h.lenR (s := more) (n := 4) (f := ddv) (l := ys) 1 rfl
  refine shown_spec h fun w1 h => ?_
  refine grown_spec h 0 (u := (tRd deeds 4 ddv xs).ro) (xs := xs) rfl ⟨fun {w O} h => ⟨O, h⟩⟩ hrx fun b1 all a A w2 hks hA4 h => ?_
  refine ifF (by simp) ?_
  have h : Hp [] w w2 ([(tRd deeds 4 ddv xs).ro] ++ [(tRd more 4 ddv ys).ro, tW b1 a, tSl all 43 2 ent A]) := h
  have h := h.comm.front
  obtain ⟨hok, hfit⟩ := tW_ok h 1 rfl
  have hsb := snap_bytes a
  have hsl := snap_len hok hfit
  have hstr : strL (strOf a.snap) = a.snap := strL_of hsb
  refine Snapshot_W h 1 rfl fun s w3 h => ?_
  refine usual_spec h fun sk w4 h => ?_
  have hsll := h.len (s := s) 3 rfl
  refine Load_W h 4 3 (s := sk) (l := usualK) (u := tB s a.snap) rfl (by decide) usual_sz rfl Hp.rdSl hsb (by omega) (h.cap 3 rfl) fun hf => ?_
  have hload : load usualK a.snap = (some a, 0) := by
    obtain ⟨F1, F2⟩ := hf usual_may
    have r1 : ∀ l, Acc a.snap 200 l → getR a.snap 200 = (l, ((rowU l).length : Int)) := fun l hl => by
      have := F1.2.2 l hl
      exact Prod.ext this.1 this.2
    rw [← hks]
    refine load_snap hok hfit r1 fun l hl => ?_
    obtain ⟨g1, g2, g3, g4⟩ := stGens_rng hok.pok
    have h1 := r1 a.pool.stGens ⟨by omega, by omega, by omega, g1, rowU a.pool.free ++ a.all.flatMap (fun e => snapRow ((a.row e).getD [])), by unfold WA.snap; rw [List.append_assoc]⟩
    have hn : nums a.snap = some (a.pool.stGens, a.snap.drop (rowU a.pool.stGens).length) := by
      unfold nums
      rw [h1]
      dsimp only
      rw [if_neg, Int.toNat_natCast]
      rintro (h | h)
      · have : 0 < (rowU a.pool.stGens).length := by
          unfold rowU
          rw [List.length_append]
          have := FP.putU_pos a.pool.stGens.length
          omega
        omega
      · refine h fun x hx => ?_
        unfold PoolM.stGens at hx
        obtain ⟨i, hi, rfl⟩ := List.mem_mapIdx.1 hx
        have := hok.pok.gens _ (List.getElem_mem hi)
        split <;> omega
    have := (F2 _ hn).2.2 l hl
    exact Prod.ext this.1 this.2
  refine ⟨fun a' b2 w5 hl h => ?_, fun e w5 hl h => by rw [hload] at hl; cases hl⟩
  rw [hload] at hl
  obtain rfl := Option.some.inj (Prod.mk.inj hl).1
  clear hl hf
  refine Clone_W h 1 rfl fun b3 w6 h => ?_
  have h : Hp [] w w6 [(tRd more 4 ddv ys).ro, tW b1 a, tSl all 43 2 ent A, tB s a.snap, tKinds sk usualK, tW b2 a, tW b3 a] := h
  refine ⟨fun w' => Hp [] w w' [(tRd more 4 ddv ys).ro, tW b1 a, tSl all 43 2 ent A, tW b2 a, tW b3 a], ?_, ?_⟩
  · refine h.dr fun w7 h => ?_
    refine ifF (by simp) (ifF (by simp) (ifF (by simp) ?_))
    refine h.rdb 3 (u := tB s a.snap) rfl Hp.rdSl (strOf a.snap) hstr ?_
    refine Snapshot_W h 5 rfl fun s2 w8 h => ?_
    refine ⟨h.bat 3 (u := tB s a.snap) rfl Hp.rdSl (strOf a.snap) hstr, ?_⟩
    refine h.rdb 7 (u := tB s2 a.snap) rfl Hp.rdSl (strOf a.snap) hstr ?_
    refine ifF (by simp) ?_
    refine h.rdb 3 (u := tB s a.snap) rfl Hp.rdSl (strOf a.snap) hstr ?_
    refine Snapshot_W h 6 rfl fun s3 w9 h => ?_
    refine ⟨h.bat 3 (u := tB s a.snap) rfl Hp.rdSl (strOf a.snap) hstr, ?_⟩
    refine h.rdb 8 (u := tB s3 a.snap) rfl Hp.rdSl (strOf a.snap) hstr ?_
    refine ifF (by simp) ?_
    exact h.selL [0, 1, 2, 5, 6] (by decide) rfl
  clear h
  rintro w7 h
  refine h.nwS (l := ([] : List Ent)) (f := ent) (n := 2) (c := []) rfl rfl ent_len fun q1 w8 h => ?_
  have hal := h.len (s := all) 2 rfl
  refine h.appS 5 2 (s := ⟨some ⟨q1, 0, none⟩, 0, 0⟩) (s2 := all) (u := tSl all 43 2 ent A) rfl rfl Hp.rdSl ent_len und35 i1 i3 i2 rfl (by simp [ent, Value.oneCell']) (by rw [i4]; show (0 + all.len) * 16 ≤ _; omega) (by show 0 + all.len ≤ _; omega) fun two w9 h _ _ => ?_
  refine h.nwS (l := ([] : List Ent)) (f := ent) (n := 2) (c := []) rfl rfl ent_len fun q2 w10 h => ?_
  refine h.appS 6 2 (s := ⟨some ⟨q2, 0, none⟩, 0, 0⟩) (s2 := all) (u := tSl all 43 2 ent A) rfl rfl Hp.rdSl ent_len und35 i1 i3 i2 rfl (by simp [ent, Value.oneCell']) (by rw [i4]; show (0 + all.len) * 16 ≤ _; omega) (by show 0 + all.len ≤ _; omega) fun three w11 h _ _ => ?_
  have h : Hp [] w w11 [(tRd more 4 ddv ys).ro, tW b1 a, tSl all 43 2 ent A, tW b2 a, tW b3 a, tSl two 43 2 ent A, tSl three 43 2 ent A] := h
  refine ⟨fun one two three i mm w' => ∃ (k : Nat) (a : WA) (A : List Ent), i = k ∧ k ≤ ys.length ∧ k ≤ 200 ∧ mm = ys.length - k ∧ A.length ≤ 400 + k ∧ Hp [] w w' [(tRd more 4 ddv ys).ro, tW b1 a, tSl one 43 2 ent A, tW b2 a, tW b3 a, tSl two 43 2 ent A, tSl three 43 2 ent A], ⟨ys.length, 0, a, A, rfl, by omega, by omega, rfl, by omega, h⟩, ?_⟩
  clear h hok hfit hsb hsl hstr hload hks hA4 hal hsll
  rintro one two three i0 mm w12 ⟨k, a, A, rfl, hk1, hk2, rfl, hAk, h⟩
  by_cases hlt : k < ys.length ∧ k < 200
  · refine ifT (by simp; omega) ?_
    have hx : ys[k]? = some ys[k] := by simp [hlt.1]
    have hxr := hry ys[k] (List.getElem_mem hlt.1)
    generalize ys[k] = d at hx hxr
    have hdl := does_len a A d
    have rdd : ∀ {w' : World} {l : List Thing} {K : Int → Int → Int → Int → Prop}, Hp [] w w' ((tRd more 4 ddv ys).ro :: l) → K d.1 d.2.1 d.2.2.1 d.2.2.2 →
        Ix more.a more.len ((k : Nat) : Int) 4 fun (a : Addr) => Ld (.i .i64) w' a fun (x1 : Int) => Ld (.i .i64) w' (a.add 1) fun (x2 : Int) => Ld (.i .i64) w' (a.add 2) fun (x3 : Int) => Ld (.i .i64) w' (a.add 3) fun (x4 : Int) => K x1 x2 x3 x4 := fun {w' l K} h hK => by
      refine h.ixrR (s := more) (l := ys) (f := ddv) (n := 4) 0 rfl (by omega) (by rw [Int.toNat_natCast]; exact hx) ddv_len fun ad hc => ?_
      refine ldR0 (k := .i .i64) (x := d.1) (hc 0 (by omega)) rfl ?_
      refine ldR (k := .i .i64) (x := d.2.1) (hc 1 (by omega)) rfl ?_
      refine ldR (k := .i .i64) (x := d.2.2.1) (hc 2 (by omega)) rfl ?_
      exact ldR (k := .i .i64) (x := d.2.2.2) (hc 3 (by omega)) rfl hK
    refine rdd h ?_
    refine does_W h 1 2 (by decide) (d := d) rfl rfl (by omega) hxr.1.1 hxr.2.1.1 hxr.2.2.1 fun one2 w13 h => ?_
    simp only [List.set_cons_zero, List.set_cons_succ] at h
    refine rdd h ?_
    refine does_W h 3 5 (by decide) (a := a) (A := A) (d := d) rfl rfl (by omega) hxr.1.1 hxr.2.1.1 hxr.2.2.1 fun two2 w14 h => ?_
    simp only [List.set_cons_zero, List.set_cons_succ] at h
    refine rdd h ?_
    refine does_W h 4 6 (by decide) (a := a) (A := A) (d := d) rfl rfl (by omega) hxr.1.1 hxr.2.1.1 hxr.2.2.1 fun three2 w15 h => ?_
    simp only [List.set_cons_zero, List.set_cons_succ] at h
    have hl1 := h.len (s := one2) 2 rfl
    have hl2 := h.len (s := two2) 5 rfl
    have hl3 := h.len (s := three2) 6 rfl
    generalize a.does A d = r at hdl hl1 hl2 hl3 h ⊢
    obtain ⟨a', A', err⟩ := r
    dsimp only at hdl hl1 hl2 hl3 h ⊢
    refine ifF ?_ ?_
    · simp; omega
    refine h.dr fun w16 h => ?_
    have fin : ∃ m2 : Nat, m2 < ys.length - k ∧ ∃ (k' : Nat) (a : WA) (A : List Ent), IntKind.i64.wrap ((k : Int) + 1) = k' ∧ k' ≤ ys.length ∧ k' ≤ 200 ∧ m2 = ys.length - k' ∧ A.length ≤ 400 + k' ∧ Hp [] w w16 [(tRd more 4 ddv ys).ro, tW b1 a, tSl one2 43 2 ent A, tW b2 a, tW b3 a, tSl two2 43 2 ent A, tSl three2 43 2 ent A] :=
      ⟨ys.length - (k + 1), by omega, k + 1, a', A', by rw [wr64 (by omega) (by omega)]; omega, by omega, by omega, rfl, by omega, h⟩
    by_cases hpos : one2.len > 0
    · refine ifT (by simp; omega) ?_
      have hi1 : IntKind.i64.wrap ((one2.len : Int) - 1) = ((A'.length - 1 : Nat) : Int) := by rw [wr64 (by omega) (by omega)]; omega
      have hi2 : IntKind.i64.wrap ((two2.len : Int) - 1) = ((A'.length - 1 : Nat) : Int) := by rw [wr64 (by omega) (by omega)]; omega
      have hi3 : IntKind.i64.wrap ((three2.len : Int) - 1) = ((A'.length - 1 : Nat) : Int) := by rw [wr64 (by omega) (by omega)]; omega
      rw [hi1, hi2, hi3]
      have hy : A'[A'.length - 1]? = some (A'[A'.length - 1]'(by omega)) := List.getElem?_eq_getElem _
      generalize A'[A'.length - 1]'(by omega) = e at hy
      refine h.ixr (s := one2) (l := A') (f := ent) (n := 2) (e := 43) 2 rfl (by omega) (by rw [Int.toNat_natCast]; exact hy) ent_len fun ad hc => ?_
      refine ldR0 (k := .i .i64) (x := e.1) (hc 0 (by omega)) rfl ?_
      refine ldR (k := .i .i64) (x := e.2) (hc 1 (by omega)) rfl ?_
      refine h.ixr (s := two2) (l := A') (f := ent) (n := 2) (e := 43) 5 rfl (by omega) (by rw [Int.toNat_natCast]; exact hy) ent_len fun ad hc => ?_
      refine ldR0 (k := .i .i64) (x := e.1) (hc 0 (by omega)) rfl ?_
      refine ldR (k := .i .i64) (x := e.2) (hc 1 (by omega)) rfl ?_
      refine nes_self (ifF (by simp) ?_)
      refine h.ixr (s := one2) (l := A') (f := ent) (n := 2) (e := 43) 2 rfl (by omega) (by rw [Int.toNat_natCast]; exact hy) ent_len fun ad hc => ?_
      refine ldR0 (k := .i .i64) (x := e.1) (hc 0 (by omega)) rfl ?_
      refine ldR (k := .i .i64) (x := e.2) (hc 1 (by omega)) rfl ?_
      refine h.ixr (s := three2) (l := A') (f := ent) (n := 2) (e := 43) 6 rfl (by omega) (by rw [Int.toNat_natCast]; exact hy) ent_len fun ad hc => ?_
      refine ldR0 (k := .i .i64) (x := e.1) (hc 0 (by omega)) rfl ?_
      refine ldR (k := .i .i64) (x := e.2) (hc 1 (by omega)) rfl ?_
      exact nes_self (ifF (by simp) fin)
    · exact ifF (by simp; omega) fin
  · refine ifF (by simp; omega) ?_
    have hstr : strL (strOf a.snap) = a.snap := strL_of (snap_bytes a)
    refine h.dr fun w13 h => ?_
    refine Snapshot_W h 1 rfl fun s1 w14 h => ?_
    refine h.rdb 7 (u := tB s1 a.snap) rfl Hp.rdSl (strOf a.snap) hstr ?_
    refine Snapshot_W h 3 rfl fun s2 w15 h => ?_
    refine ⟨h.bat 7 (u := tB s1 a.snap) rfl Hp.rdSl (strOf a.snap) hstr, ?_⟩
    refine h.rdb 8 (u := tB s2 a.snap) rfl Hp.rdSl (strOf a.snap) hstr ?_
    refine ifT (by simp) ?_
    refine Snapshot_W h 1 rfl fun s3 w16 h => ?_
    refine h.rdb 9 (u := tB s3 a.snap) rfl Hp.rdSl (strOf a.snap) hstr ?_
    refine Snapshot_W h 4 rfl fun s4 w17 h => ?_
    refine ⟨h.bat 9 (u := tB s3 a.snap) rfl Hp.rdSl (strOf a.snap) hstr, ?_⟩
    refine h.rdb 10 (u := tB s4 a.snap) rfl Hp.rdSl (strOf a.snap) hstr ?_
    have := hK w17 h.1
    have e : ((strOf a.snap).toList == (strOf a.snap).toList) = true := by simp
    rw [e]; exact this

end
end Go.Proofs.Ytcccjgmekakabaa.FW
end

section
set_option linter.unusedSimpArgs false
set_option linter.unusedVariables false
set_option maxRecDepth 100000
namespace Go.Proofs.Ytcccjgmekakabaa.FW
open Go.Proofs.Ytcccjgmekakabaa.F
open Go Go.Den Go.Proofs Go.RowKit
theorem und47 : Try.prog.underlying 47 = some (.struct (Try.prog.fieldsOf 47)) := by kernel_rfl

theorem und29 : Try.prog.underlying 29 = some (.slice 47) := by kernel_rfl

theorem und2 : Try.prog.underlying 2 = some (.int .i64) := by kernel_rfl

theorem cel3 : Try.prog.cellsOf 3 = 1 := by kernel_rfl

theorem cel2 : Try.prog.cellsOf 2 = 1 := by kernel_rfl

theorem cel47 : Try.prog.cellsOf 47 = 4 := by kernel_rfl

def DeedOk (x : Deed) : Prop := (-9223372036854775808 ≤ x.1 ∧ x.1 ≤ 9223372036854775807) ∧ (-9223372036854775808 ≤ x.2.1 ∧ x.2.1 ≤ 9223372036854775807) ∧ (-9223372036854775808 ≤ x.2.2.1 ∧ x.2.2.1 ≤ 9223372036854775807)

theorem dec_deed {w : World} {B m : Nat} {ci : List Value} (hl : ci.length = 4) (h : RdV Try.prog w B m 47 ci) : ∃ x : Deed, ci = ddv x ∧ DeedOk x := by
  obtain ⟨_, q, hf⟩ := rd_struct und47 h
  match ci, hl with
  | [c0, c1, c2, c3], _ =>
    obtain ⟨m0, e0, k0⟩ := rd_int und3 (rd_field hf 0 (ft := 3) (off := 0) (sz := 1) (by kernel_rfl) cel3)
    obtain ⟨m1, e1, k1⟩ := rd_int und3 (rd_field hf 1 (ft := 3) (off := 1) (sz := 1) (by kernel_rfl) cel3)
    obtain ⟨m2, e2, k2⟩ := rd_int und3 (rd_field hf 2 (ft := 3) (off := 2) (sz := 1) (by kernel_rfl) cel3)
    obtain ⟨m3, e3, _⟩ := rd_int und2 (rd_field hf 3 (ft := 2) (off := 3) (sz := 1) (by kernel_rfl) cel2)
    simp only [List.drop_zero, List.drop_succ_cons, List.take_succ_cons, List.take_zero, List.cons.injEq, and_true] at e0 e1 e2 e3
    subst e0 e1 e2 e3
    have g0 : IntKind.i64.min ≤ m0 ∧ m0 ≤ IntKind.i64.max := by simpa [Lit.wf] using k0
    have g1 : IntKind.i64.min ≤ m1 ∧ m1 ≤ IntKind.i64.max := by simpa [Lit.wf] using k1
    have g2 : IntKind.i64.min ≤ m2 ∧ m2 ≤ IntKind.i64.max := by simpa [Lit.wf] using k2
    exact ⟨(m0, m1, m2, m3), rfl, g0, g1, g2⟩

theorem dec_deeds {w : World} {B n : Nat} {a : Option Addr} {len cap : Nat} (h : RdV Try.prog w B n 29 [.slice a len cap]) : ∃ (l : List Deed) (o : List Nat), SlR w ⟨a, len, cap⟩ 4 ddv l o ∧ ∀ x ∈ l, DeedOk x := by
  obtain ⟨s, l, o, h1, h2, h3, _⟩ := rd_slice (f := ddv) (G := DeedOk) und29 cel47 (by omega) (fun m ci hl hr => dec_deed hl hr) h
  simp only [List.cons.injEq, Value.slice.injEq, and_true] at h1
  obtain ⟨rfl, rfl, rfl⟩ := h1
  exact ⟨l, o, h2, h3⟩

end Go.Proofs.Ytcccjgmekakabaa.FW
end

section
set_option linter.unusedSimpArgs false
set_option linter.unusedVariables false
set_option maxRecDepth 100000
namespace Go.Proofs.Ytcccjgmekakabaa.FW
open Go.Proofs.Ytcccjgmekakabaa.F
open Go Go.Den Go.Proofs Go.RowKit
theorem goes_call {w : World} {B n B' n' : Nat} {a a' : Option Addr} {len cap len' cap' : Nat} (h : RdV Try.prog w B n 29 [.slice a len cap]) (h' : RdV Try.prog w B' n' 29 [.slice a' len' cap']) :
    Calls Try.prog 6 #[.slice a len cap, .slice a' len' cap'] w fun e w' => e = .returned (.bool true) ∧ Below w.heap.size w w' := by
  obtain ⟨l, o, h2, h3⟩ := dec_deeds h
  obtain ⟨l', o', h2', h3'⟩ := dec_deeds h'
  exact calls_true (goes_spec (deeds := ⟨a, len, cap⟩) (more := ⟨a', len', cap'⟩) h2 h2' (fun x hx => h3 x hx) (fun x hx => h3' x hx) fun w' hf => ⟨rfl, hf⟩)

end Go.Proofs.Ytcccjgmekakabaa.FW
end
