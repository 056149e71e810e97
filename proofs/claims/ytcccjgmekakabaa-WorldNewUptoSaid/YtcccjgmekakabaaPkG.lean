/-
  Part 7 of the proof: WorldNew of layer 6 is true of the given program for every input that its guards let in (of bulk at most 1048576).
-/
import Derived.Test.YtcccjgmekakabaaPkF
section
set_option linter.unusedSimpArgs false
set_option linter.unusedVariables false
set_option maxRecDepth 100000
namespace Go.Proofs.Ytcccjgmekakabaa.FW
open Go.Proofs.Ytcccjgmekakabaa.F
open Go Go.Den Go.Proofs
open Go.Proofs.Ytcccjgmekakabaa.FI (PoolM tPool)
open Go.Proofs.Ytcccjgmekakabaa.FT (TabM tTab Ent entV ent ent_len atI keyEnt iv iv_len)
/-- The document's world: kinds, a pool, rows. -/
structure RH where
  K : Sl
  p : Nat
  L : Sl

abbrev RH.cells (q : RH) : List Value := [.slice q.K.a q.K.len q.K.cap, .pointer (some ⟨q.p, 0, none⟩), .slice q.L.a q.L.len q.L.cap]

def WA.fits (a : WA) : Prop := a.Ok ∧ ∀ e p, a.row e = some p → p.fit a.ks

def tRW (b : Nat) (a : WA) : Thing := tEx fun q : RH => tAnd a.fits (tStar (tBlk b 139 q.cells) (tStar (tKinds q.K a.ks) (tStar (tPool 176 q.p a.pool) (tRows q.L a.rows))))

theorem word_no {k : Nat} {c : Int} (hc : ¬ chrOk k c) : (cond (!(cond (cond (decide (c ≥ 97)) (decide (c ≤ 122)) false) true (cond (decide (c ≥ 65)) (decide (c ≤ 90)) false))) (cond (((k : Nat) : Int) == 0) true (!(cond (cond (decide (c ≥ 48)) (decide (c ≤ 57)) false) true (c == 95)))) false) = true := by
  unfold chrOk at hc
  have h1 : ¬ (c ≥ 97 ∧ c ≤ 122) := fun h => hc (.inl (.inl h))
  have h2 : ¬ (c ≥ 65 ∧ c ≤ 90) := fun h => hc (.inl (.inr h))
  have e1 : (cond (decide (c ≥ 97)) (decide (c ≤ 122)) false) = false := by by_cases g : c ≥ 97 <;> simp [g] <;> omega
  have e2 : (cond (decide (c ≥ 65)) (decide (c ≤ 90)) false) = false := by by_cases g : c ≥ 65 <;> simp [g] <;> omega
  rw [e1, e2]
  by_cases hk0 : k = 0
  · simp [hk0]
  · have h3 : ¬ (c = 95 ∨ (48 ≤ c ∧ c ≤ 57)) := fun h => hc (.inr ⟨hk0, h⟩)
    have : (((k : Nat) : Int) == 0) = false := by simpa using hk0
    have h4 : (c == 95) = false := by simp; omega
    have e3 : (cond (decide (c ≥ 48)) (decide (c ≤ 57)) false) = false := by by_cases g : c ≥ 48 <;> simp [g] <;> omega
    simp [this, h4, e3]

theorem word_yes {k : Nat} {c : Int} (hc : chrOk k c) : ¬ (cond (!(cond (cond (decide (c ≥ 97)) (decide (c ≤ 122)) false) true (cond (decide (c ≥ 65)) (decide (c ≤ 90)) false))) (cond (((k : Nat) : Int) == 0) true (!(cond (cond (decide (c ≥ 48)) (decide (c ≤ 57)) false) true (c == 95)))) false) = true := by
  unfold chrOk at hc
  by_cases h1 : c ≥ 97 ∧ c ≤ 122
  · simp [h1.1, h1.2]
  · by_cases h2 : c ≥ 65 ∧ c ≤ 90
    · simp [h2.1, h2.2]
    · obtain ⟨hk0, hc⟩ : k ≠ 0 ∧ (c = 95 ∨ (48 ≤ c ∧ c ≤ 57)) := by omega
      have : (((k : Nat) : Int) == 0) = false := by simpa using hk0
      rcases hc with rfl | ⟨h3, h4⟩
      · simp [this]
      · simp [this, h3, h4]

theorem Rword_spec {s : ByteArray} {w : World} {K : Bool → World → Prop} (hs : s.size ≤ 1000000000000) (hK : K (decide (wordOk (strL s))) w) : c123 s w K := by
  refine c123_of ?_
  unfold f123
  have hsl := strL_len s
  refine ⟨fun t m w' => ∃ k : Nat, t = k ∧ k ≤ s.size ∧ m = s.size - k ∧ (∀ i, (hi : i < (strL s).length) → i < k → chrOk i (strL s)[i]) ∧ w' = w, ⟨s.size, 0, rfl, by omega, rfl, fun i _ h => by omega, rfl⟩, ?_⟩
  rintro t m w2 ⟨k, rfl, hk, rfl, hall, rfl⟩
  by_cases hlt : k < s.size
  · refine ifT (by simp; omega) ?_
    have hkl : k < (strL s).length := by omega
    have hb : s[((k : Nat) : Int).toNat]? = some (s[k]'hlt) := by rw [Int.toNat_natCast]; exact getElem?_pos s k hlt
    have hbe : (((s[k]'hlt).toNat : Nat) : Int) = (strL s)[k] := by simp [strL]; rfl
    refine ⟨by omega, s[k]'hlt, hb, ?_⟩
    rw [hbe]
    · by_cases hc : chrOk k (strL s)[k]
      · refine ifF (word_yes hc) ⟨s.size - (k + 1), by omega, k + 1, by rw [wr64 (by omega) (by omega)]; omega, by omega, rfl, fun i hi hik => ?_, rfl⟩
        by_cases hik2 : i < k
        · exact hall i hi hik2
        · obtain rfl : i = k := by omega
          exact hc
      · refine ifT (word_no hc) ?_
        have hno : ¬ wordOk (strL s) := fun hw => hc (hw.1 k hkl)
        rwa [decide_eq_false hno] at hK
  · refine ifF (by simp; omega) ?_
    have e : (cond (decide ((s.size : Int) ≥ 1)) (decide ((s.size : Int) ≤ 16)) false) = decide (wordOk (strL s)) := by
      by_cases he : 1 ≤ s.size
      · by_cases h16 : s.size ≤ 16
        · have : wordOk (strL s) := ⟨fun i hi => hall i hi (by omega), fun e => by rw [e] at hsl; simp at hsl; omega, by omega⟩
          simp [this]; omega
        · have : ¬ wordOk (strL s) := fun hw => h16 (by have := hw.2.2; omega)
          simp [this]; omega
      · have : ¬ wordOk (strL s) := fun hw => hw.2.1 (List.eq_nil_of_length_eq_zero (by omega))
        simp [this]; omega
    rw [e]; exact hK

section
variable {S : List Nat} {w0 w : World} {its : List Thing}
theorem Rwords_spec (h : Hp S w0 w its) (j : Nat) {u : Thing} {s : Sl} {L : List ByteArray} (hj : (its[j]?).map Thing.holds = some u.holds) (hu : Hp.Reads u s 1 sv L) (hl : L.length ≤ 1000000000) (hsz : ∀ x ∈ L, x.size ≤ 1000000000000) {K : Bool → World → Prop}
    (hK : ∀ w', Hp S w0 w' its → K (decide (wordsOk L)) w') : c106 s w K := by
  refine c106_of ?_
  unfold f106
  have hsl := h.lenU j hj hu
  refine ⟨fun t m w' => ∃ k : Nat, t = k ∧ k ≤ L.length ∧ m = L.length - k ∧ (∀ i, (hi : i < L.length) → i < k → wordOk (strL L[i]) ∧ L[i] ∉ L.take i) ∧ Hp S w0 w' its, ⟨L.length, 0, rfl, by omega, rfl, fun i _ h => by omega, h⟩, ?_⟩
  clear h
  rintro t m w2 ⟨k, rfl, hk, rfl, hall, h⟩
  by_cases hlt : k < L.length
  · refine ifT (by simp; omega) ?_
    refine h.ixldU (k := .s) (u := u) (y := L[k]) (x := L[k]) j hj hu (by omega) (by simp [hlt]) sv_len rfl ?_
    refine Rword_spec (hsz _ (List.getElem_mem hlt)) ?_
    by_cases hw : wordOk (strL L[k])
    · refine ifF (by simpa using hw) ?_
      refine ⟨fun t m w' => ∃ q : Nat, t = q ∧ q ≤ k ∧ m = k - q ∧ L[k] ∉ L.take q ∧ Hp S w0 w' its, ⟨k, 0, rfl, by omega, rfl, by simp, h⟩, ?_⟩
      clear h
      rintro t m w3 ⟨q, rfl, hq, rfl, hnq, h⟩
      by_cases hqk : q < k
      · refine ifT (by simp; omega) ?_
        refine h.dr fun w4 h => ?_
        have hql : q < L.length := by omega
        refine h.ixldU (k := .s) (u := u) (y := L[q]) (x := L[q]) j hj hu (by omega) (by simp [hql]) sv_len rfl ?_
        refine h.ixldU (k := .s) (u := u) (y := L[k]) (x := L[k]) j hj hu (by omega) (by simp [hlt]) sv_len rfl ?_
        by_cases he : L[q] = L[k]
        · refine ifT (by rw [he]; exact ba_yes _) ?_
          have := hK _ h
          have hno : ¬ wordsOk L := fun hw => (hw k hlt).2 (by rw [← he]; exact List.mem_take_iff_getElem.2 ⟨q, by omega, rfl⟩)
          rwa [decide_eq_false hno] at this
        · refine ifF (by rw [ba_eq]; simpa using he) ⟨k - (q + 1), by omega, q + 1, by rw [wr64 (by omega) (by omega)]; omega, by omega, rfl, fun hm => ?_, h⟩
          rw [List.take_succ_eq_append_getElem hql] at hm
          rcases List.mem_append.1 hm with hm | hm
          · exact hnq hm
          · simp only [List.mem_singleton] at hm
            exact he hm.symm
      · refine ifF (by simp; omega) ⟨L.length - (k + 1), by omega, k + 1, by rw [wr64 (by omega) (by omega)]; omega, by omega, rfl, fun i hi hik => ?_, h⟩
        by_cases hik2 : i < k
        · exact hall i hi hik2
        · obtain rfl : i = k := by omega
          obtain rfl : q = i := by omega
          exact ⟨hw, hnq⟩
    · refine ifT (by simpa using hw) ?_
      have := hK _ h
      have hno : ¬ wordsOk L := fun h => hw (h k hlt).1
      rwa [decide_eq_false hno] at this
  · refine ifF (by simp; omega) ?_
    have := hK _ h
    have hyes : wordsOk L := fun i hi => hall i hi (by omega)
    rwa [decide_eq_true hyes] at this

set_option maxHeartbeats 2000000 in
theorem Rmay_spec {s : Sl} {l : KD} (hr : RdK w s l) (hl : l.length ≤ 10000000) (hsz : ∀ x ∈ l, x.2.length ≤ 10000000 ∧ x.1.size ≤ 1000000000000 ∧ ∀ y ∈ x.2, y.size ≤ 1000000000000) {K : Bool → World → Prop}
    (hK : ∀ w', Fr [] w w' → K (decide (mayOk l)) w') : c73 s w K := by
  refine c73_of ?_
  unfold f73
  obtain ⟨inf9, i1, i2, i3, i4⟩ := inf9
  obtain ⟨ys, O, rfl, hO⟩ := hr
  have h : Hp [] w w [(tRK s ys).ro] := (Hp.init w).addRo hO (by simp)
  have hsl := h.lenU (u := tRK s ys) (s := s) (l := ys) (f := kdv) (n := 2) 0 rfl rk_reads
  have hkl : (kinds ys).length = ys.length := by simp [kinds]
  have hcs := rk_cap h (s := s) (xs := ys) 0 rfl
  rw [hkl] at hl
  have h := h.nil 9 1 sv
  refine ⟨fun names t mm w' => ∃ k : Nat, t = k ∧ k ≤ ys.length ∧ mm = ys.length - k ∧ (∀ q, (hq : q < ys.length) → q < k → (ys[q]).2.2.length ≤ 4 ∧ wordsOk (ys[q]).2.2) ∧ Hp [] w w' [(tRK s ys).ro, tSl names 9 1 sv ((ys.take k).map (·.1))], ⟨ys.length, 0, rfl, by omega, rfl, fun q _ h => by omega, h⟩, ?_⟩
  clear h
  rintro names t mm w2 ⟨k, rfl, hk, rfl, hall, h⟩
  by_cases hlt : k < ys.length
  · refine ifT (by simp; omega) ?_
    have hx : ys[k]? = some ys[k] := by simp [hlt]
    have hmem : ys[k] ∈ ys := List.getElem_mem hlt
    have hxz := hsz (ys[k].1, ys[k].2.2) (List.mem_map.2 ⟨_, hmem, rfl⟩)
    have htk : ys.take (k + 1) = ys.take k ++ [ys[k]] := List.take_succ_eq_append_getElem hlt
    have hallk : ∀ q, (hq : q < ys.length) → q = k → ((ys[k]).2.2.length ≤ 4 ∧ wordsOk (ys[k]).2.2) → (ys[q]).2.2.length ≤ 4 ∧ wordsOk (ys[q]).2.2 := fun q hq e h => by subst e; exact h
    have hcap := hcs _ hmem
    generalize ys[k] = x at hx hxz htk hmem hallk hcap
    have hxz1 : x.2.2.length ≤ 10000000 := hxz.1
    have no : ¬ (x.2.2.length ≤ 4 ∧ wordsOk x.2.2) → ¬ mayOk (kinds ys) := fun hno hm => hno (hm.1 (x.1, x.2.2) (List.mem_map.2 ⟨x, hmem, rfl⟩))
    have rdk : ∀ {w' : World} {l : List Thing}, Hp [] w w' ((tRK s ys).ro :: l) → ∃ o, SlR w' s 2 kdv ys o := fun {w' l} h => by
      obtain ⟨O, _, ⟨o, g, _⟩, _⟩ := h.see (i := 0) rfl
      exact ⟨o, g⟩
    obtain ⟨o, hR⟩ := rdk h
    refine SlR.ix kdv_len hR (by omega) (x := x) (by rw [Int.toNat_natCast]; exact hx) fun ad hc => ?_
    refine ldR (k := .sl) (x := x.2.1) (hc 1 (by omega)) rfl ?_
    refine Rwords_spec h 0 (u := tRK s ys) rfl (rk_readsF hx) (by omega) hxz.2.2 fun w3 h => ?_
    refine ⟨fun w' => (x.2.2.length ≤ 4 ∧ wordsOk x.2.2) ∧ Hp [] w w' [(tRK s ys).ro, tSl names 9 1 sv ((ys.take k).map (·.1))], ?_, ?_⟩
    · by_cases hw : wordsOk x.2.2
      · refine ifF (by simpa using hw) ?_
        obtain ⟨o, hR⟩ := rdk h
        refine SlR.ix kdv_len hR (by omega) (x := x) (by rw [Int.toNat_natCast]; exact hx) fun ad hc => ?_
        refine ldR (k := .sl) (x := x.2.1) (hc 1 (by omega)) rfl ?_
        by_cases h4 : x.2.1.len > 4
        · refine ifT (by simp; omega) ?_
          have := hK _ h.1
          rwa [decide_eq_false (no fun hh => by omega)] at this
        · exact ifF (by simp; omega) ⟨⟨by omega, hw⟩, h⟩
      · refine ifT (by simpa using hw) ?_
        have := hK _ h.1
        rwa [decide_eq_false (no fun hh => hw hh.2)] at this
    clear h hR
    rintro w6 ⟨hgood, h⟩
    obtain ⟨o, hR⟩ := rdk h
    refine SlR.ix kdv_len hR (by omega) (x := x) (by rw [Int.toNat_natCast]; exact hx) fun ad hc => ?_
    refine ldR0 (k := .s) (x := x.1) (hc 0 (by omega)) rfl ?_
    have hnl := h.len (s := names) (e := 9) (n := 1) (f := sv) (l := (ys.take k).map (·.1)) 1 rfl
    rw [List.length_map, List.length_take] at hnl
    refine h.nwapp (c := [_]) 1 x.1 rfl sv_len und81 i1 i3 i2 rfl rfl (by simp [sv, Value.oneCell']) (by rw [i4]; omega) (by omega) fun names2 w7 h _ _ => ?_
    refine ⟨ys.length - (k + 1), by omega, k + 1, by rw [wr64 (by omega) (by omega)]; omega, by omega, rfl, fun q hq hqk => ?_, ?_⟩
    · by_cases hq2 : q < k
      · exact hall q hq hq2
      · exact hallk q hq (by omega) hgood
    · rw [htk, List.map_append]
      exact h
  · refine ifF (by simp; omega) ?_
    rw [List.take_of_length_le (by omega)] at h
    have hnm : (kinds ys).map (·.1) = ys.map (·.1) := by simp [kinds]
    refine Rwords_spec h 1 (u := tSl names 9 1 sv (ys.map (·.1))) rfl Hp.rdSl (by simp; omega) (fun y hy => by
      obtain ⟨x, hx, rfl⟩ := List.mem_map.1 hy
      exact (hsz (x.1, x.2.2) (List.mem_map.2 ⟨x, hx, rfl⟩)).2.1) fun w3 h => ?_
    have := hK _ h.1
    have e : (cond (cond (decide (wordsOk (ys.map (·.1)))) (decide ((s.len : Int) ≥ 1)) false) (decide ((s.len : Int) ≤ 12)) false) = decide (mayOk (kinds ys)) := by
      by_cases hm : mayOk (kinds ys)
      · have h1 := hm.2.1
        have h2 := hm.2.2.1
        have h3 := hm.2.2.2
        rw [hnm] at h3
        rw [decide_eq_true hm, decide_eq_true h3]
        simp; omega
      · rw [decide_eq_false hm]
        by_cases hw : wordsOk (ys.map (·.1))
        · have : ¬ (1 ≤ ys.length ∧ ys.length ≤ 12) := fun hh => hm ⟨fun y hy => by
            obtain ⟨x, hx, rfl⟩ := List.mem_map.1 hy
            obtain ⟨q, hq, rfl⟩ := List.mem_iff_getElem.1 hx
            exact hall q hq (by omega), by omega, by omega, by rw [hnm]; exact hw⟩
          rw [decide_eq_true hw]
          by_cases h1 : 1 ≤ ys.length
          · have : ¬ ys.length ≤ 12 := fun h => this ⟨h1, h⟩
            simp; omega
          · simp; omega
        · rw [decide_eq_false hw]; rfl
    rw [e]; exact this

end
end Go.Proofs.Ytcccjgmekakabaa.FW
end

section
set_option linter.unusedSimpArgs false
set_option linter.unusedVariables false
set_option maxRecDepth 100000
namespace Go.Proofs.Ytcccjgmekakabaa.FW
open Go.Proofs.Ytcccjgmekakabaa.F
open Go Go.Den Go.Proofs
open Go.Proofs.Ytcccjgmekakabaa.FI (PoolM tPool)
open Go.Proofs.Ytcccjgmekakabaa.FT (TabM tTab Ent entV ent ent_len atI keyEnt iv iv_len)
/-- Parts that are only read. -/
def tRP (s : Sl) (xs : List PV) : Thing :=
  { holds := fun w O => (∀ k ∈ O, k < w.heap.size) ∧ (∃ o, SlR w s 2 pdv xs o ∧ ∀ k ∈ o, k ∈ O) ∧ ∀ x ∈ xs, ∃ o, SlR w x.2.1 1 iv x.2.2 o ∧ ∀ k ∈ o, k ∈ O
    fr := fun {S w w' O} h hf hn => ⟨fun k hk => by have := h.1 k hk; have := hf.size; omega, by
      obtain ⟨_, ⟨o, h1, h2⟩, h3⟩ := h
      refine ⟨⟨o, h1.fr hf (fun k hk => hn k (h2 k hk)), h2⟩, fun x hx => ?_⟩
      obtain ⟨o, h4, h5⟩ := h3 x hx
      exact ⟨o, h4.fr hf (fun k hk => hn k (h5 k hk)), h5⟩⟩
    lt := fun h => h.1 }

theorem rp_reads {u : Thing} {s : Sl} {xs : List PV} (hu : u.holds = (tRP s xs).holds) : Hp.Reads u s 2 pdv xs := ⟨fun {w O} h => by
  rw [hu] at h
  obtain ⟨_, ⟨o, h1, _⟩, _⟩ := h
  exact ⟨o, h1⟩⟩

theorem rp_readsV {u : Thing} {s : Sl} {xs : List PV} (hu : u.holds = (tRP s xs).holds) {x : PV} (hx : x ∈ xs) : Hp.Reads u x.2.1 1 iv x.2.2 := ⟨fun {w O} h => by
  rw [hu] at h
  obtain ⟨_, _, h2⟩ := h
  obtain ⟨o, h3, _⟩ := h2 x hx
  exact ⟨o, h3⟩⟩

theorem RdP.thing {w : World} {s : Sl} {l : List Part} (h : RdP w s l) : ∃ (xs : List PV) (O : List Nat), xs.map pvis = l ∧ (tRP s xs).holds w O := by
  obtain ⟨xs, h1, ⟨o, h2⟩, h3⟩ := h
  refine ⟨xs, List.range w.heap.size, h1, fun k hk => List.mem_range.1 hk, ⟨o, h2, fun k hk => List.mem_range.2 (h2.lt k hk)⟩, fun x hx => ?_⟩
  obtain ⟨o, h4⟩ := h3 x hx
  exact ⟨o, h4, fun k hk => List.mem_range.2 (h4.lt k hk)⟩

theorem RdP.len {w : World} {s : Sl} {l : List Part} (h : RdP w s l) : l.length = s.len := by
  obtain ⟨xs, h1, ⟨o, h2⟩, _⟩ := h
  rw [← h1, List.length_map]; exact h2.1

section
variable {S : List Nat} {w0 w : World} {its : List Thing}
theorem Rints_spec (h : Hp S w0 w its) {s : Sl} {l : List Int} (hr : ∃ o, SlR w s 1 iv l o) (hl : l.length ≤ 1000000000) {K : Sl → World → Prop} (hK : ∀ r w', Hp S w0 w' (its ++ [tSl r 2 1 iv l]) → K r w') : c107 s w K := by
  refine c107_of ?_
  unfold f107
  obtain ⟨inf, q1, q2, q3, q4⟩ := FT.inf2
  obtain ⟨o, hR⟩ := hr
  have hsl := hR.1
  have h1 : Hp [] w w [(tRd s 1 iv l).ro] := (Hp.init w).addRo hR (by simp)
  have h1 := h1.nil 2 1 iv
  refine h1.appS 1 0 (s := ⟨none, 0, 0⟩) (s2 := s) (u := (tRd s 1 iv l).ro) rfl rfl ⟨fun {w O} h => ⟨O, h⟩⟩ iv_len FT.und34 q1 q3 q2 rfl (by simp [iv, Value.oneCell']) (by rw [q4]; show (0 + s.len) * 8 ≤ _; omega) (by show 0 + s.len ≤ _; omega) fun r w2 h1 _ _ => ?_
  exact hK r w2 (h.r0 (rest := [tSl r 2 1 iv l]) rfl (h1.selL [1] (by decide) rfl))

theorem Rlongs_spec (h : Hp S w0 w its) (j : Nat) {u : Thing} {s : Sl} {l : List Int} (hj : its[j]? = some u) (hu : Hp.Reads u s 1 iv l) (hl : l.length ≤ 1000000000) {K : Sl → World → Prop} (hK : ∀ r w', Hp S w0 w' (its ++ [tSl r 2 1 iv l]) → K r w') : c110 s w K := by
  refine c110_of ?_
  unfold f110
  obtain ⟨inf, q1, q2, q3, q4⟩ := FT.inf2
  have hlt0 := (List.getElem?_eq_some_iff.1 hj).1
  have hsl := h.lenU j (by rw [hj]; rfl) hu
  have h := h.nil 2 1 iv
  refine ⟨fun out t8 mm w' => ∃ k : Nat, t8 = k ∧ k ≤ l.length ∧ mm = l.length - k ∧ Hp S w0 w' (its ++ [tSl out 2 1 iv (l.take k)]), ⟨l.length, 0, rfl, by omega, rfl, h⟩, ?_⟩
  clear h
  rintro out t8 mm w2 ⟨k, rfl, hk, rfl, h⟩
  have hol := h.len (s := out) its.length (by rw [List.getElem?_concat_length]; rfl)
  rw [List.length_take] at hol
  by_cases hlt : k < l.length
  · refine ifT (by simp; omega) ?_
    refine h.ixldU (k := .i .i64) (u := u) (y := l[k]) (x := l[k]) j (by rw [List.getElem?_append_left hlt0, hj]; rfl) hu (by omega) (by simp [hlt]) iv_len rfl ?_
    refine h.nwapp its.length (l[k]) (c := [_]) List.getElem?_concat_length iv_len FT.und34 q1 q3 q2 rfl rfl (by simp [iv, Value.oneCell']) (by rw [q4]; omega) (by omega) fun out2 w3 h _ _ => ?_
    rw [set_last, ← List.take_succ_eq_append_getElem hlt] at h
    exact ⟨l.length - (k + 1), by omega, k + 1, by rw [wr64 (by omega) (by omega)]; omega, by omega, rfl, h⟩
  · refine ifF (by simp; omega) ?_
    rw [List.take_of_length_le (by omega)] at h
    exact hK out w2 h

set_option maxHeartbeats 2000000 in
theorem CopiedParts_spec (h : Hp S w0 w its) {s : Sl} {l : List Part} (hr : RdP w s l) (hl : l.length ≤ 1000000000) (hv : ∀ x ∈ l, x.2.length ≤ 1000000000) {K : Sl → World → Prop} (hK : ∀ r w', Hp S w0 w' (its ++ [tParts r l]) → K r w') : c76 s w K := by
  refine c76_of ?_
  unfold f76
  obtain ⟨inf, i1, i2, i3, i4⟩ := inf40
  obtain ⟨xs, O, rfl, hO⟩ := hr.thing
  have h1 : Hp [] w w [(tRP s xs).ro] := (Hp.init w).addRo hO (by simp)
  have hsl := h1.lenU (u := tRP s xs) (s := s) (l := xs) (f := pdv) (n := 2) 0 rfl (rp_reads rfl)
  have h1 := h1.nest_nil 40 2 pdv tV pvis
  rw [List.length_map] at hl
  refine ⟨fun out t mm w' => ∃ k : Nat, t = k ∧ k ≤ xs.length ∧ mm = xs.length - k ∧ Hp [] w w' [(tRP s xs).ro, tParts out ((xs.take k).map pvis)], ⟨xs.length, 0, rfl, by omega, rfl, h1⟩, ?_⟩
  clear h1
  rintro out t mm w2 ⟨k, rfl, hk, rfl, h1⟩
  have hol := (h1.nest_see (s := out) (l := (xs.take k).map pvis) 1 rfl).1
  rw [List.length_map, List.length_take] at hol
  by_cases hlt : k < xs.length
  · refine ifT (by simp; omega) ?_
    refine h1.dr fun w3 h1 => ?_
    have hx : xs[k]? = some xs[k] := by simp [hlt]
    have htk : xs.take (k + 1) = xs.take k ++ [xs[k]] := List.take_succ_eq_append_getElem hlt
    have hxm : xs[k] ∈ xs := List.getElem_mem hlt
    generalize xs[k] = x at hx htk hxm
    have hxv : x.2.2.length ≤ 1000000000 := hv (pvis x) (List.mem_map_of_mem hxm)
    have hu : (tRP s xs).ro.holds = (tRP s xs).holds := rfl
    refine h1.ixk (s := s) (l := xs) (f := pdv) (n := 2) 0 rfl (rp_reads hu) (by omega) (by rw [Int.toNat_natCast]; exact hlt) fun ad had => ?_
    rw [Int.toNat_natCast]
    refine h1.ldk0 (k := .i .i64) (v := x.1) 0 rfl (rp_reads hu) had pdv_len hx rfl ?_
    refine h1.ixk (s := s) (l := xs) (f := pdv) (n := 2) 0 rfl (rp_reads hu) (by omega) (by rw [Int.toNat_natCast]; exact hlt) fun ad2 had2 => ?_
    rw [Int.toNat_natCast]
    refine h1.ldk (m := 1) (k := .sl) (v := x.2.1) 0 rfl (rp_reads hu) had2 pdv_len hx rfl ?_
    have hRx : ∃ o, SlR w3 x.2.1 1 iv x.2.2 o := by
      obtain ⟨O', hO'⟩ := h1.see (i := 0) rfl
      exact (rp_readsV (u := (tRP s xs).ro) hu hxm).rd hO'
    refine Rints_spec h1 hRx hxv fun r w4 h1 => ?_
    refine ⟨h1.celk0 0 rfl (rp_reads hu) had pdv_len hx rfl, ?_⟩
    have h1 : Hp [] w w4 [(tRP s xs).ro, tParts out ((xs.take k).map pvis), tV (x.1, r, x.2.2)] := h1
    refine h1.nest_app 1 2 (by decide) (x.1, r, x.2.2) (c := [_, _]) rfl rfl rfl pdv_len und36 i1 i3 i2 rfl rfl (by simp [pdv, Value.oneCell']) (by rw [i4]; omega) (by omega) fun out2 w5 h1 ho2 => ?_
    have h1 : Hp [] w w5 ([(tRP s xs).ro, tParts out2 ((xs.take k).map pvis ++ [pvis (x.1, r, x.2.2)])] ++ [tEmp]) := h1
    have h1 := h1.front
    refine ⟨xs.length - (k + 1), by omega, k + 1, by rw [wr64 (by omega) (by omega)]; omega, by omega, rfl, ?_⟩
    rw [htk, List.map_append]
    exact h1
  · refine ifF (by simp; omega) ?_
    rw [List.take_of_length_le (by omega)] at h1
    exact hK out w2 (h.r0 (rest := [tParts out (xs.map pvis)]) rfl (h1.selL [1] (by decide) rfl))

set_option maxHeartbeats 2000000 in
theorem Rcopied_spec (h : Hp S w0 w its) {s : Sl} {l : KD} (hr : RdK w s l) (hl : l.length ≤ 1000000000) (hv : ∀ x ∈ l, x.2.length ≤ 1000000000) {K : Sl → World → Prop} (hK : ∀ r w', Hp S w0 w' (its ++ [tKinds r l]) → K r w') : c75 s w K := by
  refine c75_of ?_
  unfold f75
  obtain ⟨inf9, j1, j2, j3, j4⟩ := inf9
  obtain ⟨inf, i1, i2, i3, i4⟩ := inf94
  obtain ⟨xs, O, rfl, hO⟩ := hr
  have h1 : Hp [] w w [(tRK s xs).ro] := (Hp.init w).addRo hO (by simp)
  have hu : (tRK s xs).ro.holds = (tRK s xs).holds := rfl
  have hsl := h1.lenU (u := tRK s xs) (s := s) (l := xs) (f := kdv) (n := 2) 0 rfl rk_reads
  have hcs := rk_cap h1 (s := s) (xs := xs) 0 rfl
  have hkl : (kinds xs).length = xs.length := by simp [kinds]
  rw [hkl] at hl
  have h1 := h1.nest_nil 94 2 kdv tF kvis
  refine ⟨fun out t mm w' => ∃ k : Nat, t = k ∧ k ≤ xs.length ∧ mm = xs.length - k ∧ Hp [] w w' [(tRK s xs).ro, tKinds out ((xs.take k).map kvis)], ⟨xs.length, 0, rfl, by omega, rfl, h1⟩, ?_⟩
  clear h1
  rintro out t mm w2 ⟨k, rfl, hk, rfl, h1⟩
  have hol := (h1.nest_see (s := out) (l := (xs.take k).map kvis) 1 rfl).1
  rw [List.length_map, List.length_take] at hol
  by_cases hlt : k < xs.length
  · refine ifT (by simp; omega) ?_
    have hx : xs[k]? = some xs[k] := by simp [hlt]
    have htk : xs.take (k + 1) = xs.take k ++ [xs[k]] := List.take_succ_eq_append_getElem hlt
    have hxm : xs[k] ∈ xs := List.getElem_mem hlt
    generalize xs[k] = x at hx htk hxm
    have hxv : x.2.2.length ≤ 1000000000 := hv (x.1, x.2.2) (List.mem_map.2 ⟨x, hxm, rfl⟩)
    have hxc := (hcs x hxm).2
    have rdk : ∀ {w' : World} {l : List Thing}, Hp [] w w' ((tRK s xs).ro :: l) → ∃ o, SlR w' s 2 kdv xs o := fun {w' l} h => by
      obtain ⟨O, _, ⟨o, g, _⟩, _⟩ := h.see (i := 0) rfl
      exact ⟨o, g⟩
    obtain ⟨o, hR⟩ := rdk h1
    refine SlR.ix kdv_len hR (by omega) (x := x) (by rw [Int.toNat_natCast]; exact hx) fun ad hc => ?_
    refine ldR0 (k := .s) (x := x.1) (hc 0 (by omega)) rfl ?_
    refine h1.nw (c := [_, _]) fun kb w3 h1 => ?_
    refine h1.st0 2 rfl (by simp) rfl fun w4 h1 => ?_
    refine h1.st (n := 1) 2 rfl (by simp) rfl fun w5 h1 => ?_
    refine h1.dr fun w6 h1 => ?_
    have h1 : Hp [] w w6 [(tRK s xs).ro, tKinds out ((xs.take k).map kvis), tBlk kb 94 [.string x.1, .slice none 0 0]] := h1
    refine h1.ld (n := 1) (k := .sl) (x := ⟨none, 0, 0⟩) 2 rfl rfl ?_
    obtain ⟨o, hR⟩ := rdk h1
    refine SlR.ix kdv_len hR (by omega) (x := x) (by rw [Int.toNat_natCast]; exact hx) fun ad hc => ?_
    refine ldR (k := .sl) (x := x.2.1) (hc 1 (by omega)) rfl ?_
    have h1 := h1.nil 9 1 sv
    have h1 : Hp [] w w6 [(tRK s xs).ro, tKinds out ((xs.take k).map kvis), tBlk kb 94 [.string x.1, .slice none 0 0], tSl ⟨none, 0, 0⟩ 9 1 sv []] := h1
    refine h1.appS 3 0 (s := ⟨none, 0, 0⟩) (s2 := x.2.1) (u := (tRK s xs).ro) rfl rfl (rk_readsFu hu hx) sv_len und81 j1 j3 j2 rfl (by simp [sv, Value.oneCell']) (by rw [j4]; show (0 + x.2.1.len) * 16 ≤ _; omega) (by show 0 + x.2.1.len ≤ _; omega) fun f w7 h1 hfl _ => ?_
    refine h1.st (n := 1) 2 rfl (by simp) rfl fun w8 h1 => ?_
    have h1 : Hp [] w w8 [(tRK s xs).ro, tKinds out ((xs.take k).map kvis), tBlk kb 94 [.string x.1, .slice f.a f.len f.cap], tF (x.1, f, x.2.2)] := h1
    refine h1.ld0 (k := .s) (x := x.1) 2 rfl rfl ?_
    refine h1.ld (n := 1) (k := .sl) (x := f) 2 rfl rfl ?_
    refine h1.nest_app 1 3 (by decide) (x.1, f, x.2.2) (c := [_, _]) rfl rfl rfl kdv_len und22 i1 i3 i2 rfl rfl (by simp [kdv, Value.oneCell']) (by rw [i4]; omega) (by omega) fun out2 w9 h1 ho2 => ?_
    have h1 : Hp [] w w9 ([(tRK s xs).ro, tKinds out2 ((xs.take k).map kvis ++ [kvis (x.1, f, x.2.2)])] ++ [tBlk kb 94 [.string x.1, .slice f.a f.len f.cap], tEmp]) := h1
    have h1 := h1.front
    refine ⟨xs.length - (k + 1), by omega, k + 1, by rw [wr64 (by omega) (by omega)]; omega, by omega, rfl, ?_⟩
    rw [htk, List.map_append]
    exact h1
  · refine ifF (by simp; omega) ?_
    rw [List.take_of_length_le (by omega)] at h1
    exact hK out w2 (h.r0 (rest := [tKinds out (kinds xs)]) rfl (h1.selL [1] (by decide) rfl))

theorem RW_open {b : Nat} {a : WA} {rest : List Thing} (h : Hp S w0 w (tRW b a :: rest)) :
    ∃ q : RH, a.fits ∧ Hp S w0 w (tBlk b 139 q.cells :: tKinds q.K a.ks :: tPool 176 q.p a.pool :: tRows q.L a.rows :: rest) := by
  obtain ⟨q, h⟩ := h.openEx (i := 0) rfl (fun _ => rfl)
  obtain ⟨hf, h⟩ := h.openAnd (i := 0) rfl rfl
  refine ⟨q, hf, ?_⟩
  have h := h.split (i := 0) rfl rfl rfl
  have h : Hp S w0 w ([tBlk b 139 q.cells] ++ rest ++ [tStar (tKinds q.K a.ks) (tStar (tPool 176 q.p a.pool) (tRows q.L a.rows))]) := h
  have h := h.up
  have h := h.split (i := 1) rfl rfl rfl
  have h : Hp S w0 w ([tBlk b 139 q.cells, tKinds q.K a.ks] ++ rest ++ [tStar (tPool 176 q.p a.pool) (tRows q.L a.rows)]) := h
  have h := h.up
  have h := h.split (i := 2) rfl rfl rfl
  have h : Hp S w0 w ([tBlk b 139 q.cells, tKinds q.K a.ks, tPool 176 q.p a.pool] ++ rest ++ [tRows q.L a.rows]) := h
  exact h.up

theorem RW_shut {b : Nat} {a : WA} (q : RH) {rest : List Thing} (hf : a.fits) (h : Hp S w0 w (tBlk b 139 q.cells :: tKinds q.K a.ks :: tPool 176 q.p a.pool :: tRows q.L a.rows :: rest)) : Hp S w0 w (tRW b a :: rest) := by
  have h := h.joinStar (i := 2) (j := 3) (by omega) rfl rfl rfl rfl
  have h := h.joinStar (i := 1) (j := 2) (by omega) rfl rfl rfl rfl
  have h := h.joinStar (i := 0) (j := 1) (by omega) rfl rfl rfl rfl
  have h := h.putAnd (i := 0) hf rfl rfl
  have h := h.putEx (f := fun q : RH => tAnd a.fits (tStar (tBlk b 139 q.cells) (tStar (tKinds q.K a.ks) (tStar (tPool 176 q.p a.pool) (tRows q.L a.rows))))) (i := 0) q rfl rfl
  have h : Hp S w0 w (tRW b a :: tEmp :: tEmp :: tEmp :: rest) := h
  exact h.drop1.drop1.drop1

theorem new_fits {l : KD} (hm : mayOk l) : (WA.new l).fits := ⟨WA.new_ok hm, fun e p hp => by cases hp⟩

/-- The document's New. -/
theorem RNew_W (h : Hp S w0 w its) {s : Sl} {l : KD} (hr : RdK w s l) (hl : l.length ≤ 10000000) (hsz : ∀ x ∈ l, x.2.length ≤ 10000000 ∧ x.1.size ≤ 1000000000000 ∧ ∀ y ∈ x.2, y.size ≤ 1000000000000) {K : Option Addr → Int → World → Prop}
    (hok : mayOk l → ∀ b w', Hp S w0 w' (its ++ [tRW b (WA.new l)]) → K (some ⟨b, 0, none⟩) 0 w') (hno : ¬ mayOk l → ∀ w', Hp S w0 w' its → K none 65 w') : c33 s w K := by
  refine c33_of ?_
  unfold f33
  refine Rmay_spec hr hl hsz fun w1 hf => ?_
  have h := h.keep hf
  have hr := hr.keep hf
  by_cases hm : mayOk l
  · rw [decide_eq_true hm]
    refine ifF (by simp) ?_
    have h1 : Hp [] w1 w1 [] := Hp.init w1
    refine FI.RNew_h h1 (n := 200) (by omega) (by omega) fun pb w2 h1 => ?_
    refine Rcopied_spec h1 (hr.keep h1.1) (by omega) (fun x hx => by have := (hsz x hx).1; omega) fun r w3 h1 => ?_
    have h1 := h1.nest_nil 65 3 rdv tPs rvis
    have h1 : Hp [] w1 w3 [tPool 176 pb ⟨200, [], [], []⟩, tKinds r l, tRows ⟨none, 0, 0⟩ []] := h1
    refine h1.nw (c := [_, _, _]) fun b w4 h1 => ?_
    have h1 : Hp [] w1 w4 [tBlk b 139 (RH.cells ⟨r, pb, ⟨none, 0, 0⟩⟩), tKinds r (WA.new l).ks, tPool 176 pb (WA.new l).pool, tRows ⟨none, 0, 0⟩ (WA.new l).rows] := h1.selL [3, 1, 0, 2] (by decide) rfl
    have h1 := RW_shut ⟨r, pb, ⟨none, 0, 0⟩⟩ (new_fits hm) h1
    exact hok hm b w4 (h.r0 (rest := [tRW b (WA.new l)]) rfl h1)
  · rw [decide_eq_false hm]
    exact ifT rfl (hno hm w1 h)

end
end Go.Proofs.Ytcccjgmekakabaa.FW
end

section
set_option linter.unusedSimpArgs false
set_option linter.unusedVariables false
set_option maxRecDepth 100000
namespace Go.Proofs.Ytcccjgmekakabaa.FW
open Go.Proofs.Ytcccjgmekakabaa.F
open Go Go.Den Go.Proofs
open Go.Proofs.Ytcccjgmekakabaa.FI (PoolM tPool fromM)
open Go.Proofs.Ytcccjgmekakabaa.FT (TabM tTab Ent entV ent ent_len atI keyEnt iv iv_len)
open Go.Proofs.Ytcccjgmekakabaa.FP (putU zig zag encZ rowU tB putU_len encZ_len R64 RowOk Acc getU getI getU_put)
theorem RowOk.uniq {bs : List Int} {m : Int} {X X' : List Int} {s s' : Int} (h : RowOk bs m X s) (h' : RowOk bs m X' s') : X = X' ∧ s = s' := by
  by_cases h0 : s = 0
  · by_cases h0' : s' = 0
    · rw [h.1 h0, h'.1 h0', h0, h0']; exact ⟨rfl, rfl⟩
    · have := h.2.2 X' (h'.2.1 h0').1
      exact ⟨this.1, by rw [this.2, (h'.2.1 h0').2]⟩
  · have := h'.2.2 X (h.2.1 h0).1
    exact ⟨this.1.symm, by rw [(h.2.1 h0).2, this.2]⟩

open Classical in
/-- The row with which bytes begin, and how long it is. -/
noncomputable def getR (bs : List Int) (most : Int) : List Int × Int := if h : ∃ p : List Int × Int, RowOk bs most p.1 p.2 then Classical.choose h else ([], 0)

open Classical in
noncomputable def nums (bs : List Int) : Option (List Int × List Int) :=
  if (getR bs 200).2 = 0 ∨ ¬ (∀ x ∈ (getR bs 200).1, 0 ≤ x ∧ x ≤ 1000001) then none else some ((getR bs 200).1, bs.drop (getR bs 200).2.toNat)

def loadVals : Nat → List Int → Option (List Int × List Int)
  | 0, bs => some ([], bs)
  | n + 1, bs => if (getI bs).2 = 0 then none else (loadVals n (bs.drop (getI bs).2.toNat)).map fun r => ((getI bs).1 :: r.1, r.2)

/-- The parts that a set and its numbers make. -/
def plOf (ks : KD) (set : Int) (v : List Int) : PL := (List.range ks.length).map fun i => if bit set (i + 1) = 1 then some ((v.drop (atF ks set i)).take (((ks[i]?).map (·.2.length)).getD 0)) else none

def loadRows (ks : KD) : List Ent → List Int → (Ent → Option PL) → Option ((Ent → Option PL) × List Int)
  | [], bs, row => some (row, bs)
  | e :: es, bs, row =>
    if (getU bs).2 = 0 ∨ (getU bs).1 % 2 = 1 ∨ (getU bs).1 / 2 ^ (ks.length + 1) ≠ 0 then none
    else match loadVals (atF ks (getU bs).1 ks.length) (bs.drop (getU bs).2.toNat) with
      | none => none
      | some r => loadRows ks es r.2 (upd1 row e (some (plOf ks (getU bs).1 r.1)))

noncomputable def load (ks : KD) (bs : List Int) : Option WA × Int :=
  if ¬ mayOk ks then (none, 65) else match nums bs with
  | none => (none, 64)
  | some r1 => match nums r1.2 with
    | none => (none, 64)
    | some r2 => match fromM 200 r1.1 r2.1 with
      | none => (none, 64)
      | some m => match loadRows ks (m.allU m.gens.length) r2.2 (fun _ => none) with
        | none => (none, 64)
        | some r => if r.2 = [] then (some ⟨ks, m, r.1⟩, 0) else (none, 64)

section
variable {S : List Nat} {w0 w : World} {its : List Thing}
theorem rd_nil {u : Thing} {f : Int → List Value} {n : Nat} : Hp.Reads u ⟨none, 0, 0⟩ n f ([] : List Int) := ⟨fun {w O} _ => ⟨[], SlR.nil rfl⟩⟩

end
end Go.Proofs.Ytcccjgmekakabaa.FW
end

section
set_option linter.unusedSimpArgs false
set_option linter.unusedVariables false
set_option maxRecDepth 100000
namespace Go.Proofs.Ytcccjgmekakabaa.FW
open Go.Proofs.Ytcccjgmekakabaa.F
open Go Go.Den Go.Proofs
open Go.Proofs.Ytcccjgmekakabaa.FI (PoolM tPool)
open Go.Proofs.Ytcccjgmekakabaa.FT (TabM tTab Ent entV ent ent_len atI keyEnt iv iv_len)
open Go.Proofs.Ytcccjgmekakabaa.FP (R64)
theorem partsU_mem (p : PL) : ∀ k, ∀ y ∈ partsU p k, ∃ i : Nat, y.1 = ((i + 1 : Nat) : Int) ∧ i < k ∧ p[i]? = some (some y.2)
  | 0, y, hy => by simp [partsU] at hy
  | k + 1, y, hy => by
    rw [partsU] at hy
    rcases List.mem_append.1 hy with hy | hy
    · obtain ⟨i, h1, h2, h3⟩ := partsU_mem p k y hy
      exact ⟨i, h1, by omega, h3⟩
    · split at hy
      · rename_i v hv
        simp only [List.mem_singleton] at hy
        subst hy
        exact ⟨k, rfl, by omega, getD_some hv⟩
      · cases hy

/-- What each part of a row is. -/
theorem part_fit {a : WA} {p : PL} (hl : a.ks.length ≤ 12) (h4 : ∀ x ∈ a.ks, x.2.length ≤ 4) (hf : p.fit a.ks) (hr : R64 (flat p)) : (partsOf p).length ≤ 12 ∧ ∀ y ∈ partsOf p, y.2.length ≤ 4 ∧ R64 y.2 ∧ 1 ≤ y.1 ∧ y.1 ≤ 12 := by
  have hpl := hf.1
  refine ⟨by have := partsU_len p p.length; unfold partsOf; omega, fun y hy => ?_⟩
  obtain ⟨i, h1, h2, h3⟩ := partsU_mem p _ y hy
  have hk : a.ks[i]? = some (a.ks[i]'(by omega)) := List.getElem?_eq_getElem _
  refine ⟨?_, fun z hz => hr z (List.mem_flatMap.2 ⟨some y.2, List.mem_of_getElem? h3, hz⟩), by omega, by omega⟩
  have := hf.2 i y.2 _ h3 hk
  have := h4 _ (List.mem_of_getElem? hk)
  omega

def setSum (l : List Part) : Int := (l.map fun x => (2 : Int) ^ x.1.toNat).sum

theorem setSum_app (l m : List Part) : setSum (l ++ m) = setSum l + setSum m := by simp [setSum]

theorem setN_app (p : PL) (o : Option (List Int)) : setN (p ++ [o]) = setN p + if o.isSome = true then 2 ^ p.length else 0 := by
  induction p with
  | nil => cases o <;> simp [setN]
  | cons x p ih =>
    rw [List.cons_append]
    simp only [setN, ih, List.length_cons, Nat.pow_succ]
    cases o <;> simp <;> omega

theorem setSum_partsU (p : PL) : ∀ k, k ≤ p.length → setSum (partsU p k) = (setN (none :: p.take k) : Nat)
  | 0, _ => by simp [partsU, setSum, setN]
  | k + 1, hk => by
    have ih := setSum_partsU p k (by omega)
    have hp : p[k]? = some p[k] := by simp [show k < p.length by omega]
    have hg : p.getD k none = p[k] := by rw [List.getD_eq_getElem?_getD, hp]; rfl
    rw [partsU, setSum_app, ih, List.take_succ_eq_append_getElem (by omega), ← List.cons_append, setN_app, hg]
    cases p[k] with
    | none => simp [setSum]
    | some v =>
      have hl : (p.take k).length = k := by rw [List.length_take]; omega
      simp [setSum, hl]

theorem setSum_parts (p : PL) : setSum (partsOf p) = setI p := by
  unfold partsOf setI
  rw [setSum_partsU p p.length (Nat.le_refl _), List.take_length]

theorem setSum_le {l : List Part} (h : ∀ y ∈ l, 1 ≤ y.1 ∧ y.1 ≤ 12) : 0 ≤ setSum l ∧ setSum l ≤ 4096 * l.length := by
  induction l with
  | nil => simp [setSum]
  | cons x l ih =>
    have := ih (fun y hy => h y (by simp [hy]))
    have hx := h x (by simp)
    have e : setSum (x :: l) = 2 ^ x.1.toNat + setSum l := by simp [setSum]
    have h1 : (2 : Nat) ^ x.1.toNat ≤ 2 ^ 12 := Nat.pow_le_pow_right (by omega) (by omega)
    have h2 : ((2 : Int) ^ x.1.toNat) = ((2 ^ x.1.toNat : Nat) : Int) := by simp
    rw [e, h2, List.length_cons]
    generalize 2 ^ x.1.toNat = q at h1
    omega

theorem all_few {a : WA} (hok : a.Ok) : a.all.length ≤ 200 := by
  have h1 := PoolM.allU_len a.pool a.pool.gens.length
  have h2 := hok.pok.len200
  show (a.pool.allU a.pool.gens.length).length ≤ 200
  omega

theorem rows_at {a : WA} (hf : a.fits) {r : RowT} (hr : r ∈ a.rows) : ∃ p, r.1 ∈ a.all ∧ a.row r.1 = some p ∧ r.2 = partsOf p ∧ p.fit a.ks ∧ R64 (flat p) := by
  obtain ⟨e, he, rfl⟩ := List.mem_map.1 hr
  obtain ⟨p, hp⟩ := all_lives hf.1 he
  refine ⟨p, he, hp, ?_, hf.2 _ p hp, hf.1.rng _ p hp⟩
  unfold WA.rowT
  rw [hp]; rfl

section
variable {S : List Nat} {w0 w : World} {its : List Thing}
theorem SetOf_spec {s : Sl} {l : List Part} (hr : RdP w s l) (hl : l.length ≤ 12) (hk : ∀ y ∈ l, 1 ≤ y.1 ∧ y.1 ≤ 12) {K : Int → World → Prop} (hK : K (setSum l) w) : c77 s w K := by
  refine c77_of ?_
  unfold f77
  have hsl := hr.len
  obtain ⟨xs, rfl, ⟨o, hR⟩, _⟩ := hr
  rw [List.length_map] at hl hsl
  refine ⟨fun n t mm w' => ∃ k : Nat, n = setSum ((xs.map pvis).take k) ∧ t = k ∧ k ≤ xs.length ∧ mm = xs.length - k ∧ w' = w, ⟨xs.length, 0, by simp [setSum], rfl, by omega, rfl, rfl⟩, ?_⟩
  rintro n t mm w2 ⟨k, rfl, rfl, hkl, rfl, rfl⟩
  by_cases hlt : k < xs.length
  · refine ifT (by simp; omega) ?_
    have hx : xs[k]? = some xs[k] := by simp [hlt]
    have htk : (xs.map pvis).take (k + 1) = (xs.map pvis).take k ++ [pvis xs[k]] := by
      rw [List.take_succ_eq_append_getElem (by simpa using hlt)]; simp
    have hkx := hk (pvis xs[k]) (List.mem_map_of_mem (List.getElem_mem hlt))
    generalize xs[k] = x at hx htk hkx
    have hkx : 1 ≤ x.1 ∧ x.1 ≤ 12 := hkx
    refine SlR.ix pdv_len hR (by omega) (x := x) (by rw [Int.toNat_natCast]; exact hx) fun ad hc => ?_
    refine ldR0 (k := .i .i64) (x := x.1) (hc 0 (by omega)) rfl ?_
    refine ⟨by omega, xs.length - (k + 1), by omega, k + 1, ?_, by rw [wr64 (by omega) (by omega)]; omega, by omega, rfl, rfl⟩
    have hb := setSum_le (l := (xs.map pvis).take k) (fun y hy => hk y (List.mem_of_mem_take hy))
    rw [List.length_take] at hb
    have e : setSum ((xs.map pvis).take (k + 1)) = setSum ((xs.map pvis).take k) + 2 ^ x.1.toNat := by
      rw [htk, setSum_app]; simp [setSum, pvis]
    rw [e]
    have hm : min (Int.toNat x.1) 64 = x.1.toNat := by omega
    rw [hm]
    have h1 : (2 : Nat) ^ x.1.toNat ≤ 2 ^ 12 := Nat.pow_le_pow_right (by omega) (by omega)
    have h2 : ((2 : Int) ^ x.1.toNat) = ((2 ^ x.1.toNat : Nat) : Int) := by simp
    rw [h2]
    generalize 2 ^ x.1.toNat = q at h1
    generalize setSum ((xs.map pvis).take k) = z at hb
    rw [wr64 (n := (1 : Int) * (q : Int)) (by omega) (by omega), wr64 (by omega) (by omega)]
    omega
  · refine ifF (by simp; omega) ?_
    rw [List.take_of_length_le (by simp; omega)]
    exact hK

set_option maxHeartbeats 2000000 in
theorem RRows_W (h : Hp S w0 w its) (i : Nat) {b : Nat} {a : WA} (hi : its[i]? = some (tRW b a)) {K : Sl → World → Prop} (hK : ∀ r w', Hp S w0 w' (its ++ [tRows r a.rows]) → K r w') : c34 (some ⟨b, 0, none⟩) w K := by
  refine c34_of ?_
  unfold f34
  obtain ⟨inf, i1, i2, i3, i4⟩ := inf65
  obtain ⟨O, h1, back⟩ := h.f1 hi rfl
  clear h
  obtain ⟨q, hf, h⟩ := RW_open h1
  clear h1
  have hrl : a.rows.length ≤ 200 := by have := all_few hf.1; unfold WA.rows; rw [List.length_map]; exact this
  obtain ⟨xs, hxs, h⟩ := h.nest_open (i := 3) rfl
  have h := h.nest_nil 65 3 rdv tPs rvis
  have h : Hp O w w [tBlk b 139 q.cells, tKinds q.K a.ks, tPool 176 q.p a.pool, tSl q.L 65 3 rdv xs, tAll (xs.map tPs), tRows ⟨none, 0, 0⟩ []] := h
  have hxl : xs.length = a.rows.length := by rw [← hxs, List.length_map]
  have hLl := h.len (s := q.L) 3 rfl
  refine ⟨fun out t mm w' => ∃ k : Nat, t = k ∧ k ≤ xs.length ∧ mm = xs.length - k ∧ Hp O w w' [tBlk b 139 q.cells, tKinds q.K a.ks, tPool 176 q.p a.pool, tSl q.L 65 3 rdv xs, tAll (xs.map tPs), tRows out ((xs.take k).map rvis)], ⟨xs.length, 0, rfl, by omega, rfl, h⟩, ?_⟩
  clear h
  rintro out t mm w2 ⟨k, rfl, hk, rfl, h⟩
  have hol := (h.nest_see (s := out) (l := (xs.take k).map rvis) (e := 65) (n := 3) (cells := rdv) (sub := tPs) (vis := rvis) 5 rfl).1
  rw [List.length_map, List.length_take] at hol
  refine nns ?_
  refine h.ld (n := 2) (k := .sl) (x := q.L) 0 rfl rfl ?_
  by_cases hlt : k < xs.length
  · refine ifT (by simp; omega) ?_
    have hx : xs[k]? = some xs[k] := by simp [hlt]
    have htk : xs.take (k + 1) = xs.take k ++ [xs[k]] := List.take_succ_eq_append_getElem hlt
    have hxm : xs[k] ∈ xs := List.getElem_mem hlt
    generalize xs[k] = x at hx htk hxm
    obtain ⟨p, _, _, hxp, hpf, hpr⟩ := rows_at hf (r := rvis x) (by rw [← hxs]; exact List.mem_map_of_mem hxm)
    have hxp : x.2.2 = partsOf p := hxp
    obtain ⟨hp1, hp2⟩ := part_fit hf.1.len.2 hf.1.four hpf hpr
    refine h.dr fun w3 h => ?_
    refine nns ?_
    refine h.ld (n := 2) (k := .sl) (x := q.L) 0 rfl rfl ?_
    refine h.ixk (s := q.L) (l := xs) (f := rdv) (n := 3) (u := tSl q.L 65 3 rdv xs) 3 rfl Hp.rdSl (by omega) (by rw [Int.toNat_natCast]; exact hlt) fun ad had => ?_
    rw [Int.toNat_natCast]
    refine h.ldk0 (k := .i .i64) (v := x.1.1) (u := tSl q.L 65 3 rdv xs) 3 rfl Hp.rdSl had rdv_len hx rfl ?_
    refine h.ldk (m := 1) (k := .i .i64) (v := x.1.2) (u := tSl q.L 65 3 rdv xs) 3 rfl Hp.rdSl had rdv_len hx rfl ?_
    refine nns ?_
    refine h.ld (n := 2) (k := .sl) (x := q.L) 0 rfl rfl ?_
    refine h.ixk (s := q.L) (l := xs) (f := rdv) (n := 3) (u := tSl q.L 65 3 rdv xs) 3 rfl Hp.rdSl (by omega) (by rw [Int.toNat_natCast]; exact hlt) fun ad2 had2 => ?_
    rw [Int.toNat_natCast]
    refine h.ldk (m := 2) (k := .sl) (v := x.2.1) (u := tSl q.L 65 3 rdv xs) 3 rfl Hp.rdSl had2 rdv_len hx rfl ?_
    have hRx : RdP w3 x.2.1 x.2.2 := by
      obtain ⟨O', hO'⟩ := h.see (i := 4) rfl
      obtain ⟨O2, h4⟩ := tAll_see hO' (List.mem_map.2 ⟨x, hxm, rfl⟩)
      exact rdP_of h4
    refine CopiedParts_spec h hRx (by rw [hxp]; omega) (fun y hy => by rw [hxp] at hy; have := (hp2 y hy).1; omega) fun r w4 h => ?_
    refine ⟨h.celk0 (u := tSl q.L 65 3 rdv xs) 3 rfl Hp.rdSl had rdv_len hx rfl, h.celk (m := 1) (u := tSl q.L 65 3 rdv xs) 3 rfl Hp.rdSl had rdv_len hx rfl, h.cel (n := 2) 0 rfl rfl, ?_⟩
    have h : Hp O w w4 [tBlk b 139 q.cells, tKinds q.K a.ks, tPool 176 q.p a.pool, tSl q.L 65 3 rdv xs, tAll (xs.map tPs), tRows out ((xs.take k).map rvis), tPs (x.1, r, x.2.2)] := h
    refine h.nest_app 5 6 (by decide) (x.1, r, x.2.2) (c := [_, _, _]) rfl rfl rfl rdv_len und56 i1 i3 i2 rfl rfl (by simp [rdv, Value.oneCell']) (by rw [i4]; omega) (by omega) fun out2 w5 h ho2 => ?_
    have h : Hp O w w5 ([tBlk b 139 q.cells, tKinds q.K a.ks, tPool 176 q.p a.pool, tSl q.L 65 3 rdv xs, tAll (xs.map tPs), tRows out2 ((xs.take k).map rvis ++ [rvis (x.1, r, x.2.2)])] ++ [tEmp]) := h
    have h := h.front
    refine ⟨xs.length - (k + 1), by omega, k + 1, by rw [wr64 (by omega) (by omega)]; omega, by omega, rfl, ?_⟩
    rw [htk, List.map_append]
    exact h
  · refine ifF (by simp; omega) ?_
    rw [List.take_of_length_le (by omega), hxs] at h
    have h := h.nest_close (i := 3) (j := 4) (e := 65) (n := 3) (cells := rdv) (sub := tPs) (vis := rvis) (s := q.L) (xs := xs) (l := a.rows) (by decide) rfl rfl hxs
    have h : Hp O w w2 (tBlk b 139 q.cells :: tKinds q.K a.ks :: tPool 176 q.p a.pool :: tRows q.L a.rows :: [tRows out a.rows]) := h.selL [0, 1, 2, 3, 5] (by decide) rfl
    have h := RW_shut q hf h
    have := back (rest := [tRows out a.rows]) rfl rfl h
    rw [Hp.set_same hi] at this
    exact hK out w2 this

end
end Go.Proofs.Ytcccjgmekakabaa.FW
end

section
set_option linter.unusedSimpArgs false
set_option linter.unusedVariables false
set_option maxRecDepth 100000
namespace Go.Proofs.Ytcccjgmekakabaa.FW
open Go.Proofs.Ytcccjgmekakabaa.F
open Go Go.Den Go.Proofs
open Go.Proofs.Ytcccjgmekakabaa.FI (PoolM tPool)
open Go.Proofs.Ytcccjgmekakabaa.FT (TabM tTab Ent entV ent ent_len atI keyEnt iv iv_len)
open Go.Proofs.Ytcccjgmekakabaa.FP (R64 tB putU zig rowU encZ putU_len encZ_len)
theorem und89 : Try.prog.underlying 89 = some (.slice 143) := by kernel_rfl

theorem inf143 : ∃ inf : TypeInfo, Try.prog.info? 143 = some inf ∧ inf.zero = some (.agg #[.int .i64 0, .int .i64 0]) ∧ inf.size = 2 ∧ inf.bytes = 16 := infoP (by kernel_rfl)

/-- Rows that are only read. -/
abbrev RX := Ent × Sl × List PV

abbrev rxv (x : RX) : List Value := [.int .i64 x.1.1, .int .i64 x.1.2, .slice x.2.1.a x.2.1.len x.2.1.cap]

theorem rxv_len (x : RX) : (rxv x).length = 3 := rfl

def rxw (x : RX) : RowT := (x.1, x.2.2.map pvis)

def RRx (w : World) (O : List Nat) (x : RX) : Prop := (∃ o, SlR w x.2.1 2 pdv x.2.2 o ∧ ∀ k ∈ o, k ∈ O) ∧ ∀ y ∈ x.2.2, ∃ o, SlR w y.2.1 1 iv y.2.2 o ∧ ∀ k ∈ o, k ∈ O

def tRR (L : Sl) (xs : List RX) : Thing :=
  { holds := fun w O => (∀ k ∈ O, k < w.heap.size) ∧ (∃ o, SlR w L 3 rxv xs o ∧ ∀ k ∈ o, k ∈ O) ∧ ∀ x ∈ xs, RRx w O x
    fr := fun {S w w' O} h hf hn => ⟨fun k hk => by have := h.1 k hk; have := hf.size; omega, by
      obtain ⟨_, ⟨o, h1, h2⟩, h3⟩ := h
      refine ⟨⟨o, h1.fr hf (fun k hk => hn k (h2 k hk)), h2⟩, fun x hx => ?_⟩
      obtain ⟨⟨o, h4, h5⟩, h6⟩ := h3 x hx
      refine ⟨⟨o, h4.fr hf (fun k hk => hn k (h5 k hk)), h5⟩, fun y hy => ?_⟩
      obtain ⟨o, h7, h8⟩ := h6 y hy
      exact ⟨o, h7.fr hf (fun k hk => hn k (h8 k hk)), h8⟩⟩
    lt := fun h => h.1 }

theorem list_pick {α β : Type} {P : α → β → Prop} : ∀ l : List α, (∀ x ∈ l, ∃ y, P x y) → ∃ m : List β, m.length = l.length ∧ ∀ (i : Nat) (x : α), l[i]? = some x → ∃ y, m[i]? = some y ∧ P x y
  | [], _ => ⟨[], rfl, fun i x h => by simp at h⟩
  | x :: l, h => by
    obtain ⟨y, hy⟩ := h x (by simp)
    obtain ⟨m, h1, h2⟩ := list_pick l (fun z hz => h z (by simp [hz]))
    refine ⟨y :: m, by simp [h1], fun i z hz => ?_⟩
    cases i with
    | zero => simp only [List.getElem?_cons_zero, Option.some.injEq] at hz; subst hz; exact ⟨y, rfl, hy⟩
    | succ i => simpa using h2 i z (by simpa using hz)

theorem rows_rr {w : World} {L : Sl} {l : List RowT} (h : RdW w L l) : ∃ (xs : List RX) (O : List Nat), xs.map rxw = l ∧ (tRR L xs).holds w O := by
  obtain ⟨xs, rfl, ⟨o, h2⟩, h3⟩ := h
  obtain ⟨m, h4, h5⟩ := list_pick (P := fun (x : RV) (z : RX) => z.1 = x.1 ∧ z.2.1 = x.2.1 ∧ z.2.2.map pvis = x.2.2 ∧ RRx w (List.range w.heap.size) z) xs fun x hx => by
    obtain ⟨ys, q1, ⟨o, q2⟩, q3⟩ := h3 x hx
    refine ⟨(x.1, x.2.1, ys), rfl, rfl, q1, ⟨o, q2, fun k hk => List.mem_range.2 (q2.lt k hk)⟩, fun y hy => ?_⟩
    obtain ⟨o, q4⟩ := q3 y hy
    exact ⟨o, q4, fun k hk => List.mem_range.2 (q4.lt k hk)⟩
  have hget : ∀ (i : Nat) (z : RX), m[i]? = some z → ∃ x, xs[i]? = some x ∧ z.1 = x.1 ∧ z.2.1 = x.2.1 ∧ z.2.2.map pvis = x.2.2 ∧ RRx w (List.range w.heap.size) z := fun i z hz => by
    have hil := (List.getElem?_eq_some_iff.1 hz).1
    have hx : xs[i]? = some (xs[i]'(by omega)) := List.getElem?_eq_getElem _
    obtain ⟨z', hz', hp⟩ := h5 i _ hx
    obtain rfl : z = z' := Option.some.inj (hz.symm.trans hz')
    exact ⟨_, hx, hp⟩
  refine ⟨m, List.range w.heap.size, ?_, fun k hk => List.mem_range.1 hk, ⟨o, ?_, fun k hk => List.mem_range.2 (h2.lt k hk)⟩, fun z hz => ?_⟩
  · apply List.ext_getElem?
    intro i
    rw [List.getElem?_map, List.getElem?_map]
    cases hm : m[i]? with
    | none =>
      have : xs[i]? = none := by rw [List.getElem?_eq_none_iff] at hm ⊢; omega
      rw [this]; rfl
    | some z =>
      obtain ⟨x, hx, q1, _, q3, _⟩ := hget i z hm
      rw [hx]
      show some (z.1, z.2.2.map pvis) = some (x.1, x.2.2)
      rw [q1, q3]
  · have e : m.flatMap rxv = xs.flatMap rdv := by
      have : m.map rxv = xs.map rdv := by
        apply List.ext_getElem?
        intro i
        rw [List.getElem?_map, List.getElem?_map]
        cases hm : m[i]? with
        | none =>
          have : xs[i]? = none := by rw [List.getElem?_eq_none_iff] at hm ⊢; omega
          rw [this]; rfl
        | some z =>
          obtain ⟨x, hx, q1, q2, _, _⟩ := hget i z hm
          rw [hx]
          show some (rxv z) = some (rdv x)
          unfold rxv rdv
          rw [q1, q2]
      rw [List.flatMap_def, List.flatMap_def, this]
    unfold SlR at h2 ⊢
    rw [e, h4]; exact h2
  · obtain ⟨i, hi, rfl⟩ := List.mem_iff_getElem.1 hz
    obtain ⟨_, _, _, _, _, q⟩ := hget i _ (List.getElem?_eq_getElem hi)
    exact q

theorem rr_reads {u : Thing} {L : Sl} {xs : List RX} (hu : u.holds = (tRR L xs).holds) : Hp.Reads u L 3 rxv xs := ⟨fun {w O} h => by
  rw [hu] at h
  obtain ⟨_, ⟨o, h1, _⟩, _⟩ := h
  exact ⟨o, h1⟩⟩

theorem rr_readsP {u : Thing} {L : Sl} {xs : List RX} (hu : u.holds = (tRR L xs).holds) {x : RX} (hx : x ∈ xs) : Hp.Reads u x.2.1 2 pdv x.2.2 := ⟨fun {w O} h => by
  rw [hu] at h
  obtain ⟨_, _, h2⟩ := h
  obtain ⟨⟨o, h3, _⟩, _⟩ := h2 x hx
  exact ⟨o, h3⟩⟩

theorem rr_readsV {u : Thing} {L : Sl} {xs : List RX} (hu : u.holds = (tRR L xs).holds) {x : RX} (hx : x ∈ xs) {y : PV} (hy : y ∈ x.2.2) : Hp.Reads u y.2.1 1 iv y.2.2 := ⟨fun {w O} h => by
  rw [hu] at h
  obtain ⟨_, _, h2⟩ := h
  obtain ⟨_, h3⟩ := h2 x hx
  obtain ⟨o, h4, _⟩ := h3 y hy
  exact ⟨o, h4⟩⟩

theorem rr_rdp {u : Thing} {L : Sl} {xs : List RX} (hu : u.holds = (tRR L xs).holds) {x : RX} (hx : x ∈ xs) {w : World} {O : List Nat} (h : u.holds w O) : RdP w x.2.1 (x.2.2.map pvis) :=
  ⟨x.2.2, rfl, (rr_readsP hu hx).rd h, fun y hy => (rr_readsV hu hx hy).rd h⟩

section
variable {S : List Nat} {w0 w : World} {its : List Thing}
/-- The document's world, only read. -/
theorem RW_read (h : Hp S w0 w its) (i : Nat) {b : Nat} {a : WA} (hi : (its[i]?).map Thing.holds = some (tRW b a).holds) :
    ∃ (q : RH) (xs : List RX), a.fits ∧ xs.map rxw = a.rows ∧ Hp [] w w [(tBlk b 139 q.cells).ro, (tPool 176 q.p a.pool).ro, (tRR q.L xs).ro] := by
  obtain ⟨O, q, hf, O1, O2, h1, ⟨O3, O4, h2, ⟨O5, O6, h3, h4, _⟩, _⟩, _⟩ := h.see' hi
  obtain ⟨xs, O7, h5, h6⟩ := rows_rr (rdW_of h4)
  exact ⟨q, xs, hf, h5, (((Hp.init w).addRo h1 (by simp)).addRo h3 (by simp)).addRo h6 (by simp)⟩

def shapeL (a : WA) (L : List Ent) (s : Int) : Option Int :=
  if (L.filter fun e => decide ((a.row e).map setI = some s)).length = 0 then none else some (((L.filter fun e => decide ((a.row e).map setI = some s)).length : Nat) : Int)

theorem mput_at {l : List (Int × Int)} {q : Nat} {k v : Int} (hq : q < l.length) (hne : ∀ (j : Nat) (hj : j < l.length), j < q → (l[j]).1 ≠ k) (hk : (l[q]).1 = k) : mput l k v = l.set q (k, v) ∧ mget l k = some (l[q]).2 := by
  have hf : (l.map (·.1)).findIdx? (fun b => decide (b = k)) = some q := by
    rw [List.findIdx?_eq_some_iff_getElem]
    refine ⟨by simpa using hq, by simpa using hk, fun j hj => ?_⟩
    simpa using hne j (by omega) hj
  unfold mput mget
  rw [hf]
  exact ⟨rfl, by simp [hq]⟩

theorem mput_out {l : List (Int × Int)} {k v : Int} (hne : ∀ (j : Nat) (hj : j < l.length), (l[j]).1 ≠ k) : mput l k v = l ++ [(k, v)] ∧ mget l k = none := by
  have hf : (l.map (·.1)).findIdx? (fun b => decide (b = k)) = none := by
    rw [List.findIdx?_eq_none_iff]
    intro x hx
    obtain ⟨y, hy, rfl⟩ := List.mem_map.1 hx
    obtain ⟨j, hj, rfl⟩ := List.mem_iff_getElem.1 hy
    simpa using hne j hj
  unfold mput mget
  rw [hf]
  exact ⟨rfl, rfl⟩

theorem shapeL_step {a : WA} {L : List Ent} {e : Ent} {p : PL} (hp : a.row e = some p) {f : Int → Option Int} (hf : ∀ s, f s = shapeL a L s) (s : Int) : shapeL a (L ++ [e]) s = if s = setI p then some ((f (setI p)).getD 0 + 1) else f s := by
  rw [hf, hf]
  unfold shapeL
  rw [List.filter_append]
  by_cases hs : s = setI p
  · subst hs
    have e1 : [e].filter (fun e => decide ((a.row e).map setI = some (setI p))) = [e] := by simp [hp]
    rw [e1, if_pos rfl, List.length_append, if_neg (by simp)]
    split
    · rename_i h0
      rw [h0]; rfl
    · simp
  · have e1 : [e].filter (fun e => decide ((a.row e).map setI = some s)) = [] := by simp [hp]; exact fun h => hs h.symm
    rw [e1, if_neg hs, List.append_nil]

set_option maxHeartbeats 4000000 in
theorem RShapes_W (h : Hp S w0 w its) (i : Nat) {b : Nat} {a : WA} (hi : (its[i]?).map Thing.holds = some (tRW b a).holds) {K : Sl → World → Prop}
    (hK : ∀ r zs w', (zs.map (·.1)).Nodup → (∀ s, a.shape s = mget zs s) → zs.length ≤ 200 → Hp S w0 w' (its ++ [tSl r 143 2 shv zs]) → K r w') : c35 (some ⟨b, 0, none⟩) w K := by
  refine c35_of ?_
  unfold f35
  obtain ⟨inf, i1, i2, i3, i4⟩ := inf143
  obtain ⟨q, xs, hf, hxs, h1⟩ := RW_read h i hi
  have hal := all_few hf.1
  have hrl : xs.length = a.all.length := by
    have := congrArg List.length hxs
    rw [List.length_map] at this
    unfold WA.rows at this
    rw [List.length_map] at this
    exact this
  have hu : (tRR q.L xs).ro.holds = (tRR q.L xs).holds := rfl
  have hLl := h1.lenU (u := tRR q.L xs) (s := q.L) (l := xs) (f := rxv) (n := 3) 2 rfl (rr_reads rfl)
  have h1 := h1.nil 143 2 shv
  refine ⟨fun out t mm w' => ∃ (k : Nat) (zs : List (Int × Int)), t = k ∧ k ≤ xs.length ∧ mm = xs.length - k ∧ zs.length ≤ k ∧ (zs.map (·.1)).Nodup ∧ (∀ s, mget zs s = shapeL a (a.all.take k) s) ∧ Hp [] w w' [(tBlk b 139 q.cells).ro, (tPool 176 q.p a.pool).ro, (tRR q.L xs).ro, tSl out 143 2 shv zs], ⟨xs.length, 0, [], rfl, by omega, rfl, by simp, by simp, fun s => by simp [shapeL, mget_nil], h1⟩, ?_⟩
  clear h1
  rintro out t mm w2 ⟨k, zs, rfl, hk, rfl, hzk, hznd, hzs, h1⟩
  have hol := h1.len (s := out) 3 rfl
  refine nns ?_
  refine h1.ld (n := 2) (k := .sl) (x := q.L) 0 rfl rfl ?_
  by_cases hlt : k < xs.length
  · refine ifT (by simp; omega) ?_
    have hx : xs[k]? = some xs[k] := by simp [hlt]
    have hxm : xs[k] ∈ xs := List.getElem_mem hlt
    have hrx : a.rows[k]? = some (rxw xs[k]) := by rw [← hxs, List.getElem?_map, hx]; rfl
    generalize xs[k] = x at hx hxm hrx
    obtain ⟨p, hpa, hp, hxp, hpf, hpr⟩ := rows_at hf (r := rxw x) (List.mem_of_getElem? hrx)
    have hxp : x.2.2.map pvis = partsOf p := hxp
    have hp : a.row x.1 = some p := hp
    have hae : a.all[k]? = some x.1 := by
      unfold WA.rows at hrx
      rw [List.getElem?_map] at hrx
      obtain ⟨e, he, h3⟩ := Option.map_eq_some_iff.1 hrx
      have : e = x.1 := (Prod.mk.inj h3).1
      rw [he, this]
    have hatk : a.all.take (k + 1) = a.all.take k ++ [x.1] := by
      rw [List.take_add_one, hae]; rfl
    obtain ⟨hp1, hp2⟩ := part_fit hf.1.len.2 hf.1.four hpf hpr
    refine nns ?_
    refine h1.ld (n := 2) (k := .sl) (x := q.L) 0 rfl rfl ?_
    refine h1.ixk (s := q.L) (l := xs) (f := rxv) (n := 3) 2 rfl (rr_reads hu) (by omega) (by rw [Int.toNat_natCast]; exact hlt) fun ad had => ?_
    rw [Int.toNat_natCast]
    refine h1.ldk (m := 2) (k := .sl) (v := x.2.1) 2 rfl (rr_reads hu) had rxv_len hx rfl ?_
    obtain ⟨O', hO'⟩ := h1.see (i := 2) rfl
    refine SetOf_spec (rr_rdp (u := (tRR q.L xs).ro) hu hxm hO') (by rw [hxp]; exact hp1) (fun y hy => by rw [hxp] at hy; exact (hp2 y hy).2.2) ?_
    rw [hxp, setSum_parts]
    have hstep := shapeL_step (L := a.all.take k) hp hzs
    rw [← hatk] at hstep
    generalize setI p = set at hstep
    refine ⟨fun k2 w' => ∃ r : Nat, k2 = r ∧ r ≤ zs.length ∧ (∀ (j : Nat) (hj : j < zs.length), j < r → (zs[j]).1 ≠ set) ∧ (∀ hr : r < zs.length, (zs[r]).1 = set) ∧ Hp [] w w' [(tBlk b 139 q.cells).ro, (tPool 176 q.p a.pool).ro, (tRR q.L xs).ro, tSl out 143 2 shv zs], ?_, ?_⟩
    · refine ⟨fun t mm w' => ∃ r : Nat, t = r ∧ r ≤ zs.length ∧ mm = zs.length - r ∧ (∀ (j : Nat) (hj : j < zs.length), j < r → (zs[j]).1 ≠ set) ∧ Hp [] w w' [(tBlk b 139 q.cells).ro, (tPool 176 q.p a.pool).ro, (tRR q.L xs).ro, tSl out 143 2 shv zs], ⟨zs.length, 0, rfl, by omega, rfl, fun j _ h => by omega, h1⟩, ?_⟩
      clear h1
      rintro t mm w3 ⟨r, rfl, hr, rfl, hno, h1⟩
      by_cases hrl : r < zs.length
      · refine ifT (by simp; omega) ?_
        have hz : zs[r]? = some zs[r] := by simp [hrl]
        refine h1.ixr (s := out) (l := zs) (f := shv) (n := 2) (e := 143) 3 rfl (by omega) (by rw [Int.toNat_natCast]; exact hz) shv_len fun ad2 hc2 => ?_
        refine ldR0 (k := .i .i64) (x := (zs[r]).1) (hc2 0 (by omega)) rfl ?_
        by_cases he : (zs[r]).1 = set
        · exact ifF (by simpa using he) ⟨r, rfl, hr, hno, fun _ => he, h1⟩
        · refine ifT (by simpa using he) ⟨zs.length - (r + 1), by omega, r + 1, by rw [wr64 (by omega) (by omega)]; omega, by omega, rfl, fun j hj hjr => ?_, h1⟩
          by_cases hj2 : j < r
          · exact hno j hj hj2
          · obtain rfl : j = r := by omega
            exact he
      · exact ifF (by simp; omega) ⟨r, rfl, hr, hno, fun h => absurd h hrl, h1⟩
    clear h1
    rintro k2 w3 ⟨r, rfl, hr, hno, hyes, h1⟩
    refine ⟨fun out3 w' => ∃ (zs3 : List (Int × Int)) (n : Nat), zs3[r]? = some (set, (n : Int)) ∧ zs3.set r (set, (n : Int) + 1) = mput zs set ((mget zs set).getD 0 + 1) ∧ n ≤ 200 ∧ Hp [] w w' [(tBlk b 139 q.cells).ro, (tPool 176 q.p a.pool).ro, (tRR q.L xs).ro, tSl out3 143 2 shv zs3], ?_, ?_⟩
    · by_cases hrl : r < zs.length
      · obtain ⟨e1, e2⟩ := mput_at (v := (mget zs set).getD 0 + 1) hrl hno (hyes hrl)
        have hn : ∃ n : Nat, (zs[r]).2 = n ∧ n ≤ 200 := by
          have := hzs set
          rw [e2] at this
          unfold shapeL at this
          split at this
          · cases this
          · have hle := List.length_filter_le (fun e => decide ((a.row e).map setI = some set)) (a.all.take k)
            rw [List.length_take] at hle
            exact ⟨_, Option.some.inj this, by omega⟩
        obtain ⟨n, hn1, hn2⟩ := hn
        have hz : zs[r]? = some (set, (n : Int)) := by rw [List.getElem?_eq_getElem hrl, ← hn1, ← hyes hrl]
        refine ifF (by simp; omega) ⟨zs, n, hz, ?_, hn2, h1⟩
        rw [e1, e2, Option.getD_some, hn1]
      · obtain rfl : r = zs.length := by omega
        obtain ⟨e1, e2⟩ := mput_out (v := (mget zs set).getD 0 + 1) (fun j hj => hno j hj hj)
        refine ifT (by simp; omega) ?_
        refine h1.nwapp 3 ((set, (0 : Int)) : Int × Int) (c := [_, _]) rfl shv_len und89 i1 i3 i2 rfl rfl (by simp [shv, Value.oneCell']) (by rw [i4]; omega) (by omega) fun out2 w4 h1 _ _ => ?_
        exact ⟨zs ++ [(set, 0)], 0, by simp, by rw [e1, e2]; simp, by omega, h1⟩
    clear h1
    rintro out3 w4 ⟨zs3, n, hz, hset, hn, h1⟩
    refine h1.ixr (s := out3) (l := zs3) (f := shv) (n := 2) (e := 143) 3 rfl (by omega) (by rw [Int.toNat_natCast]; exact hz) shv_len fun ad2 hc2 => ?_
    refine ldR (k := .i .i64) (x := (n : Int)) (hc2 1 (by omega)) rfl ?_
    have hwn : IntKind.i64.wrap ((n : Int) + 1) = (n : Int) + 1 := wr64 (by omega) (by omega)
    rw [hwn]
    refine h1.ixstm 3 (y := ((set, (n : Int)) : Int × Int)) (y' := (set, (n : Int) + 1)) (m := 1) rfl (by omega) (by rw [Int.toNat_natCast]; exact hz) shv_len (by omega) rfl rfl fun w5 h1 => ?_
    rw [Int.toNat_natCast, hset] at h1
    have hml : (mput zs set ((mget zs set).getD 0 + 1)).length ≤ zs.length + 1 := by
      rw [← hset, List.length_set]
      by_cases hrl : r < zs.length
      · obtain ⟨e1, e2⟩ := mput_at (v := (mget zs set).getD 0 + 1) hrl hno (hyes hrl)
        have := congrArg List.length hset
        rw [e1, List.length_set, List.length_set] at this
        omega
      · obtain rfl : r = zs.length := by omega
        obtain ⟨e1, e2⟩ := mput_out (v := (mget zs set).getD 0 + 1) (fun j hj => hno j hj hj)
        have := congrArg List.length hset
        rw [e1, List.length_set, List.length_append] at this
        simp at this
        omega
    refine ⟨xs.length - (k + 1), by omega, k + 1, mput zs set ((mget zs set).getD 0 + 1), by rw [wr64 (by omega) (by omega)]; omega, by omega, rfl, by omega, mput_keys _ _ _ hznd, fun s => ?_, h1⟩
    rw [mget_put, hstep]
  · refine ifF (by simp; omega) ?_
    have hsh : ∀ s, a.shape s = mget zs s := fun s => by
      rw [hzs, List.take_of_length_le (by omega)]
      rfl
    exact hK out zs w2 hznd hsh (by omega) (h.r0 (rest := [tSl out 143 2 shv zs]) rfl (h1.selL [3] (by decide) rfl))

end
end Go.Proofs.Ytcccjgmekakabaa.FW
end

section
set_option linter.unusedSimpArgs false
set_option linter.unusedVariables false
set_option maxRecDepth 100000
namespace Go.Proofs.Ytcccjgmekakabaa.FW
open Go.Proofs.Ytcccjgmekakabaa.F
open Go Go.Den Go.Proofs
open Go.Proofs.Ytcccjgmekakabaa.FI (PoolM tPool)
open Go.Proofs.Ytcccjgmekakabaa.FT (TabM tTab Ent entV ent ent_len atI keyEnt iv iv_len)
open Go.Proofs.Ytcccjgmekakabaa.FP (R64 tB putU zig rowU encZ putU_len encZ_len)
section
variable {S : List Nat} {w0 w : World} {its : List Thing}
set_option maxHeartbeats 2000000 in
theorem Head_spec (h : Hp S w0 w its) (i j : Nat) {b : Nat} {q : RH} {m : PoolM} (hm : m.Ok2) (hi : (its[i]?).map Thing.holds = some (tBlk b 139 q.cells).holds) (hj : (its[j]?).map Thing.holds = some (tPool 176 q.p m).holds) {K : Sl → World → Prop}
    (hK : ∀ s w', Hp S w0 w' (its ++ [tB s (rowU m.stGens ++ rowU m.free)]) → K s w') : c78 (some ⟨b, 0, none⟩) w K := by
  refine c78_of ?_
  unfold f78
  obtain ⟨g1, g2, g3, g4⟩ := stGens_rng hm.toOk
  have r1 := rowU_len m.stGens
  have r2 := rowU_len m.free
  have get : ∀ {l : List Thing} (k : Nat), (its ++ l)[its.length + k]? = l[k]? := fun {l} k => by rw [List.getElem?_append_right (by omega)]; simp
  refine nns ?_
  refine h.ld (n := 1) (k := .p) (x := some ⟨q.p, 0, none⟩) i hi rfl ?_
  refine FI.RState_h h j hm hj fun g f w1 h => ?_
  refine Rlongs_spec h (its.length + 0) (u := tSl g 3 1 iv m.stGens) (by rw [get]; rfl) Hp.rdSl (by omega) fun r w2 h => ?_
  rw [List.append_assoc] at h
  refine FP.RPutRow_spec h (its.length + 0) (its.length + 2) (u := tSl g 3 1 iv m.stGens) (b := ⟨none, 0, 0⟩) (bs := []) (by rw [get]; rfl) rd_nil (u' := tSl r 2 1 iv m.stGens) (l := m.stGens) (by rw [get]; rfl) Hp.rdSl g1 (by omega) (by simp) fun s w3 h => ?_
  rw [List.append_assoc] at h
  refine Rlongs_spec h (its.length + 1) (u := tSl f 3 1 iv m.free) (by rw [get]; rfl) Hp.rdSl (by omega) fun r2' w4 h => ?_
  rw [List.append_assoc] at h
  refine FP.RPutRow_spec h (its.length + 3) (its.length + 4) (u := tB s ([] ++ rowU m.stGens)) (bs := rowU m.stGens) (by rw [get]; rfl) Hp.rdSl (u' := tSl r2' 2 1 iv m.free) (l := m.free) (by rw [get]; rfl) Hp.rdSl g3 (by omega) (by omega) fun s2 w5 h => ?_
  have h : Hp S w0 w5 (its ++ [tSl g 3 1 iv m.stGens, tSl f 3 1 iv m.free, tSl r 2 1 iv m.stGens, tB s ([] ++ rowU m.stGens), tSl r2' 2 1 iv m.free] ++ [tB s2 (rowU m.stGens ++ rowU m.free)]) := by
    simp only [List.append_assoc, List.cons_append, List.nil_append] at h ⊢
    exact h
  exact hK s2 w5 h.dropMid

def accR (l : List RowT) : List Int := l.flatMap fun r => putU (setSum r.2) ++ r.2.flatMap fun y => encZ y.2

theorem accR_app (l m : List RowT) : accR (l ++ m) = accR l ++ accR m := by unfold accR; rw [List.flatMap_append]

def accP (l : List Part) : List Int := l.flatMap fun y => encZ y.2

theorem accP_app (l m : List Part) : accP (l ++ m) = accP l ++ accP m := by unfold accP; rw [List.flatMap_append]

theorem accP_len {l : List Part} (h : ∀ y ∈ l, y.2.length ≤ 4) : (accP l).length ≤ 40 * l.length := by
  induction l with
  | nil => simp [accP]
  | cons y l ih =>
    have := ih (fun z hz => h z (by simp [hz]))
    have h1 := h y (by simp)
    have h2 := encZ_len y.2
    have e : accP (y :: l) = encZ y.2 ++ accP l := by simp [accP]
    rw [e, List.length_append, List.length_cons]
    omega

theorem accR_len {l : List RowT} (h : ∀ r ∈ l, r.2.length ≤ 12 ∧ ∀ y ∈ r.2, y.2.length ≤ 4) : (accR l).length ≤ 490 * l.length := by
  induction l with
  | nil => simp [accR]
  | cons r l ih =>
    have := ih (fun z hz => h z (by simp [hz]))
    obtain ⟨h1, h2⟩ := h r (by simp)
    have h3 := accP_len h2
    have h4 := putU_len (setSum r.2)
    have e : accR (r :: l) = (putU (setSum r.2) ++ accP r.2) ++ accR l := by simp [accR, accP]
    rw [e, List.length_append, List.length_append, List.length_cons]
    omega

theorem acc_all {a : WA} (hf : a.fits) : accR a.rows = a.all.flatMap fun e => snapRow ((a.row e).getD []) := by
  unfold accR WA.rows
  rw [List.flatMap_map]
  have key : ∀ L : List Ent, (∀ e ∈ L, e ∈ a.all) → (L.flatMap fun e => putU (setSum (a.rowT e).2) ++ (a.rowT e).2.flatMap fun y => encZ y.2) = L.flatMap fun e => snapRow ((a.row e).getD []) := by
    intro L
    induction L with
    | nil => simp
    | cons e L ih =>
      intro hL
      obtain ⟨p, hp⟩ := all_lives hf.1 (hL e (by simp))
      rw [List.flatMap_cons, List.flatMap_cons, ih (fun x hx => hL x (by simp [hx]))]
      congr 1
      have e1 : (a.rowT e).2 = partsOf p := by unfold WA.rowT; rw [hp]; rfl
      rw [e1, setSum_parts, enc_parts, hp]
      rfl
  exact key a.all (fun e he => he)

set_option maxHeartbeats 4000000 in
theorem RSnapshot_W (h : Hp S w0 w its) (i : Nat) {b : Nat} {a : WA} (hi : (its[i]?).map Thing.holds = some (tRW b a).holds) {K : Sl → World → Prop}
    (hK : ∀ s w', Hp S w0 w' (its ++ [tB s a.snap]) → K s w') : c37 (some ⟨b, 0, none⟩) w K := by
  refine c37_of ?_
  unfold f37
  obtain ⟨q, xs, hf, hxs, h1⟩ := RW_read h i hi
  have hal := all_few hf.1
  have hrl : xs.length = a.all.length := by
    have := congrArg List.length hxs
    rw [List.length_map] at this
    unfold WA.rows at this
    rw [List.length_map] at this
    exact this
  have hu : (tRR q.L xs).ro.holds = (tRR q.L xs).holds := rfl
  have hLl := h1.lenU (u := tRR q.L xs) (s := q.L) (l := xs) (f := rxv) (n := 3) 2 rfl (rr_reads rfl)
  have hfits : ∀ r ∈ a.rows, (r.2.length ≤ 12 ∧ ∀ y ∈ r.2, y.2.length ≤ 4) := fun r hr => by
    obtain ⟨p, hpa, hp, hxp, hpf, hpr⟩ := rows_at hf hr
    obtain ⟨hp1, hp2⟩ := part_fit hf.1.len.2 hf.1.four hpf hpr
    rw [hxp]
    exact ⟨hp1, fun y hy => (hp2 y hy).1⟩
  refine Head_spec h1 0 1 (m := a.pool) hf.1.pok2 rfl rfl fun s1 w1 h1 => ?_
  have hhd : (rowU a.pool.stGens ++ rowU a.pool.free).length ≤ 10000 := by
    obtain ⟨g1, g2, g3, g4⟩ := stGens_rng hf.1.pok
    have r1 := rowU_len a.pool.stGens
    have r2 := rowU_len a.pool.free
    rw [List.length_append]; omega
  have hsn : a.snap = rowU a.pool.stGens ++ rowU a.pool.free ++ accR a.rows := by rw [acc_all hf]; rfl
  rw [hsn] at hK
  generalize rowU a.pool.stGens ++ rowU a.pool.free = hd at h1 hhd hK
  refine ⟨fun s t mm w' => ∃ k : Nat, t = k ∧ k ≤ xs.length ∧ mm = xs.length - k ∧ Hp [] w w' [(tBlk b 139 q.cells).ro, (tPool 176 q.p a.pool).ro, (tRR q.L xs).ro, tB s (hd ++ accR (a.rows.take k))], ⟨xs.length, 0, rfl, by omega, rfl, by simpa [accR] using h1⟩, ?_⟩
  clear h1
  rintro s t mm w2 ⟨k, rfl, hk, rfl, h1⟩
  refine nns ?_
  refine h1.ld (n := 2) (k := .sl) (x := q.L) 0 rfl rfl ?_
  by_cases hlt : k < xs.length
  · refine ifT (by simp; omega) ?_
    have hx : xs[k]? = some xs[k] := by simp [hlt]
    have hxm : xs[k] ∈ xs := List.getElem_mem hlt
    have hrx : a.rows[k]? = some (rxw xs[k]) := by rw [← hxs, List.getElem?_map, hx]; rfl
    generalize xs[k] = x at hx hxm hrx
    obtain ⟨p, hpa, hp, hxp, hpf, hpr⟩ := rows_at hf (r := rxw x) (List.mem_of_getElem? hrx)
    have hxp : x.2.2.map pvis = partsOf p := hxp
    have hrtk : a.rows.take (k + 1) = a.rows.take k ++ [rxw x] := by rw [List.take_add_one, hrx]; rfl
    obtain ⟨hp1, hp2⟩ := part_fit hf.1.len.2 hf.1.four hpf hpr
    have hacc := accR_len (l := a.rows.take k) (fun r hr => hfits r (List.mem_of_mem_take hr))
    rw [List.length_take] at hacc
    refine nns ?_
    refine h1.ld (n := 2) (k := .sl) (x := q.L) 0 rfl rfl ?_
    refine h1.ixk (s := q.L) (l := xs) (f := rxv) (n := 3) 2 rfl (rr_reads hu) (by omega) (by rw [Int.toNat_natCast]; exact hlt) fun ad had => ?_
    rw [Int.toNat_natCast]
    refine h1.ldk (m := 2) (k := .sl) (v := x.2.1) 2 rfl (rr_reads hu) had rxv_len hx rfl ?_
    obtain ⟨O', hO'⟩ := h1.see (i := 2) rfl
    refine SetOf_spec (rr_rdp (u := (tRR q.L xs).ro) hu hxm hO') (by rw [hxp]; exact hp1) (fun y hy => by rw [hxp] at hy; exact (hp2 y hy).2.2) ?_
    have hs0 := setI_nn p
    have hs1 := setI_lt (p := p) (by rw [hpf.1]; exact hf.1.len.2)
    have e0 : setSum (x.2.2.map pvis) = setI p := by rw [hxp, setSum_parts]
    have e1 : IntKind.u64.wrap (setSum (x.2.2.map pvis)) = setI p := by rw [e0, FP.w64]; omega
    rw [e1]
    refine FP.RPut_spec h1 3 (u := tB s (hd ++ accR (a.rows.take k))) (l := hd ++ accR (a.rows.take k)) rfl Hp.rdSl hs0 (by omega) (by rw [List.length_append]; omega) fun s2 w3 h1 => ?_
    have h1 : Hp [] w w3 [(tBlk b 139 q.cells).ro, (tPool 176 q.p a.pool).ro, (tRR q.L xs).ro, tB s2 (hd ++ accR (a.rows.take k) ++ putU (setI p))] := h1.selL [0, 1, 2, 4] (by decide) rfl
    have hput := putU_len (setI p)
    have hpre : (hd ++ accR (a.rows.take k) ++ putU (setI p)).length ≤ 200000 := by rw [List.length_append, List.length_append]; omega
    have hfin : hd ++ accR (a.rows.take k) ++ putU (setI p) ++ accP (x.2.2.map pvis) = hd ++ accR (a.rows.take (k + 1)) := by
      rw [hrtk, accR_app]
      have : accR [rxw x] = putU (setI p) ++ accP (x.2.2.map pvis) := by
        rw [← e0]; simp [accR, accP, rxw]
      rw [this]; simp
    generalize hd ++ accR (a.rows.take k) ++ putU (setI p) = pre at h1 hpre hfin
    have hpsl := h1.lenU (s := x.2.1) (l := x.2.2) (f := pdv) (n := 2) (u := (tRR q.L xs).ro) 2 rfl (rr_readsP hu hxm)
    have hyl : x.2.2.length ≤ 12 := by rw [← hxp, List.length_map] at hp1; exact hp1
    have hy4 : ∀ y ∈ x.2.2, y.2.2.length ≤ 4 ∧ R64 y.2.2 := fun y hy => by
      have := hp2 (pvis y) (by rw [← hxp]; exact List.mem_map_of_mem hy)
      exact ⟨this.1, this.2.1⟩
    refine ⟨fun s t mm w' => ∃ j : Nat, t = j ∧ j ≤ x.2.2.length ∧ mm = x.2.2.length - j ∧ Hp [] w w' [(tBlk b 139 q.cells).ro, (tPool 176 q.p a.pool).ro, (tRR q.L xs).ro, tB s (pre ++ accP ((x.2.2.map pvis).take j))], ⟨x.2.2.length, 0, rfl, by omega, rfl, by simpa [accP] using h1⟩, ?_⟩
    clear h1
    rintro s3 t mm w4 ⟨j, rfl, hj, rfl, h1⟩
    by_cases hjl : j < x.2.2.length
    · refine ifT (by simp; omega) ?_
      have hy : x.2.2[j]? = some x.2.2[j] := by simp [hjl]
      have hym : x.2.2[j] ∈ x.2.2 := List.getElem_mem hjl
      have htk : (x.2.2.map pvis).take (j + 1) = (x.2.2.map pvis).take j ++ [pvis x.2.2[j]] := by
        rw [List.take_succ_eq_append_getElem (by simpa using hjl)]; simp
      generalize x.2.2[j] = y at hy hym htk
      obtain ⟨hv4, hvr⟩ := hy4 y hym
      have hal2 := accP_len (l := (x.2.2.map pvis).take j) (fun z hz => by
        obtain ⟨z', hz', rfl⟩ := List.mem_map.1 (List.mem_of_mem_take hz)
        exact (hy4 z' hz').1)
      rw [List.length_take] at hal2
      have hvl := h1.lenU (s := y.2.1) (l := y.2.2) (f := iv) (n := 1) (u := (tRR q.L xs).ro) 2 rfl (rr_readsV hu hxm hym)
      refine ⟨fun s t mm w' => ∃ r : Nat, t = r ∧ r ≤ y.2.2.length ∧ mm = y.2.2.length - r ∧ Hp [] w w' [(tBlk b 139 q.cells).ro, (tPool 176 q.p a.pool).ro, (tRR q.L xs).ro, tB s (pre ++ accP ((x.2.2.map pvis).take j) ++ encZ (y.2.2.take r))], ⟨y.2.2.length, 0, rfl, by omega, rfl, by simpa [encZ] using h1⟩, ?_⟩
      clear h1
      rintro s4 t mm w5 ⟨r, rfl, hr, rfl, h1⟩
      have rdy : ∀ {K : Sl → Prop}, K y.2.1 → Ix x.2.1.a x.2.1.len ((j : Nat) : Int) 2 fun (a2 : Addr) => Ld .sl w5 (a2.add 1) K := fun {K} hK => by
        refine h1.ixk (s := x.2.1) (l := x.2.2) (f := pdv) (n := 2) (u := (tRR q.L xs).ro) 2 rfl (rr_readsP hu hxm) (by omega) (by rw [Int.toNat_natCast]; exact hjl) fun ad had => ?_
        rw [Int.toNat_natCast]
        exact h1.ldk (m := 1) (k := .sl) (v := y.2.1) (u := (tRR q.L xs).ro) 2 rfl (rr_readsP hu hxm) had pdv_len hy rfl hK
      refine rdy ?_
      by_cases hrl2 : r < y.2.2.length
      · refine ifT (by simp; omega) (rdy ?_)
        have hz : y.2.2[r]? = some y.2.2[r] := by simp [hrl2]
        have hzr := hvr _ (List.getElem_mem hrl2)
        have hsz : encZ (y.2.2.take (r + 1)) = encZ (y.2.2.take r) ++ putU (zig y.2.2[r]) := by
          unfold encZ
          rw [List.take_succ_eq_append_getElem hrl2, List.flatMap_append]; simp
        have hel := encZ_len (y.2.2.take r)
        rw [List.length_take] at hel
        generalize y.2.2[r] = z at hz hzr hsz
        refine h1.ixldU (k := .i .i64) (u := (tRR q.L xs).ro) (y := z) (x := z) 2 rfl (rr_readsV hu hxm hym) (by omega) (by rw [Int.toNat_natCast]; exact hz) iv_len rfl ?_
        refine FP.RPutInt_spec h1 3 rfl Hp.rdSl hzr.1 hzr.2 (by rw [List.length_append, List.length_append]; omega) fun s5 w6 h1 => ?_
        have h1 : Hp [] w w6 [(tBlk b 139 q.cells).ro, (tPool 176 q.p a.pool).ro, (tRR q.L xs).ro, tB s5 (pre ++ accP ((x.2.2.map pvis).take j) ++ encZ (y.2.2.take r) ++ putU (zig z))] := h1.selL [0, 1, 2, 4] (by decide) rfl
        refine ⟨y.2.2.length - (r + 1), by omega, r + 1, by rw [wr64 (by omega) (by omega)]; omega, by omega, rfl, ?_⟩
        rw [hsz, ← List.append_assoc]
        exact h1
      · refine ifF (by simp; omega) ⟨x.2.2.length - (j + 1), by omega, j + 1, by rw [wr64 (by omega) (by omega)]; omega, by omega, rfl, ?_⟩
        rw [List.take_of_length_le (l := y.2.2) (by omega)] at h1
        rw [htk, accP_app]
        have : accP [pvis y] = encZ y.2.2 := by simp [accP, pvis]
        rw [this, ← List.append_assoc]
        exact h1
    · refine ifF (by simp; omega) ⟨xs.length - (k + 1), by omega, k + 1, by rw [wr64 (by omega) (by omega)]; omega, by omega, rfl, ?_⟩
      rw [List.take_of_length_le (by simp; omega), hfin] at h1
      exact h1
  · refine ifF (by simp; omega) ?_
    have hrl2 : a.rows.length = xs.length := by rw [← hxs, List.length_map]
    rw [List.take_of_length_le (by omega)] at h1
    exact hK s w2 (h.r0 (rest := [tB s (hd ++ accR a.rows)]) rfl (h1.selL [3] (by decide) rfl))

end
end Go.Proofs.Ytcccjgmekakabaa.FW
end

section
set_option linter.unusedSimpArgs false
set_option linter.unusedVariables false
set_option maxRecDepth 100000
namespace Go.Proofs.Ytcccjgmekakabaa.FW
open Go.Proofs.Ytcccjgmekakabaa.F
open Go Go.Den Go.Proofs
open Go.Proofs.Ytcccjgmekakabaa.FT (iv iv_len)
section
variable {S : List Nat} {w0 w : World} {its : List Thing}
/-- What was grown goes to what is not written any more. -/
theorem old_more {n : Nat} {g : Int → List Value} {D : List LM} {l c : Sl} {m : Int} {p r : Nat} (h : Hp S w0 w its) {i j : Nat} (hne : i ≠ j) (hi : its[i]? = some (tOld n g D)) (hj : its[j]? = some (tShare (tRd l n g (List.replicate p m)) (tRd c n g (List.replicate r m)))) (hp : l.len = p) (hr : c.len = r) :
    Hp S w0 w ((its.set i (tOld n g (D ++ [(l, m), (c, m)]))).set j tEmp) :=
  h.join (c := tOld n g (D ++ [(l, m), (c, m)])) hne hi hj rfl rfl rfl (fun w O1 O2 q1 q2 q3 => by
    obtain ⟨O3, O4, r1, r2, r3⟩ := q2
    refine ⟨fun k hk => ?_, fun x hx => ?_⟩
    · rcases List.mem_append.1 hk with hk | hk
      · exact q1.1 k hk
      · rcases (r3 k).1 hk with hk | hk
        · exact (tRd l n g (List.replicate p m)).lt r1 k hk
        · exact (tRd c n g (List.replicate r m)).lt r2 k hk
    · rcases List.mem_append.1 hx with hx | hx
      · exact (q1.2 x hx).mono fun k hk => List.mem_append_left _ hk
      · simp only [List.mem_cons, List.not_mem_nil, or_false] at hx
        rcases hx with rfl | rfl
        · exact ⟨O3, by rw [hp]; exact r1, fun k hk => List.mem_append_right _ ((r3 k).2 (.inl hk))⟩
        · exact ⟨O4, by rw [hr]; exact r2, fun k hk => List.mem_append_right _ ((r3 k).2 (.inr hk))⟩)

theorem old_less {n : Nat} {g : Int → List Value} {D D' : List LM} (h : Hp S w0 w its) {i : Nat} (hi : its[i]? = some (tOld n g D)) (hd : ∀ x ∈ D', x ∈ D) : Hp S w0 w (its.set i (tOld n g D')) :=
  h.weak hi rfl (fun w O hO => ⟨hO.1, fun x hx => hO.2 x (hd x hx)⟩) rfl

/-- Where the lists of a shelf stand while it is grown. -/
structure GS (n : Nat) (old new G D : List LM) (ts us : List Thing) (k : Nat) : Prop where
  hk : k ≤ new.length
  g : G.length = k
  d : ∀ x ∈ old ++ new.take k ++ G, x ∈ D
  t : ts.drop k = us.drop k
  l : ∀ x ∈ G, x.1.len ≤ 20000

set_option maxHeartbeats 16000000 in
theorem grows_spec (h : Hp S w0 w its) (i : Nat) {bp : Nat} {p : PC} {N M : Nat} (hi : its[i]? = some (tBook bp p N M)) (hN : N + 2 * M ≤ 1000000000)
    {K : World → Prop} (hK : ∀ w', Hp S w0 w' (its.set i (tBook bp p (N + 2 * M) 0)) → K w') : c41 (some ⟨bp, 6, none⟩) w K := by
  refine c41_of ?_
  unfold f41
  obtain ⟨infV, a1, a2, a3, a4⟩ := inf38
  obtain ⟨infP', b1, b2, b3, b4⟩ := inf36
  obtain ⟨infR, d1, d2, d3, d4⟩ := inf56
  obtain ⟨infI, i1, i2, i3, i4⟩ := FT.inf3
  obtain ⟨infJ, j1, j2, j3, j4⟩ := inf2
  obtain ⟨infE1, e1, e2, e3, e4⟩ := inf40
  obtain ⟨infE2, u1, u2, u3, u4⟩ := inf65
  obtain ⟨O, h1, back⟩ := h.f1 hi rfl
  clear h
  have h := h1
  clear h1
  obtain ⟨⟨⟨vV, xV, oldV, newV⟩, ⟨vP, xP, oldP, newP⟩, ⟨vR, xR, oldR, newR⟩⟩, ⟨⟨fV1, fV2, fV3, fV4⟩, ⟨fP1, fP2, fP3, fP4⟩, ⟨fR1, fR2, fR3, fR4⟩⟩, h⟩ := book_open h (i := 0) rfl
  dsimp only at fV1 fV2 fV3 fV4 fP1 fP2 fP3 fP4 fR1 fR2 fR3 fR4
  -- phase V
  have h := shelf_open h (i := 1) rfl
  have h : Hp O w w [tBlk bp 88 (BK.cells ⟨⟨vV, xV, oldV, newV⟩, ⟨vP, xP, oldP, newP⟩, ⟨vR, xR, oldR, newR⟩⟩ p), tSl vV 38 1 slm (oldV ++ newV), tShP ⟨vP, xP, oldP, newP⟩, tShR ⟨vR, xR, oldR, newR⟩, tSl xV 2 1 mkm (oldV ++ newV), tOld 1 iv oldV, tAll (newV.map (pend 2 1 iv))] := h
  have hvl := h.len (s := vV) 1 rfl
  have hxl := h.len (s := xV) 4 rfl
  rw [List.length_append] at hvl hxl
  refine nns ?_
  refine h.ldv (k := .sl) (x := vV) 0 rfl rfl ?_
  refine nns ?_
  refine h.lda (n := 6) (m := 6) (k := .i .i64) (x := (oldV.length : Nat)) 0 rfl rfl ?_
  refine ⟨fun t mm w' => ∃ (k : Nat) (v x : Sl) (G D : List LM) (ts : List Thing), t = ((oldV.length + k : Nat) : Int) ∧ GS 1 oldV newV G D ts (newV.map (pend 2 1 iv)) k ∧ mm = newV.length - k ∧ Hp O w w' [tBlk bp 88 (BK.cells ⟨⟨v, x, oldV, newV⟩, ⟨vP, xP, oldP, newP⟩, ⟨vR, xR, oldR, newR⟩⟩ p), tSl v 38 1 slm (oldV ++ newV ++ G), tShP ⟨vP, xP, oldP, newP⟩, tShR ⟨vR, xR, oldR, newR⟩, tSl x 2 1 mkm (oldV ++ newV ++ G), tOld 1 iv D, tAll ts],
    ⟨newV.length, 0, vV, xV, [], oldV, newV.map (pend 2 1 iv), rfl, ⟨by omega, rfl, by simp, rfl, by simp⟩, rfl, by rw [List.append_nil]; exact h⟩, ?_⟩
  clear h
  rintro t mm w2 ⟨k, v, x, G, D, ts, rfl, hg, rfl, h⟩
  by_cases hlt : k < newV.length
  · refine ifT (by simp; omega) ?_
    have hgk := hg.g
    have hvl2 := h.len (s := v) 1 rfl
    have hxl2 := h.len (s := x) 4 rfl
    rw [List.length_append, List.length_append] at hvl2 hxl2
    have hx : (oldV ++ newV ++ G)[oldV.length + k]? = some newV[k] := by
      rw [List.getElem?_append_left (by rw [List.length_append]; omega), List.getElem?_append_right (by omega), Nat.add_sub_cancel_left]; simp [hlt]
    have ht : ts[k]? = some (pend 2 1 iv newV[k]) := by
      have e := congrArg (fun L => L[0]?) hg.t
      simpa [hlt] using e
    have hnl := fV4 _ (List.getElem_mem hlt)
    have htk : newV.take (k + 1) = newV.take k ++ [newV[k]] := by rw [List.take_add_one]; simp [hlt]
    generalize newV[k] = y at hx ht hnl htk
    obtain ⟨l, m⟩ := y
    dsimp only at hnl
    refine nns ?_
    refine h.ldv (k := .sl) (x := v) 0 rfl rfl ?_
    refine h.ixld (k := .sl) (y := ((l, m) : LM)) (x := l) 1 rfl (by omega) (by rw [Int.toNat_natCast]; exact hx) slm_len rfl ?_
    have h := h.pick (i := 6) (k := k) rfl ht rfl
    have h := h.lc_start (j := 7) (l := l) (e := 2) (n := 1) (f := iv) (y := m) (p := l.len) rfl
    have h : Hp O w w2 [tBlk bp 88 (BK.cells ⟨⟨v, x, oldV, newV⟩, ⟨vP, xP, oldP, newP⟩, ⟨vR, xR, oldR, newR⟩⟩ p), tSl v 38 1 slm (oldV ++ newV ++ G), tShP ⟨vP, xP, oldP, newP⟩, tShR ⟨vR, xR, oldR, newR⟩, tSl x 2 1 mkm (oldV ++ newV ++ G), tOld 1 iv D, tAll (ts.set k tEmp), tLC 2 1 iv l l m l.len l.len] := h
    refine ⟨fun l2 t mm w' => ∃ q : Nat, t = q ∧ q ≤ 70 ∧ mm + q = 70 ∧ Hp O w w' [tBlk bp 88 (BK.cells ⟨⟨v, x, oldV, newV⟩, ⟨vP, xP, oldP, newP⟩, ⟨vR, xR, oldR, newR⟩⟩ p), tSl v 38 1 slm (oldV ++ newV ++ G), tShP ⟨vP, xP, oldP, newP⟩, tShR ⟨vR, xR, oldR, newR⟩, tSl x 2 1 mkm (oldV ++ newV ++ G), tOld 1 iv D, tAll (ts.set k tEmp), tLC 2 1 iv l l2 m l.len (l.len + q)], ⟨70, 0, rfl, by omega, by omega, h⟩, ?_⟩
    clear h
    rintro l2 t mm w3 ⟨q, rfl, hq, hmm, h⟩
    have fin : NN (some ⟨bp, 6, none⟩) fun (b_6 : Addr) => 
  Ld .sl w3 b_6 fun (v3 : Sl) =>
  Nw (.cells #[.slice l2.a l2.len l2.cap] 38) w3 fun (b3 : Addr) (wz : World) =>
  Run .sl Try.prog (Builtin.append_ #[82, 82] 82 #[.slice v3.a v3.len v3.cap, .slice (some b3) 1 1]) wz fun (s : Sl) (wz : World) =>
  NN (some ⟨bp, 6, none⟩) fun (b_7 : Addr) =>
  St b_7 (.slice s.a s.len s.cap) wz fun (wz : World) =>
  Dr wz fun (wz : World) =>
  NN (some ⟨bp, 6, none⟩) fun (b_8 : Addr) =>
  Ld .sl wz (b_8.add 3) fun (x3 : Sl) =>
  NN (some ⟨bp, 6, none⟩) fun (b_9 : Addr) =>
  Ld .sl wz (b_9.add 3) fun (x4 : Sl) =>
  Ix x4.a x4.len ((oldV.length + k : Nat) : Int) 1 fun (a3 : Addr) =>
  Ld (.i .i64) wz a3 fun (x5 : Int) =>
  Nw (.cells #[.int .i64 x5] 2) wz fun (b4 : Addr) (wz : World) =>
  Run .sl Try.prog (Builtin.append_ #[38, 38] 38 #[.slice x3.a x3.len x3.cap, .slice (some b4) 1 1]) wz fun (s2 : Sl) (wz : World) =>
  NN (some ⟨bp, 6, none⟩) fun (b_10 : Addr) =>
  St (b_10.add 3) (.slice s2.a s2.len s2.cap) wz fun (wz : World) =>
  ∃ m2 : Nat, m2 < newV.length - k ∧ ∃ (k' : Nat) (v x : Sl) (G D : List LM) (ts : List Thing), IntKind.i64.wrap (((oldV.length + k : Nat) : Int) + 1) = ((oldV.length + k' : Nat) : Int) ∧ GS 1 oldV newV G D ts (newV.map (pend 2 1 iv)) k' ∧ m2 = newV.length - k' ∧ Hp O w wz [tBlk bp 88 (BK.cells ⟨⟨v, x, oldV, newV⟩, ⟨vP, xP, oldP, newP⟩, ⟨vR, xR, oldR, newR⟩⟩ p), tSl v 38 1 slm (oldV ++ newV ++ G), tShP ⟨vP, xP, oldP, newP⟩, tShR ⟨vR, xR, oldR, newR⟩, tSl x 2 1 mkm (oldV ++ newV ++ G), tOld 1 iv D, tAll ts] := by
      have hcl := (h.lc_len (e := 2) (n := 1) (f := iv) (l := l) (c := l2) (y := m) (p := l.len) (m := l.len + q) 7 rfl).1
      have h := h.lc_done (j := 7) (e := 2) (n := 1) (f := iv) (l := l) (c := l2) (y := m) (p := l.len) (m := l.len + q) rfl
      have h := old_more h (i := 5) (j := 7) (by decide) rfl rfl rfl hcl
      refine nns ?_
      refine h.ldv (k := .sl) (x := v) 0 rfl rfl ?_
      refine h.nwapp 1 ((l2, m) : LM) (c := [_]) rfl slm_len und82 a1 a3 a2 rfl rfl (by simp [Value.oneCell']) (by rw [a4]; omega) (by omega) fun s wa h hs _ => ?_
      refine nns ?_
      refine h.stv 0 rfl (by simp) rfl fun wb h => ?_
      refine h.dr fun wc h => ?_
      refine nns ?_
      refine h.lda (n := 6) (m := 3) (k := .sl) (x := x) 0 rfl rfl ?_
      refine nns ?_
      refine h.lda (n := 6) (m := 3) (k := .sl) (x := x) 0 rfl rfl ?_
      refine h.ixld (k := .i .i64) (y := ((l, m) : LM)) (x := m) 4 rfl (by omega) (by rw [Int.toNat_natCast]; exact hx) mkm_len rfl ?_
      refine h.nwapp 4 ((l2, m) : LM) (c := [_]) rfl mkm_len und38 j1 j3 j2 rfl rfl (by simp [Value.oneCell']) (by rw [j4]; omega) (by omega) fun s2 wd h hs2 _ => ?_
      refine nns ?_
      refine h.stq (m := 3) 0 rfl (by simp) rfl fun we h => ?_
      rw [List.append_assoc (oldV ++ newV) G] at h
      have h : Hp O w we [tBlk bp 88 (BK.cells ⟨⟨s, s2, oldV, newV⟩, ⟨vP, xP, oldP, newP⟩, ⟨vR, xR, oldR, newR⟩⟩ p), tSl s 38 1 slm (oldV ++ newV ++ (G ++ [(l2, m)])), tShP ⟨vP, xP, oldP, newP⟩, tShR ⟨vR, xR, oldR, newR⟩, tSl s2 2 1 mkm (oldV ++ newV ++ (G ++ [(l2, m)])), tOld 1 iv (D ++ [(l, m), (l2, m)]), tAll (ts.set k tEmp)] := h.trim 7
      refine ⟨newV.length - (k + 1), by omega, k + 1, s, s2, G ++ [(l2, m)], D ++ [(l, m), (l2, m)], ts.set k tEmp, by rw [wr64 (by omega) (by omega)]; omega, ⟨by omega, by simp [hgk], fun y hy => ?_, by
        rw [List.drop_set_of_lt (by omega), ← List.drop_drop, hg.t, List.drop_drop], fun y hy => ?_⟩, rfl, h⟩
      · rw [htk] at hy
        simp only [List.mem_append, List.mem_cons, List.not_mem_nil, or_false] at hy ⊢
        have := hg.d y
        simp only [List.mem_append] at this
        rcases hy with (hy | hy | hy) | hy | hy
        · exact .inl (this (.inl (.inl hy)))
        · exact .inl (this (.inl (.inr hy)))
        · exact .inr (.inl hy)
        · exact .inl (this (.inr hy))
        · exact .inr (.inr hy)
      · rcases List.mem_append.1 hy with hy | hy
        · exact hg.l y hy
        · simp only [List.mem_singleton] at hy
          subst hy
          show l2.len ≤ 20000
          omega
    refine nns ?_
    refine h.lda (n := 6) (m := 6) (k := .i .i64) (x := (oldV.length : Nat)) 0 rfl rfl ?_
    refine far_spec fun r hr => ?_
    by_cases hqr : q < r
    · refine ifT (by simp; omega) ?_
      refine nns ?_
      refine h.lda (n := 6) (m := 3) (k := .sl) (x := x) 0 rfl rfl ?_
      refine h.ixld (k := .i .i64) (y := ((l, m) : LM)) (x := m) 4 rfl (by omega) (by rw [Int.toNat_natCast]; exact hx) mkm_len rfl ?_
      refine h.lc_app 7 m (e' := 2) (c' := 1) (l := l) (c := l2) (p := l.len) (m := l.len + q) (cs := iv m) rfl iv_len und38 j1 j3 j2 rfl rfl (by simp [iv, Value.oneCell']) (by rw [j4]; omega) (by omega) fun l3 wb h => ?_
      exact ⟨69 - q, by omega, q + 1, by rw [wr64 (by omega) (by omega)]; omega, by omega, by omega, h⟩
    · exact ifF (by simp; omega) fin
  · refine ifF (by simp; omega) ?_
    have hgk := hg.g
    obtain rfl : k = newV.length := by have := hg.hk; omega
    have hvl2 := h.len (s := v) 1 rfl
    refine nns ?_
    refine h.ldv (k := .sl) (x := v) 0 rfl rfl ?_
    refine nns ?_
    refine h.stq (m := 6) 0 rfl (by simp) rfl fun w4 h => ?_
    have h := h.lose (i := 6) rfl (tAll_own _)
    have h := old_less h (i := 5) (n := 1) (g := iv) (D := D) (D' := oldV ++ newV ++ G) rfl (fun y hy => hg.d y (by rw [List.take_of_length_le (Nat.le_refl _)]; exact hy))
    have hlo : (oldV ++ newV ++ G).length = v.len := by have := h.len (s := v) 1 rfl; exact this
    have hfit : Sh.fits ⟨v, x, oldV ++ newV ++ G, []⟩ (N + 2 * M) 0 := ⟨by simp only [List.length_append]; omega, by simp, fun y hy => by
      rcases List.mem_append.1 hy with hy | hy
      · rcases List.mem_append.1 hy with hy | hy
        · exact fV3 y hy
        · have := fV4 y hy; omega
      · exact hg.l y hy, fun y hy => by cases hy⟩
    have h : Hp O w w4 [tBlk bp 88 (BK.cells ⟨⟨v, x, oldV ++ newV ++ G, []⟩, ⟨vP, xP, oldP, newP⟩, ⟨vR, xR, oldR, newR⟩⟩ p), tSl v 38 1 slm (oldV ++ newV ++ G), tShP ⟨vP, xP, oldP, newP⟩, tShR ⟨vR, xR, oldR, newR⟩, tSl x 2 1 mkm (oldV ++ newV ++ G), tOld 1 iv (oldV ++ newV ++ G), tEmp] := by
      have e : (BK.cells ⟨⟨v, x, oldV ++ newV ++ G, []⟩, ⟨vP, xP, oldP, newP⟩, ⟨vR, xR, oldR, newR⟩⟩ p) = ((BK.cells ⟨⟨v, x, oldV, newV⟩, ⟨vP, xP, oldP, newP⟩, ⟨vR, xR, oldR, newR⟩⟩ p).set 12 (.int .i64 (v.len : Int))) := by
        show [_, _, _, _, _, _, _, _, _, _, _, _, _, _, _] = [_, _, _, _, _, _, _, _, _, _, _, _, _, _, _]
        rw [hlo]
      rw [e]; exact h
    have h : Hp O w w4 [tSl v 38 1 slm (oldV ++ newV ++ G ++ []), tSl x 2 1 mkm (oldV ++ newV ++ G ++ []), tOld 1 iv (oldV ++ newV ++ G), tAll (([] : List LM).map (pend 2 1 iv)), tBlk bp 88 (BK.cells ⟨⟨v, x, oldV ++ newV ++ G, []⟩, ⟨vP, xP, oldP, newP⟩, ⟨vR, xR, oldR, newR⟩⟩ p), tShP ⟨vP, xP, oldP, newP⟩, tShR ⟨vR, xR, oldR, newR⟩] := by
      rw [List.append_nil]; exact h.selL [1, 4, 5, 6, 0, 2, 3] (by decide) rfl
    have h := shelf_close ⟨v, x, oldV ++ newV ++ G, []⟩ h
    have h : Hp O w w4 [tBlk bp 88 (BK.cells ⟨⟨v, x, oldV ++ newV ++ G, []⟩, ⟨vP, xP, oldP, newP⟩, ⟨vR, xR, oldR, newR⟩⟩ p), tShP ⟨vP, xP, oldP, newP⟩, tShV ⟨v, x, oldV ++ newV ++ G, []⟩, tShR ⟨vR, xR, oldR, newR⟩] := h.selL [1, 2, 0, 3] (by decide) rfl
    clear hlo
    generalize oldV ++ newV ++ G = oldV at hfit h
    generalize v = vV at hfit h
    generalize x = xV at hfit h
    have hfV := hfit
    clear hfit
    -- phase P
    have h := shelf_open h (i := 1) rfl
    have h : Hp O w w4 [tBlk bp 88 (BK.cells ⟨⟨vV, xV, oldV, []⟩, ⟨vP, xP, oldP, newP⟩, ⟨vR, xR, oldR, newR⟩⟩ p), tSl vP 36 1 slm (oldP ++ newP), tShV ⟨vV, xV, oldV, []⟩, tShR ⟨vR, xR, oldR, newR⟩, tSl xP 3 1 mkm (oldP ++ newP), tOld 2 g1 oldP, tAll (newP.map (pend 40 2 g1))] := h
    have hvl := h.len (s := vP) 1 rfl
    have hxl := h.len (s := xP) 4 rfl
    rw [List.length_append] at hvl hxl
    refine nns ?_
    refine h.lda (n := 6) (m := 1) (k := .sl) (x := vP) 0 rfl rfl ?_
    refine nns ?_
    refine h.lda (n := 6) (m := 7) (k := .i .i64) (x := (oldP.length : Nat)) 0 rfl rfl ?_
    refine ⟨fun t mm w' => ∃ (k : Nat) (v x : Sl) (G D : List LM) (ts : List Thing), t = ((oldP.length + k : Nat) : Int) ∧ GS 2 oldP newP G D ts (newP.map (pend 40 2 g1)) k ∧ mm = newP.length - k ∧ Hp O w w' [tBlk bp 88 (BK.cells ⟨⟨vV, xV, oldV, []⟩, ⟨v, x, oldP, newP⟩, ⟨vR, xR, oldR, newR⟩⟩ p), tSl v 36 1 slm (oldP ++ newP ++ G), tShV ⟨vV, xV, oldV, []⟩, tShR ⟨vR, xR, oldR, newR⟩, tSl x 3 1 mkm (oldP ++ newP ++ G), tOld 2 g1 D, tAll ts],
      ⟨newP.length, 0, vP, xP, [], oldP, newP.map (pend 40 2 g1), rfl, ⟨by omega, rfl, by simp, rfl, by simp⟩, rfl, by rw [List.append_nil]; exact h⟩, ?_⟩
    clear h
    rintro t mm w5 ⟨k, v, x, G, D, ts, rfl, hg, rfl, h⟩
    by_cases hlt : k < newP.length
    · refine ifT (by simp; omega) ?_
      have hgk := hg.g
      have hvl2 := h.len (s := v) 1 rfl
      have hxl2 := h.len (s := x) 4 rfl
      rw [List.length_append, List.length_append] at hvl2 hxl2
      have hx : (oldP ++ newP ++ G)[oldP.length + k]? = some newP[k] := by
        rw [List.getElem?_append_left (by rw [List.length_append]; omega), List.getElem?_append_right (by omega), Nat.add_sub_cancel_left]; simp [hlt]
      have ht : ts[k]? = some (pend 40 2 g1 newP[k]) := by
        have e := congrArg (fun L => L[0]?) hg.t
        simpa [hlt] using e
      have hnl := fP4 _ (List.getElem_mem hlt)
      have htk : newP.take (k + 1) = newP.take k ++ [newP[k]] := by rw [List.take_add_one]; simp [hlt]
      generalize newP[k] = y at hx ht hnl htk
      obtain ⟨l, m⟩ := y
      dsimp only at hnl
      refine nns ?_
      refine h.lda (n := 6) (m := 1) (k := .sl) (x := v) 0 rfl rfl ?_
      refine h.ixld (k := .sl) (y := ((l, m) : LM)) (x := l) 1 rfl (by omega) (by rw [Int.toNat_natCast]; exact hx) slm_len rfl ?_
      have h := h.pick (i := 6) (k := k) rfl ht rfl
      have h := h.lc_start (j := 7) (l := l) (e := 40) (n := 2) (f := g1) (y := m) (p := l.len) rfl
      have h : Hp O w w5 [tBlk bp 88 (BK.cells ⟨⟨vV, xV, oldV, []⟩, ⟨v, x, oldP, newP⟩, ⟨vR, xR, oldR, newR⟩⟩ p), tSl v 36 1 slm (oldP ++ newP ++ G), tShV ⟨vV, xV, oldV, []⟩, tShR ⟨vR, xR, oldR, newR⟩, tSl x 3 1 mkm (oldP ++ newP ++ G), tOld 2 g1 D, tAll (ts.set k tEmp), tLC 40 2 g1 l l m l.len l.len] := h
      refine ⟨fun l2 t mm w' => ∃ q : Nat, t = q ∧ q ≤ 70 ∧ mm + q = 70 ∧ Hp O w w' [tBlk bp 88 (BK.cells ⟨⟨vV, xV, oldV, []⟩, ⟨v, x, oldP, newP⟩, ⟨vR, xR, oldR, newR⟩⟩ p), tSl v 36 1 slm (oldP ++ newP ++ G), tShV ⟨vV, xV, oldV, []⟩, tShR ⟨vR, xR, oldR, newR⟩, tSl x 3 1 mkm (oldP ++ newP ++ G), tOld 2 g1 D, tAll (ts.set k tEmp), tLC 40 2 g1 l l2 m l.len (l.len + q)], ⟨70, 0, rfl, by omega, by omega, h⟩, ?_⟩
      clear h
      rintro l2 t mm w6 ⟨q, rfl, hq, hmm, h⟩
      have fin : NN (some ⟨bp, 6, none⟩) fun (b_6 : Addr) => 
    Ld .sl w6 (b_6.add 1) fun (p3 : Sl) =>
    Nw (.cells #[.slice l2.a l2.len l2.cap] 36) w6 fun (b6 : Addr) (wz : World) =>
    Run .sl Try.prog (Builtin.append_ #[83, 83] 83 #[.slice p3.a p3.len p3.cap, .slice (some b6) 1 1]) wz fun (s3 : Sl) (wz : World) =>
    NN (some ⟨bp, 6, none⟩) fun (b_19 : Addr) =>
    St (b_19.add 1) (.slice s3.a s3.len s3.cap) wz fun (wz : World) =>
    Dr wz fun (wz : World) =>
    NN (some ⟨bp, 6, none⟩) fun (b_20 : Addr) =>
    Ld .sl wz (b_20.add 4) fun (y2 : Sl) =>
    NN (some ⟨bp, 6, none⟩) fun (b_21 : Addr) =>
    Ld .sl wz (b_21.add 4) fun (y3 : Sl) =>
    Ix y3.a y3.len ((oldP.length + k : Nat) : Int) 1 fun (a6 : Addr) =>
    Ld (.i .i64) wz a6 fun (x7 : Int) =>
    Nw (.cells #[.int .i64 x7] 3) wz fun (b7 : Addr) (wz : World) =>
    Run .sl Try.prog (Builtin.append_ #[28, 28] 28 #[.slice y2.a y2.len y2.cap, .slice (some b7) 1 1]) wz fun (s4 : Sl) (wz : World) =>
    NN (some ⟨bp, 6, none⟩) fun (b_22 : Addr) =>
    St (b_22.add 4) (.slice s4.a s4.len s4.cap) wz fun (wz : World) =>
    ∃ m2 : Nat, m2 < newP.length - k ∧ ∃ (k' : Nat) (v x : Sl) (G D : List LM) (ts : List Thing), IntKind.i64.wrap (((oldP.length + k : Nat) : Int) + 1) = ((oldP.length + k' : Nat) : Int) ∧ GS 2 oldP newP G D ts (newP.map (pend 40 2 g1)) k' ∧ m2 = newP.length - k' ∧ Hp O w wz [tBlk bp 88 (BK.cells ⟨⟨vV, xV, oldV, []⟩, ⟨v, x, oldP, newP⟩, ⟨vR, xR, oldR, newR⟩⟩ p), tSl v 36 1 slm (oldP ++ newP ++ G), tShV ⟨vV, xV, oldV, []⟩, tShR ⟨vR, xR, oldR, newR⟩, tSl x 3 1 mkm (oldP ++ newP ++ G), tOld 2 g1 D, tAll ts] := by
        have hcl := (h.lc_len (e := 40) (n := 2) (f := g1) (l := l) (c := l2) (y := m) (p := l.len) (m := l.len + q) 7 rfl).1
        have h := h.lc_done (j := 7) (e := 40) (n := 2) (f := g1) (l := l) (c := l2) (y := m) (p := l.len) (m := l.len + q) rfl
        have h := old_more h (i := 5) (j := 7) (by decide) rfl rfl rfl hcl
        refine nns ?_
        refine h.lda (n := 6) (m := 1) (k := .sl) (x := v) 0 rfl rfl ?_
        refine h.nwapp 1 ((l2, m) : LM) (c := [_]) rfl slm_len und83 b1 b3 b2 rfl rfl (by simp [Value.oneCell']) (by rw [b4]; omega) (by omega) fun s wa h hs _ => ?_
        refine nns ?_
        refine h.stq (m := 1) 0 rfl (by simp) rfl fun wb h => ?_
        refine h.dr fun wc h => ?_
        refine nns ?_
        refine h.lda (n := 6) (m := 4) (k := .sl) (x := x) 0 rfl rfl ?_
        refine nns ?_
        refine h.lda (n := 6) (m := 4) (k := .sl) (x := x) 0 rfl rfl ?_
        refine h.ixld (k := .i .i64) (y := ((l, m) : LM)) (x := m) 4 rfl (by omega) (by rw [Int.toNat_natCast]; exact hx) mkm_len rfl ?_
        refine h.nwapp 4 ((l2, m) : LM) (c := [_]) rfl mkm_len und28 i1 i3 i2 rfl rfl (by simp [Value.oneCell']) (by rw [i4]; omega) (by omega) fun s2 wd h hs2 _ => ?_
        refine nns ?_
        refine h.stq (m := 4) 0 rfl (by simp) rfl fun we h => ?_
        rw [List.append_assoc (oldP ++ newP) G] at h
        have h : Hp O w we [tBlk bp 88 (BK.cells ⟨⟨vV, xV, oldV, []⟩, ⟨s, s2, oldP, newP⟩, ⟨vR, xR, oldR, newR⟩⟩ p), tSl s 36 1 slm (oldP ++ newP ++ (G ++ [(l2, m)])), tShV ⟨vV, xV, oldV, []⟩, tShR ⟨vR, xR, oldR, newR⟩, tSl s2 3 1 mkm (oldP ++ newP ++ (G ++ [(l2, m)])), tOld 2 g1 (D ++ [(l, m), (l2, m)]), tAll (ts.set k tEmp)] := h.trim 7
        refine ⟨newP.length - (k + 1), by omega, k + 1, s, s2, G ++ [(l2, m)], D ++ [(l, m), (l2, m)], ts.set k tEmp, by rw [wr64 (by omega) (by omega)]; omega, ⟨by omega, by simp [hgk], fun y hy => ?_, by
          rw [List.drop_set_of_lt (by omega), ← List.drop_drop, hg.t, List.drop_drop], fun y hy => ?_⟩, rfl, h⟩
        · rw [htk] at hy
          simp only [List.mem_append, List.mem_cons, List.not_mem_nil, or_false] at hy ⊢
          have := hg.d y
          simp only [List.mem_append] at this
          rcases hy with (hy | hy | hy) | hy | hy
          · exact .inl (this (.inl (.inl hy)))
          · exact .inl (this (.inl (.inr hy)))
          · exact .inr (.inl hy)
          · exact .inl (this (.inr hy))
          · exact .inr (.inr hy)
        · rcases List.mem_append.1 hy with hy | hy
          · exact hg.l y hy
          · simp only [List.mem_singleton] at hy
            subst hy
            show l2.len ≤ 20000
            omega
      refine nns ?_
      refine h.lda (n := 6) (m := 7) (k := .i .i64) (x := (oldP.length : Nat)) 0 rfl rfl ?_
      refine far_spec fun r hr => ?_
      by_cases hqr : q < r
      · refine ifT (by simp; omega) ?_
        refine nns ?_
        refine h.lda (n := 6) (m := 4) (k := .sl) (x := x) 0 rfl rfl ?_
        refine h.ixld (k := .i .i64) (y := ((l, m) : LM)) (x := m) 4 rfl (by omega) (by rw [Int.toNat_natCast]; exact hx) mkm_len rfl ?_
        refine h.lc_app 7 m (e' := 40) (c' := 1) (l := l) (c := l2) (p := l.len) (m := l.len + q) (cs := g1 m) rfl g1_len und36 e1 e3 e2 rfl rfl (by simp [Value.oneCell']) (by rw [e4]; omega) (by omega) fun l3 wb h => ?_
        exact ⟨69 - q, by omega, q + 1, by rw [wr64 (by omega) (by omega)]; omega, by omega, by omega, h⟩
      · exact ifF (by simp; omega) fin
    · refine ifF (by simp; omega) ?_
      have hgk := hg.g
      obtain rfl : k = newP.length := by have := hg.hk; omega
      have hvl2 := h.len (s := v) 1 rfl
      refine nns ?_
      refine h.lda (n := 6) (m := 1) (k := .sl) (x := v) 0 rfl rfl ?_
      refine nns ?_
      refine h.stq (m := 7) 0 rfl (by simp) rfl fun w7 h => ?_
      have h := h.lose (i := 6) rfl (tAll_own _)
      have h := old_less h (i := 5) (n := 2) (g := g1) (D := D) (D' := oldP ++ newP ++ G) rfl (fun y hy => hg.d y (by rw [List.take_of_length_le (Nat.le_refl _)]; exact hy))
      have hlo : (oldP ++ newP ++ G).length = v.len := by have := h.len (s := v) 1 rfl; exact this
      have hfit : Sh.fits ⟨v, x, oldP ++ newP ++ G, []⟩ (N + 2 * M) 0 := ⟨by simp only [List.length_append]; omega, by simp, fun y hy => by
        rcases List.mem_append.1 hy with hy | hy
        · rcases List.mem_append.1 hy with hy | hy
          · exact fP3 y hy
          · have := fP4 y hy; omega
        · exact hg.l y hy, fun y hy => by cases hy⟩
      have h : Hp O w w7 [tBlk bp 88 (BK.cells ⟨⟨vV, xV, oldV, []⟩, ⟨v, x, oldP ++ newP ++ G, []⟩, ⟨vR, xR, oldR, newR⟩⟩ p), tSl v 36 1 slm (oldP ++ newP ++ G), tShV ⟨vV, xV, oldV, []⟩, tShR ⟨vR, xR, oldR, newR⟩, tSl x 3 1 mkm (oldP ++ newP ++ G), tOld 2 g1 (oldP ++ newP ++ G), tEmp] := by
        have e : (BK.cells ⟨⟨vV, xV, oldV, []⟩, ⟨v, x, oldP ++ newP ++ G, []⟩, ⟨vR, xR, oldR, newR⟩⟩ p) = ((BK.cells ⟨⟨vV, xV, oldV, []⟩, ⟨v, x, oldP, newP⟩, ⟨vR, xR, oldR, newR⟩⟩ p).set 13 (.int .i64 (v.len : Int))) := by
          show [_, _, _, _, _, _, _, _, _, _, _, _, _, _, _] = [_, _, _, _, _, _, _, _, _, _, _, _, _, _, _]
          rw [hlo]
        rw [e]; exact h
      have h : Hp O w w7 [tSl v 36 1 slm (oldP ++ newP ++ G ++ []), tSl x 3 1 mkm (oldP ++ newP ++ G ++ []), tOld 2 g1 (oldP ++ newP ++ G), tAll (([] : List LM).map (pend 40 2 g1)), tBlk bp 88 (BK.cells ⟨⟨vV, xV, oldV, []⟩, ⟨v, x, oldP ++ newP ++ G, []⟩, ⟨vR, xR, oldR, newR⟩⟩ p), tShV ⟨vV, xV, oldV, []⟩, tShR ⟨vR, xR, oldR, newR⟩] := by
        rw [List.append_nil]; exact h.selL [1, 4, 5, 6, 0, 2, 3] (by decide) rfl
      have h := shelf_close ⟨v, x, oldP ++ newP ++ G, []⟩ h
      have h : Hp O w w7 [tBlk bp 88 (BK.cells ⟨⟨vV, xV, oldV, []⟩, ⟨v, x, oldP ++ newP ++ G, []⟩, ⟨vR, xR, oldR, newR⟩⟩ p), tShR ⟨vR, xR, oldR, newR⟩, tShV ⟨vV, xV, oldV, []⟩, tShP ⟨v, x, oldP ++ newP ++ G, []⟩] := h.selL [1, 3, 2, 0] (by decide) rfl
      clear hlo
      generalize oldP ++ newP ++ G = oldP at hfit h
      generalize v = vP at hfit h
      generalize x = xP at hfit h
      have hfP := hfit
      clear hfit
      -- phase R
      have h := shelf_open h (i := 1) rfl
      have h : Hp O w w7 [tBlk bp 88 (BK.cells ⟨⟨vV, xV, oldV, []⟩, ⟨vP, xP, oldP, []⟩, ⟨vR, xR, oldR, newR⟩⟩ p), tSl vR 56 1 slm (oldR ++ newR), tShV ⟨vV, xV, oldV, []⟩, tShP ⟨vP, xP, oldP, []⟩, tSl xR 3 1 mkm (oldR ++ newR), tOld 3 g2 oldR, tAll (newR.map (pend 65 3 g2))] := h
      have hvl := h.len (s := vR) 1 rfl
      have hxl := h.len (s := xR) 4 rfl
      rw [List.length_append] at hvl hxl
      refine nns ?_
      refine h.lda (n := 6) (m := 2) (k := .sl) (x := vR) 0 rfl rfl ?_
      refine nns ?_
      refine h.lda (n := 6) (m := 8) (k := .i .i64) (x := (oldR.length : Nat)) 0 rfl rfl ?_
      refine ⟨fun t mm w' => ∃ (k : Nat) (v x : Sl) (G D : List LM) (ts : List Thing), t = ((oldR.length + k : Nat) : Int) ∧ GS 3 oldR newR G D ts (newR.map (pend 65 3 g2)) k ∧ mm = newR.length - k ∧ Hp O w w' [tBlk bp 88 (BK.cells ⟨⟨vV, xV, oldV, []⟩, ⟨vP, xP, oldP, []⟩, ⟨v, x, oldR, newR⟩⟩ p), tSl v 56 1 slm (oldR ++ newR ++ G), tShV ⟨vV, xV, oldV, []⟩, tShP ⟨vP, xP, oldP, []⟩, tSl x 3 1 mkm (oldR ++ newR ++ G), tOld 3 g2 D, tAll ts],
        ⟨newR.length, 0, vR, xR, [], oldR, newR.map (pend 65 3 g2), rfl, ⟨by omega, rfl, by simp, rfl, by simp⟩, rfl, by rw [List.append_nil]; exact h⟩, ?_⟩
      clear h
      rintro t mm w8 ⟨k, v, x, G, D, ts, rfl, hg, rfl, h⟩
      by_cases hlt : k < newR.length
      · refine ifT (by simp; omega) ?_
        have hgk := hg.g
        have hvl2 := h.len (s := v) 1 rfl
        have hxl2 := h.len (s := x) 4 rfl
        rw [List.length_append, List.length_append] at hvl2 hxl2
        have hx : (oldR ++ newR ++ G)[oldR.length + k]? = some newR[k] := by
          rw [List.getElem?_append_left (by rw [List.length_append]; omega), List.getElem?_append_right (by omega), Nat.add_sub_cancel_left]; simp [hlt]
        have ht : ts[k]? = some (pend 65 3 g2 newR[k]) := by
          have e := congrArg (fun L => L[0]?) hg.t
          simpa [hlt] using e
        have hnl := fR4 _ (List.getElem_mem hlt)
        have htk : newR.take (k + 1) = newR.take k ++ [newR[k]] := by rw [List.take_add_one]; simp [hlt]
        generalize newR[k] = y at hx ht hnl htk
        obtain ⟨l, m⟩ := y
        dsimp only at hnl
        refine nns ?_
        refine h.lda (n := 6) (m := 2) (k := .sl) (x := v) 0 rfl rfl ?_
        refine h.ixld (k := .sl) (y := ((l, m) : LM)) (x := l) 1 rfl (by omega) (by rw [Int.toNat_natCast]; exact hx) slm_len rfl ?_
        have h := h.pick (i := 6) (k := k) rfl ht rfl
        have h := h.lc_start (j := 7) (l := l) (e := 65) (n := 3) (f := g2) (y := m) (p := l.len) rfl
        have h : Hp O w w8 [tBlk bp 88 (BK.cells ⟨⟨vV, xV, oldV, []⟩, ⟨vP, xP, oldP, []⟩, ⟨v, x, oldR, newR⟩⟩ p), tSl v 56 1 slm (oldR ++ newR ++ G), tShV ⟨vV, xV, oldV, []⟩, tShP ⟨vP, xP, oldP, []⟩, tSl x 3 1 mkm (oldR ++ newR ++ G), tOld 3 g2 D, tAll (ts.set k tEmp), tLC 65 3 g2 l l m l.len l.len] := h
        refine ⟨fun l2 t mm w' => ∃ q : Nat, t = q ∧ q ≤ 70 ∧ mm + q = 70 ∧ Hp O w w' [tBlk bp 88 (BK.cells ⟨⟨vV, xV, oldV, []⟩, ⟨vP, xP, oldP, []⟩, ⟨v, x, oldR, newR⟩⟩ p), tSl v 56 1 slm (oldR ++ newR ++ G), tShV ⟨vV, xV, oldV, []⟩, tShP ⟨vP, xP, oldP, []⟩, tSl x 3 1 mkm (oldR ++ newR ++ G), tOld 3 g2 D, tAll (ts.set k tEmp), tLC 65 3 g2 l l2 m l.len (l.len + q)], ⟨70, 0, rfl, by omega, by omega, h⟩, ?_⟩
        clear h
        rintro l2 t mm w9 ⟨q, rfl, hq, hmm, h⟩
        have fin : NN (some ⟨bp, 6, none⟩) fun (b_6 : Addr) => 
      Ld .sl w9 (b_6.add 2) fun (r5 : Sl) =>
      Nw (.cells #[.slice l2.a l2.len l2.cap] 56) w9 fun (b9 : Addr) (wz : World) =>
      Run .sl Try.prog (Builtin.append_ #[84, 84] 84 #[.slice r5.a r5.len r5.cap, .slice (some b9) 1 1]) wz fun (s5 : Sl) (wz : World) =>
      NN (some ⟨bp, 6, none⟩) fun (b_30 : Addr) =>
      St (b_30.add 2) (.slice s5.a s5.len s5.cap) wz fun (wz : World) =>
      Dr wz fun (wz : World) =>
      NN (some ⟨bp, 6, none⟩) fun (b_31 : Addr) =>
      Ld .sl wz (b_31.add 5) fun (z2 : Sl) =>
      NN (some ⟨bp, 6, none⟩) fun (b_32 : Addr) =>
      Ld .sl wz (b_32.add 5) fun (z3 : Sl) =>
      Ix z3.a z3.len ((oldR.length + k : Nat) : Int) 1 fun (a9 : Addr) =>
      Ld (.i .i64) wz a9 fun (x9 : Int) =>
      Nw (.cells #[.int .i64 x9] 3) wz fun (b10 : Addr) (wz : World) =>
      Run .sl Try.prog (Builtin.append_ #[28, 28] 28 #[.slice z2.a z2.len z2.cap, .slice (some b10) 1 1]) wz fun (s6 : Sl) (wz : World) =>
      NN (some ⟨bp, 6, none⟩) fun (b_33 : Addr) =>
      St (b_33.add 5) (.slice s6.a s6.len s6.cap) wz fun (wz : World) =>
      ∃ m2 : Nat, m2 < newR.length - k ∧ ∃ (k' : Nat) (v x : Sl) (G D : List LM) (ts : List Thing), IntKind.i64.wrap (((oldR.length + k : Nat) : Int) + 1) = ((oldR.length + k' : Nat) : Int) ∧ GS 3 oldR newR G D ts (newR.map (pend 65 3 g2)) k' ∧ m2 = newR.length - k' ∧ Hp O w wz [tBlk bp 88 (BK.cells ⟨⟨vV, xV, oldV, []⟩, ⟨vP, xP, oldP, []⟩, ⟨v, x, oldR, newR⟩⟩ p), tSl v 56 1 slm (oldR ++ newR ++ G), tShV ⟨vV, xV, oldV, []⟩, tShP ⟨vP, xP, oldP, []⟩, tSl x 3 1 mkm (oldR ++ newR ++ G), tOld 3 g2 D, tAll ts] := by
          have hcl := (h.lc_len (e := 65) (n := 3) (f := g2) (l := l) (c := l2) (y := m) (p := l.len) (m := l.len + q) 7 rfl).1
          have h := h.lc_done (j := 7) (e := 65) (n := 3) (f := g2) (l := l) (c := l2) (y := m) (p := l.len) (m := l.len + q) rfl
          have h := old_more h (i := 5) (j := 7) (by decide) rfl rfl rfl hcl
          refine nns ?_
          refine h.lda (n := 6) (m := 2) (k := .sl) (x := v) 0 rfl rfl ?_
          refine h.nwapp 1 ((l2, m) : LM) (c := [_]) rfl slm_len und84 d1 d3 d2 rfl rfl (by simp [Value.oneCell']) (by rw [d4]; omega) (by omega) fun s wa h hs _ => ?_
          refine nns ?_
          refine h.stq (m := 2) 0 rfl (by simp) rfl fun wb h => ?_
          refine h.dr fun wc h => ?_
          refine nns ?_
          refine h.lda (n := 6) (m := 5) (k := .sl) (x := x) 0 rfl rfl ?_
          refine nns ?_
          refine h.lda (n := 6) (m := 5) (k := .sl) (x := x) 0 rfl rfl ?_
          refine h.ixld (k := .i .i64) (y := ((l, m) : LM)) (x := m) 4 rfl (by omega) (by rw [Int.toNat_natCast]; exact hx) mkm_len rfl ?_
          refine h.nwapp 4 ((l2, m) : LM) (c := [_]) rfl mkm_len und28 i1 i3 i2 rfl rfl (by simp [Value.oneCell']) (by rw [i4]; omega) (by omega) fun s2 wd h hs2 _ => ?_
          refine nns ?_
          refine h.stq (m := 5) 0 rfl (by simp) rfl fun we h => ?_
          rw [List.append_assoc (oldR ++ newR) G] at h
          have h : Hp O w we [tBlk bp 88 (BK.cells ⟨⟨vV, xV, oldV, []⟩, ⟨vP, xP, oldP, []⟩, ⟨s, s2, oldR, newR⟩⟩ p), tSl s 56 1 slm (oldR ++ newR ++ (G ++ [(l2, m)])), tShV ⟨vV, xV, oldV, []⟩, tShP ⟨vP, xP, oldP, []⟩, tSl s2 3 1 mkm (oldR ++ newR ++ (G ++ [(l2, m)])), tOld 3 g2 (D ++ [(l, m), (l2, m)]), tAll (ts.set k tEmp)] := h.trim 7
          refine ⟨newR.length - (k + 1), by omega, k + 1, s, s2, G ++ [(l2, m)], D ++ [(l, m), (l2, m)], ts.set k tEmp, by rw [wr64 (by omega) (by omega)]; omega, ⟨by omega, by simp [hgk], fun y hy => ?_, by
            rw [List.drop_set_of_lt (by omega), ← List.drop_drop, hg.t, List.drop_drop], fun y hy => ?_⟩, rfl, h⟩
          · rw [htk] at hy
            simp only [List.mem_append, List.mem_cons, List.not_mem_nil, or_false] at hy ⊢
            have := hg.d y
            simp only [List.mem_append] at this
            rcases hy with (hy | hy | hy) | hy | hy
            · exact .inl (this (.inl (.inl hy)))
            · exact .inl (this (.inl (.inr hy)))
            · exact .inr (.inl hy)
            · exact .inl (this (.inr hy))
            · exact .inr (.inr hy)
          · rcases List.mem_append.1 hy with hy | hy
            · exact hg.l y hy
            · simp only [List.mem_singleton] at hy
              subst hy
              show l2.len ≤ 20000
              omega
        by_cases hqr : q < 70
        · refine ifT (by simp; omega) ?_
          refine nns ?_
          refine h.lda (n := 6) (m := 5) (k := .sl) (x := x) 0 rfl rfl ?_
          refine h.ixld (k := .i .i64) (y := ((l, m) : LM)) (x := m) 4 rfl (by omega) (by rw [Int.toNat_natCast]; exact hx) mkm_len rfl ?_
          refine h.lc_app 7 m (e' := 65) (c' := 1) (l := l) (c := l2) (p := l.len) (m := l.len + q) (cs := g2 m) rfl g2_len und56 u1 u3 u2 rfl rfl (by simp [Value.oneCell']) (by rw [u4]; omega) (by omega) fun l3 wb h => ?_
          exact ⟨69 - q, by omega, q + 1, by rw [wr64 (by omega) (by omega)]; omega, by omega, by omega, h⟩
        · exact ifF (by simp; omega) fin
      · refine ifF (by simp; omega) ?_
        have hgk := hg.g
        obtain rfl : k = newR.length := by have := hg.hk; omega
        have hvl2 := h.len (s := v) 1 rfl
        refine nns ?_
        refine h.lda (n := 6) (m := 2) (k := .sl) (x := v) 0 rfl rfl ?_
        refine nns ?_
        refine h.stq (m := 8) 0 rfl (by simp) rfl fun w10 h => ?_
        have h := h.lose (i := 6) rfl (tAll_own _)
        have h := old_less h (i := 5) (n := 3) (g := g2) (D := D) (D' := oldR ++ newR ++ G) rfl (fun y hy => hg.d y (by rw [List.take_of_length_le (Nat.le_refl _)]; exact hy))
        have hlo : (oldR ++ newR ++ G).length = v.len := by have := h.len (s := v) 1 rfl; exact this
        have hfit : Sh.fits ⟨v, x, oldR ++ newR ++ G, []⟩ (N + 2 * M) 0 := ⟨by simp only [List.length_append]; omega, by simp, fun y hy => by
          rcases List.mem_append.1 hy with hy | hy
          · rcases List.mem_append.1 hy with hy | hy
            · exact fR3 y hy
            · have := fR4 y hy; omega
          · exact hg.l y hy, fun y hy => by cases hy⟩
        have h : Hp O w w10 [tBlk bp 88 (BK.cells ⟨⟨vV, xV, oldV, []⟩, ⟨vP, xP, oldP, []⟩, ⟨v, x, oldR ++ newR ++ G, []⟩⟩ p), tSl v 56 1 slm (oldR ++ newR ++ G), tShV ⟨vV, xV, oldV, []⟩, tShP ⟨vP, xP, oldP, []⟩, tSl x 3 1 mkm (oldR ++ newR ++ G), tOld 3 g2 (oldR ++ newR ++ G), tEmp] := by
          have e : (BK.cells ⟨⟨vV, xV, oldV, []⟩, ⟨vP, xP, oldP, []⟩, ⟨v, x, oldR ++ newR ++ G, []⟩⟩ p) = ((BK.cells ⟨⟨vV, xV, oldV, []⟩, ⟨vP, xP, oldP, []⟩, ⟨v, x, oldR, newR⟩⟩ p).set 14 (.int .i64 (v.len : Int))) := by
            show [_, _, _, _, _, _, _, _, _, _, _, _, _, _, _] = [_, _, _, _, _, _, _, _, _, _, _, _, _, _, _]
            rw [hlo]
          rw [e]; exact h
        have h : Hp O w w10 [tSl v 56 1 slm (oldR ++ newR ++ G ++ []), tSl x 3 1 mkm (oldR ++ newR ++ G ++ []), tOld 3 g2 (oldR ++ newR ++ G), tAll (([] : List LM).map (pend 65 3 g2)), tBlk bp 88 (BK.cells ⟨⟨vV, xV, oldV, []⟩, ⟨vP, xP, oldP, []⟩, ⟨v, x, oldR ++ newR ++ G, []⟩⟩ p), tShV ⟨vV, xV, oldV, []⟩, tShP ⟨vP, xP, oldP, []⟩] := by
          rw [List.append_nil]; exact h.selL [1, 4, 5, 6, 0, 2, 3] (by decide) rfl
        have h := shelf_close ⟨v, x, oldR ++ newR ++ G, []⟩ h
        have h : Hp O w w10 [tBlk bp 88 (BK.cells ⟨⟨vV, xV, oldV, []⟩, ⟨vP, xP, oldP, []⟩, ⟨v, x, oldR ++ newR ++ G, []⟩⟩ p), tShV ⟨vV, xV, oldV, []⟩, tShP ⟨vP, xP, oldP, []⟩, tShR ⟨v, x, oldR ++ newR ++ G, []⟩] := h.selL [1, 2, 3, 0] (by decide) rfl
        have h := book_close (N := N + 2 * M) (M := 0) ⟨⟨vV, xV, oldV, []⟩, ⟨vP, xP, oldP, []⟩, ⟨v, x, oldR ++ newR ++ G, []⟩⟩ ⟨hfV, hfP, hfit⟩ h
        have := back (rest := []) rfl rfl h
        rw [List.append_nil] at this
        exact hK w10 this

end
end Go.Proofs.Ytcccjgmekakabaa.FW
end

section
set_option linter.unusedSimpArgs false
set_option linter.unusedVariables false
set_option maxRecDepth 100000
namespace Go.Proofs.Ytcccjgmekakabaa.FW
open Go.Proofs.Ytcccjgmekakabaa.F
open Go Go.Den Go.Proofs
open Go.Proofs.Ytcccjgmekakabaa.FI (PoolM tPool)
open Go.Proofs.Ytcccjgmekakabaa.FT (TabM tTab Ent entV ent ent_len atI keyEnt iv iv_len)
open Go.Proofs.Ytcccjgmekakabaa.FP (R64 tB putU zig rowU encZ putU_len encZ_len)
theorem shelf_none {et em e : TypeId} {n : Nat} {g : Int → List Value} {w : World} : (tShelf et em e n g ⟨⟨none, 0, 0⟩, ⟨none, 0, 0⟩, [], []⟩).holds w [] :=
  ⟨[], [], SlF.nil, ⟨[], [], SlF.nil, ⟨[], [], ⟨by simp, by simp⟩, rfl, by simp, by simp⟩, by simp, by simp⟩, by simp, by simp⟩

/-- What stands ahead in a pair. -/
def pcOf (ab bb : Nat) (ks gv od ws : Sl) : PC := ⟨.pointer (some ⟨ab, 0, none⟩), .pointer (some ⟨bb, 0, none⟩), .slice ks.a ks.len ks.cap, .slice gv.a gv.len gv.cap, .slice od.a od.len od.cap, .slice ws.a ws.len ws.cap⟩

section
variable {S : List Nat} {w0 w : World} {its : List Thing}
theorem book_new (h : Hp S w0 w its) {i bp : Nat} {p : PC} (hi : its[i]? = some (tBlk bp 88 [p.a, p.b, p.k, p.g, p.o, p.s, .slice none 0 0, .slice none 0 0, .slice none 0 0, .slice none 0 0, .slice none 0 0, .slice none 0 0, .int .i64 0, .int .i64 0, .int .i64 0])) : Hp S w0 w (its.set i (tBook bp p 0 0)) :=
  h.weak hi rfl (fun w O hO => by
    have hf : Sh.fits ⟨⟨none, 0, 0⟩, ⟨none, 0, 0⟩, [], []⟩ 0 0 := ⟨by simp, by simp, by simp, by simp⟩
    refine ⟨⟨⟨⟨none, 0, 0⟩, ⟨none, 0, 0⟩, [], []⟩, ⟨⟨none, 0, 0⟩, ⟨none, 0, 0⟩, [], []⟩, ⟨⟨none, 0, 0⟩, ⟨none, 0, 0⟩, [], []⟩⟩, ⟨hf, hf, hf⟩, O, [], hO, ⟨[], [], shelf_none, ⟨[], [], shelf_none, shelf_none, by simp, by simp⟩, by simp, by simp⟩, by simp, by simp⟩) rfl

theorem book_ld (h : Hp S w0 w its) (i : Nat) {bp c N M : Nat} {p : PC} {k : Kd} {x : k.T} {K : k.T → Prop} (hi : (its[i]?).map Thing.holds = some (tBook bp p N M).holds) (hc : [p.a, p.b, p.k, p.g, p.o, p.s][c]? = some (k.inj x)) (hK : K x) : Ld k w ((⟨bp, 0, none⟩ : Addr).add c) K := by
  obtain ⟨O, q, hq, O1, O2, ⟨hb, _⟩, _⟩ := h.see' hi
  have hlt := (List.getElem?_eq_some_iff.1 hc).1
  have e : (q.cells p)[c]? = some (k.inj x) := by
    show ([p.a, p.b, p.k, p.g, p.o, p.s] ++ _)[c]? = _
    rw [List.getElem?_append_left hlt]; exact hc
  rw [Addr.add_none, Nat.zero_add]
  exact Go.Den.ld hb e hK

theorem book_ld0 (h : Hp S w0 w its) (i : Nat) {bp N M : Nat} {p : PC} {k : Kd} {x : k.T} {K : k.T → Prop} (hi : (its[i]?).map Thing.holds = some (tBook bp p N M).holds) (hc : p.a = k.inj x) (hK : K x) : Ld k w ⟨bp, 0, none⟩ K := by
  have := book_ld h i (c := 0) (k := k) (x := x) hi (by rw [hc]; rfl) hK
  rwa [Addr.add_none, Nat.zero_add] at this

theorem f3r (h : Hp S w0 w its) {i i' i'' j : Nat} (hne : [i, i', i''].Nodup) (hj : j ∉ [i, i', i'']) {t u v x : Thing} (hi : its[i]? = some t) (hi' : its[i']? = some u) (hi'' : its[i'']? = some v) (hx : its[j]? = some x) (ho : t.own = true) (ho' : u.own = true) (ho'' : v.own = true) :
    ∃ O, Hp O w w [t, u, v, x.ro] ∧ ∀ {w' : World} {t' u' v' : Thing} {rest : List Thing}, t'.own = true → u'.own = true → v'.own = true → Hp.owns rest = true → Hp O w w' (t' :: u' :: v' :: rest) → Hp S w0 w' (((its.set i t').set i' u').set i'' v' ++ rest) := by
  obtain ⟨O, h1, h2⟩ := h.frame [i, i', i''] [j] hne (fun k hk hk' => by simp only [List.mem_singleton] at hk'; subst hk'; exact hj hk) (ts := [t, u, v]) (us := [x]) rfl rfl (Hp.getL3 hi hi' hi'') (Hp.getL1 hx) (by simp [ho, ho', ho''])
  exact ⟨O, by simpa using h1, fun {w' t' u' v' rest} q1 q2 q3 hr hp => h2 (ts' := [t', u', v']) rfl (by simp [q1, q2, q3]) (Hp.of_owns hr) (by simpa using hp)⟩

set_option maxHeartbeats 2000000 in
theorem made_spec (h : Hp S w0 w its) (j : Nat) {ks : Sl} {ys : List KS} {u : Thing} (hj : its[j]? = some u) (hu : u.holds = (tRK ks ys).holds) (hl : ys.length ≤ 10000000) (hsz : ∀ x ∈ ys, x.2.2.length ≤ 10000000 ∧ x.1.size ≤ 1000000000000 ∧ ∀ y ∈ x.2.2, y.size ≤ 1000000000000) {K : Option Addr → Bool → World → Prop}
    (hok : mayOk (kinds ys) → ∀ bp ab bb w', Hp S w0 w' (its ++ [tBook bp (pcOf ab bb ks ⟨none, 0, 0⟩ ⟨none, 0, 0⟩ ⟨none, 0, 0⟩) 0 0, tW ab (WA.new (kinds ys)), tRW bb (WA.new (kinds ys))]) → K (some ⟨bp, 0, none⟩) true w') (hno : ¬ mayOk (kinds ys) → ∀ w', Hp S w0 w' its → K none true w') : c8 ks w K := by
  refine c8_of ?_
  unfold f8
  have hjl := (List.getElem?_eq_some_iff.1 hj).1
  have hkl : (kinds ys).length = ys.length := by simp [kinds]
  have rd : ∀ {w' : World} {l : List Thing}, Hp S w0 w' (its ++ l) → RdK w' ks (kinds ys) := fun {w' l} h => by
    obtain ⟨O, hO⟩ := h.see (i := j) (by rw [List.getElem?_append_left hjl]; exact hj)
    rw [hu] at hO
    exact rk_rd hO
  have rd0 : RdK w ks (kinds ys) := rd (l := []) (by rw [List.append_nil]; exact h)
  have hsz2 : ∀ x ∈ kinds ys, x.2.length ≤ 10000000 ∧ x.1.size ≤ 1000000000000 ∧ ∀ y ∈ x.2, y.size ≤ 1000000000000 := fun x hx => by
    obtain ⟨y, hy, rfl⟩ := List.mem_map.1 hx
    exact hsz y hy
  refine lentKinds_spec h rd0 (by omega) (fun x hx => (hsz2 x hx).1) fun l xs w1 hxk hxl hxx hcap h => ?_
  have g0 : ∀ {t : Thing} {more : List Thing}, (its ++ t :: more)[its.length]? = some t := fun {t more} => by rw [List.getElem?_append_right (Nat.le_refl _)]; simp
  have hxl2 : xs.length = ys.length := by have := congrArg List.length hxk; simpa [kinds] using this
  obtain ⟨OL, hOL⟩ := h.see (i := its.length) g0
  have rdl : RdK w1 l (kinds ys) := by rw [← hxk]; exact rk_rd (lent_rk hOL hxl hxx)
  have hv : ∀ x ∈ xs, x.2.2.length ≤ 10000000 := fun x hx => (hsz2 (x.1, x.2.2) (by rw [← hxk]; exact List.mem_map.2 ⟨x, hx, rfl⟩)).1
  have tail : ∀ {w2 : World} {more : List Thing} {K : Bool → World → Prop}, Hp S w0 w2 (its ++ tLent l xs :: more) → (∀ w', Hp S w0 w' (its ++ tEmp :: more) → K true w') → c32 l ks w2 K := fun {w2 more K} h hK => by
    refine stillKinds_spec h its.length j (by omega) (s := l) (was := ks) (xs := xs) (ys := ys) (u := u) g0 hxl hxx hcap (by rw [List.getElem?_append_left hjl]; exact hj) hu hxk (by omega) hv fun w' h => hK w' ?_
    rw [List.set_append_right _ _ (Nat.le_refl _), Nat.sub_self, List.set_cons_zero] at h
    exact h
  refine New_R h rdl (by omega) (fun x hx => (hsz2 x hx).2) (fun hm ab w2 h => ?_) (fun hm w2 h => ?_)
  · have h : Hp S w0 w2 (its ++ tLent l xs :: [tW ab (WA.new (kinds ys))]) := by simpa using h
    refine tail h fun w3 h => ?_
    refine RNew_W h (rd h) (by omega) hsz2 (fun _ bb w4 h => ?_) (fun hm2 => absurd hm hm2)
    refine ifF (by simp) (ifF (by simp) ?_)
    refine h.nw (c := [_, _, _, _, _, _, _, _, _, _, _, _, _, _, _]) fun bp w5 h => ?_
    have h : Hp S w0 w5 (its ++ [tEmp] ++ [tW ab (WA.new (kinds ys)), tRW bb (WA.new (kinds ys)), tBlk bp 88 [(pcOf ab bb ks ⟨none, 0, 0⟩ ⟨none, 0, 0⟩ ⟨none, 0, 0⟩).a, (pcOf ab bb ks ⟨none, 0, 0⟩ ⟨none, 0, 0⟩ ⟨none, 0, 0⟩).b, (pcOf ab bb ks ⟨none, 0, 0⟩ ⟨none, 0, 0⟩ ⟨none, 0, 0⟩).k, (pcOf ab bb ks ⟨none, 0, 0⟩ ⟨none, 0, 0⟩ ⟨none, 0, 0⟩).g, (pcOf ab bb ks ⟨none, 0, 0⟩ ⟨none, 0, 0⟩ ⟨none, 0, 0⟩).o, (pcOf ab bb ks ⟨none, 0, 0⟩ ⟨none, 0, 0⟩ ⟨none, 0, 0⟩).s, .slice none 0 0, .slice none 0 0, .slice none 0 0, .slice none 0 0, .slice none 0 0, .slice none 0 0, .int .i64 0, .int .i64 0, .int .i64 0]]) := by
      simp only [List.append_assoc, List.cons_append, List.nil_append] at h ⊢
      exact h
    have h := h.cutMid
    have e : (its.length + 2) - its.length = 2 := by omega
    have h := book_new h (i := its.length + 2) (p := pcOf ab bb ks ⟨none, 0, 0⟩ ⟨none, 0, 0⟩ ⟨none, 0, 0⟩) (by rw [List.getElem?_append_right (by omega), e]; rfl)
    rw [List.set_append_right _ _ (by omega), e] at h
    have h : Hp S w0 w5 (its ++ [tW ab (WA.new (kinds ys)), tRW bb (WA.new (kinds ys))] ++ [tBook bp (pcOf ab bb ks ⟨none, 0, 0⟩ ⟨none, 0, 0⟩ ⟨none, 0, 0⟩) 0 0]) := by
      rw [List.append_assoc]; exact h
    exact hok hm bp ab bb w5 h.up
  · refine tail h fun w3 h => ?_
    refine RNew_W h (rd h) (by omega) hsz2 (fun hm2 => absurd hm2 hm) (fun _ w4 h => ?_)
    exact ifF (by simp) (ifT (by simp) (hno hm w4 h.front))

end
end Go.Proofs.Ytcccjgmekakabaa.FW
end

section
set_option linter.unusedSimpArgs false
set_option linter.unusedVariables false
set_option maxRecDepth 100000
namespace Go.Proofs.Ytcccjgmekakabaa.FW
open Go.Proofs.Ytcccjgmekakabaa.F
open Go Go.Den Go.Proofs
open Go.Proofs.Ytcccjgmekakabaa.FI (PoolM tPool)
open Go.Proofs.Ytcccjgmekakabaa.FT (TabM tTab Ent entV ent ent_len atI keyEnt iv iv_len)
open Go.Proofs.Ytcccjgmekakabaa.FP (R64 tB putU zig rowU encZ putU_len encZ_len)
def overL : ByteArray := ⟨#[111, 118, 101, 114]⟩

theorem snap_bytes' (a : WA) : Bytes a.snap := by
  intro x hx
  unfold WA.snap at hx
  rcases List.mem_append.1 hx with hx | hx
  · rcases List.mem_append.1 hx with hx | hx
    · exact FP.rowU_bytes _ x hx
    · exact FP.rowU_bytes _ x hx
  · obtain ⟨e, _, hx⟩ := List.mem_flatMap.1 hx
    unfold snapRow at hx
    rcases List.mem_append.1 hx with hx | hx
    · exact FP.putU_bytes (setI_nn _) x hx
    · exact FP.encZ_bytes _ x hx

theorem snap_len' {a : WA} (hf : a.fits) : a.snap.length ≤ 1000000 := by
  obtain ⟨g1, g2, g3, g4⟩ := stGens_rng hf.1.pok
  have r1 := rowU_len a.pool.stGens
  have r2 := rowU_len a.pool.free
  have hal := all_few hf.1
  have h := accR_len (l := a.rows) fun r hr => by
    obtain ⟨p, hpa, hp, hxp, hpf, hpr⟩ := rows_at hf hr
    obtain ⟨hp1, hp2⟩ := part_fit hf.1.len.2 hf.1.four hpf hpr
    rw [hxp]
    exact ⟨hp1, fun y hy => (hp2 y hy).1⟩
  have hrl : a.rows.length = a.all.length := by unfold WA.rows; rw [List.length_map]
  have e : a.snap = rowU a.pool.stGens ++ rowU a.pool.free ++ accR a.rows := by rw [acc_all hf]; rfl
  rw [e, List.length_append, List.length_append]
  omega

section
variable {S : List Nat} {w0 w : World} {its : List Thing}
set_option maxHeartbeats 16000000 in
theorem all_spec (h : Hp S w0 w its) (i i' i'' j : Nat) (hne : [i, i', i''].Nodup) (hjn : j ∉ [i, i', i'']) {bp ab bb N : Nat} {ks gv od ws : Sl} {a : WA} {ys : List KS} {u : Thing} (hi : its[i]? = some (tBook bp (pcOf ab bb ks gv od ws) N 0)) (hi' : its[i']? = some (tW ab a)) (hi'' : its[i'']? = some (tRW bb a)) (hj : its[j]? = some u) (hu : u.holds = (tRK ks ys).holds) (hk : kinds ys = a.ks) (hN : N ≤ 100000000)
    {K : Bool → World → Prop} (hK : ∀ w', Hp S w0 w' (its.set i (tBook bp (pcOf ab bb ks gv od ws) (N + 12000) 0)) → K true w') : c9 (some ⟨bp, 0, none⟩) w K := by
  refine c9_of ?_
  unfold f9
  obtain ⟨infS, s1, s2, s3, s4⟩ := inf9
  obtain ⟨infK, k1, k2, k3, k4⟩ := inf94
  obtain ⟨infB, b1, b2, b3, b4⟩ := FP.inf5
  obtain ⟨O, h1, back⟩ := f3r h hne hjn hi hi' hi'' hj rfl rfl rfl
  have fin : ∀ {w' : World} {more : List Thing}, Hp O w w' ([tBook bp (pcOf ab bb ks gv od ws) (N + 12000) 0, tW ab a, tRW bb a] ++ more) → K true w' := fun {w' more} h2 => by
    have := back (rest := []) rfl rfl rfl rfl h2.front
    rw [List.append_nil] at this
    have e1 : (its.set i (tBook bp (pcOf ab bb ks gv od ws) (N + 12000) 0)).set i' (tW ab a) = its.set i (tBook bp (pcOf ab bb ks gv od ws) (N + 12000) 0) := Hp.set_same (by
      have : i ≠ i' := by simp at hne; exact hne.1.1
      rw [List.getElem?_set_ne this]; exact hi')
    have e2 : (its.set i (tBook bp (pcOf ab bb ks gv od ws) (N + 12000) 0)).set i'' (tRW bb a) = its.set i (tBook bp (pcOf ab bb ks gv od ws) (N + 12000) 0) := Hp.set_same (by
      have : i ≠ i'' := by simp at hne; exact hne.1.2
      rw [List.getElem?_set_ne this]; exact hi'')
    rw [e1, e2] at this
    exact hK w' this
  clear h
  have h := h1
  clear h1 hK
  obtain ⟨hok, hfit⟩ := tW_ok h 1 rfl
  have hf : a.fits := ⟨hok, hfit⟩
  have hro : ∀ {w' : World} {t1 t2 t3 : Thing} {l : List Thing}, Hp O w w' (t1 :: t2 :: t3 :: u.ro :: l) → RdK w' ks a.ks := fun {w' t1 t2 t3 l} h => by
    obtain ⟨O', g⟩ := h.see (i := 3) rfl
    have g : u.holds w' O' := g
    rw [hu] at g
    rw [← hk]
    exact rk_rd g
  have hksl : a.ks.length = ks.len := (hro h).len
  have hks12 := hok.len
  have hks4 := hok.four
  have hsb := snap_bytes' a
  have hsl := snap_len' hf
  have hstr : strL (strOf a.snap) = a.snap := strL_of hsb
  have hrl : a.rows.length ≤ 200 := by have := all_few hok; unfold WA.rows; rw [List.length_map]; exact this
  have hrv : ∀ r ∈ a.rows, r.2.length ≤ 12 ∧ ∀ y ∈ r.2, y.2.length ≤ 4 := fun r hr => by
    obtain ⟨p, hpa, hp, hxp, hpf, hpr⟩ := rows_at hf hr
    obtain ⟨hp1, hp2⟩ := part_fit hok.len.2 hok.four hpf hpr
    rw [hxp]
    exact ⟨hp1, fun y hy => (hp2 y hy).1⟩
  refine nns ?_
  refine book_ld0 h 0 (k := .p) (x := some ⟨ab, 0, none⟩) rfl rfl ?_
  refine Rows_W h 1 rfl fun r w1 h => ?_
  refine nns ?_
  refine book_ld0 h 0 (k := .p) (x := some ⟨ab, 0, none⟩) rfl rfl ?_
  refine Rows_W h 1 rfl fun s w2 h => ?_
  refine nns ?_
  refine book_ld h 0 (c := 1) (k := .p) (x := some ⟨bb, 0, none⟩) rfl rfl ?_
  refine RRows_W h 2 rfl fun t w3 h => ?_
  refine nns ?_
  refine book_ld0 h 0 (k := .p) (x := some ⟨ab, 0, none⟩) rfl rfl ?_
  refine Shapes_W h 1 rfl fun x w4 h => ?_
  refine nns ?_
  refine book_ld0 h 0 (k := .p) (x := some ⟨ab, 0, none⟩) rfl rfl ?_
  refine Shapes_W h 1 rfl fun y w5 h => ?_
  refine nns ?_
  refine book_ld h 0 (c := 1) (k := .p) (x := some ⟨bb, 0, none⟩) rfl rfl ?_
  refine RShapes_W h 2 rfl fun z zs w6 hznd hzs hzl h => ?_
  refine nns ?_
  refine book_ld0 h 0 (k := .p) (x := some ⟨ab, 0, none⟩) rfl rfl ?_
  refine Kinds_W h 1 rfl fun k w7 h => ?_
  refine nns ?_
  refine book_ld0 h 0 (k := .p) (x := some ⟨ab, 0, none⟩) rfl rfl ?_
  refine Kinds_W h 1 rfl fun l w8 h => ?_
  refine nns ?_
  refine book_ld0 h 0 (k := .p) (x := some ⟨ab, 0, none⟩) rfl rfl ?_
  refine Snapshot_W h 1 rfl fun m w9 h => ?_
  refine nns ?_
  refine book_ld0 h 0 (k := .p) (x := some ⟨ab, 0, none⟩) rfl rfl ?_
  refine Snapshot_W h 1 rfl fun n w10 h => ?_
  refine nns ?_
  refine book_ld h 0 (c := 1) (k := .p) (x := some ⟨bb, 0, none⟩) rfl rfl ?_
  refine RSnapshot_W h 2 rfl fun r2 w11 h => ?_
  have h : Hp O w w11 [tBook bp (pcOf ab bb ks gv od ws) N 0, tW ab a, tRW bb a, u.ro, tRows r a.rows, tRows s a.rows, tRows t a.rows, tMp x (Value.int .i64) (Value.int .i64) a.shape, tMp y (Value.int .i64) (Value.int .i64) a.shape, tSl z 143 2 shv zs, tKinds k a.ks, tKinds l a.ks, tB m a.snap, tB n a.snap, tB r2 a.snap] := h
  refine h.rdb 14 (u := tB r2 a.snap) rfl Hp.rdSl (strOf a.snap) hstr ?_
  have same : ∀ {w' : World} {p1 p2 : Sl} {K : Bool → World → Prop} {its' : List Thing} (i1 i2 : Nat), Hp O w w' its' → (its'[i1]?).map Thing.holds = some (tRows p1 a.rows).holds → (its'[i2]?).map Thing.holds = some (tRows p2 a.rows).holds → (∀ w2, Hp O w w2 its' → K true w2) → c20 p1 p2 w' K := fun {w' p1 p2 K its'} i1 i2 h e1 e2 hK => by
    obtain ⟨O1, hO1⟩ := h.see' e1
    obtain ⟨O2, hO2⟩ := h.see' e2
    refine sameRows_spec (rdW_of hO1) (rdW_of hO2) (by omega) (fun r hr => ⟨by have := (hrv r hr).1; omega, fun y hy => by have := (hrv r hr).2 y hy; omega⟩) fun w2 hf2 => ?_
    rw [decide_eq_true rfl]
    exact hK w2 (h.keep hf2)
  refine same 4 6 h rfl rfl fun w12 h => ?_
  refine sameShapes_spec h 7 9 (u := tSl z 143 2 shv zs) rfl rfl Hp.rdSl (by omega) hznd hzs fun w13 h => ?_
  have kin : ∀ {w' : World} {p1 : Sl} {K : Bool → World → Prop} {t1 t2 t3 : Thing} {l : List Thing} (i1 : Nat), Hp O w w' (t1 :: t2 :: t3 :: u.ro :: l) → ((t1 :: t2 :: t3 :: u.ro :: l)[i1]?).map Thing.holds = some (tKinds p1 a.ks).holds → (∀ w2, Hp O w w2 (t1 :: t2 :: t3 :: u.ro :: l) → K true w2) → c39 p1 ks w' K := fun {w' p1 K t1 t2 t3 l} i1 h e1 hK => by
    obtain ⟨O1, hO1⟩ := h.see' e1
    refine SameKinds_spec (kinds_rd hO1) (hro h) (by omega) (fun x hx => by have := hks4 x hx; omega) fun w2 hf2 => ?_
    rw [decide_eq_true rfl]
    exact hK w2 (h.keep hf2)
  refine nns ?_
  refine book_ld h 0 (c := 2) (k := .sl) (x := ks) rfl rfl ?_
  refine kin 10 h rfl fun w14 h => ?_
  refine ⟨fun w' => Hp O w w' [tBook bp (pcOf ab bb ks gv od ws) N 0, tW ab a, tRW bb a, u.ro, tRows r a.rows, tRows s a.rows, tRows t a.rows, tMp x (Value.int .i64) (Value.int .i64) a.shape, tMp y (Value.int .i64) (Value.int .i64) a.shape, tSl z 143 2 shv zs, tKinds k a.ks, tKinds l a.ks, tB m a.snap, tB n a.snap, tB r2 a.snap], ?_, ?_⟩
  · refine ifF (by simp) (ifF (by simp) (ifF (by simp) ?_))
    refine h.rdb 12 (u := tB m a.snap) rfl Hp.rdSl (strOf a.snap) hstr ?_
    exact ifF (by simp) h
  clear h
  rintro w15 h
  refine nns ?_
  have rv14 : ∀ r ∈ a.rows, r.2.length ≤ 13 ∧ ∀ y ∈ r.2, y.2.length ≤ 10000 := fun r hr => ⟨by have := (hrv r hr).1; omega, fun y hy => by have := (hrv r hr).2 y hy; omega⟩
  have eb : ((⟨bp, 0, none⟩ : Addr).add 6) = ⟨bp, 6, none⟩ := by rw [Addr.add_none]
  rw [eb]
  refine rows_spec h 0 4 (by decide) (l := r) (ps := a.rows) rfl rfl (by omega) (by omega) rv14 fun w16 h => ?_
  refine nns ?_
  rw [eb]
  refine grows_spec h 0 (N := N) (M := 0 + 14 * a.rows.length + 1) rfl (by omega) fun w17 h => ?_
  have h : Hp O w w17 [tBook bp (pcOf ab bb ks gv od ws) (N + 2 * (0 + 14 * a.rows.length + 1)) 0, tW ab a, tRW bb a, u.ro, tEmp, tRows s a.rows, tRows t a.rows, tMp x (Value.int .i64) (Value.int .i64) a.shape, tMp y (Value.int .i64) (Value.int .i64) a.shape, tSl z 143 2 shv zs, tKinds k a.ks, tKinds l a.ks, tB m a.snap, tB n a.snap, tB r2 a.snap] := h
  have h := book_mono h (i := 0) (N' := N + 6000) (M' := 0) rfl (by omega) (by omega)
  have h : Hp O w w17 [tBook bp (pcOf ab bb ks gv od ws) (N + 6000) 0, tW ab a, tRW bb a, u.ro, tEmp, tRows s a.rows, tRows t a.rows, tMp x (Value.int .i64) (Value.int .i64) a.shape, tMp y (Value.int .i64) (Value.int .i64) a.shape, tSl z 143 2 shv zs, tKinds k a.ks, tKinds l a.ks, tB m a.snap, tB n a.snap, tB r2 a.snap] := h
  refine ⟨fun w' => Hp O w w' [tBook bp (pcOf ab bb ks gv od ws) (N + 6000) 0, tW ab a, tRW bb a, u.ro, tRows s a.rows, tRows t a.rows, tMp y (Value.int .i64) (Value.int .i64) a.shape, tSl z 143 2 shv zs, tKinds k a.ks, tKinds l a.ks, tB m a.snap, tB n a.snap], ?_, ?_⟩
  · refine ifT (by simp) ?_
    refine h.update (ek := Value.int .i64) (ev := Value.int .i64) (g := a.shape) (k := -1) (v := 7) 7 rfl rfl und58 key3 rfl fun w18 h => ?_
    refine h.update (ek := Value.int .i64) (ev := Value.int .i64) (k := 2) (v := 1000) 7 rfl rfl und58 key3 rfl fun w19 h => ?_
    exact h.selL [0, 1, 2, 3, 5, 6, 8, 9, 10, 11, 12, 13] (by decide) rfl
  clear h
  rintro w18 h
  obtain ⟨vs, hvs, h⟩ := h.nest_open (i := 8) rfl
  have hvl : vs.length = a.ks.length := by rw [← hvs, List.length_map]
  have h : Hp O w w18 [tBook bp (pcOf ab bb ks gv od ws) (N + 6000) 0, tW ab a, tRW bb a, u.ro, tRows s a.rows, tRows t a.rows, tMp y (Value.int .i64) (Value.int .i64) a.shape, tSl z 143 2 shv zs, tSl k 94 2 kdv vs, tKinds l a.ks, tB m a.snap, tB n a.snap, tAll (vs.map tF)] := h
  have hkl := h.len (s := k) 8 rfl
  refine ⟨fun t0 mm w' => ∃ (q : Nat) (us : List KS) (ts : List Thing), t0 = q ∧ q ≤ vs.length ∧ mm = vs.length - q ∧ us.length = vs.length ∧ us.drop q = vs.drop q ∧ ts.drop q = (vs.map tF).drop q ∧ Hp O w w' [tBook bp (pcOf ab bb ks gv od ws) (N + 6000) 0, tW ab a, tRW bb a, u.ro, tRows s a.rows, tRows t a.rows, tMp y (Value.int .i64) (Value.int .i64) a.shape, tSl z 143 2 shv zs, tSl k 94 2 kdv us, tKinds l a.ks, tB m a.snap, tB n a.snap, tAll ts],
    ⟨vs.length, 0, vs, vs.map tF, rfl, by omega, rfl, rfl, rfl, rfl, h⟩, ?_⟩
  clear h
  rintro t0 mm w19 ⟨q, us, ts, rfl, hq, rfl, hul, hud, htd, h⟩
  by_cases hlt : q < vs.length
  · refine ifT (by simp; omega) ?_
    have hy : us[q]? = some vs[q] := by
      have e := congrArg (fun L => L[0]?) hud
      simpa [hlt] using e
    have ht : ts[q]? = some (tF vs[q]) := by
      have e := congrArg (fun L => L[0]?) htd
      simpa [hlt] using e
    have hv4 : vs[q].2.2.length ≤ 4 := hks4 (kvis vs[q]) (by rw [← hvs]; exact List.mem_map_of_mem (List.getElem_mem hlt))
    generalize vs[q] = v at hy ht hv4
    refine h.ixr (s := k) (l := us) (f := kdv) (n := 2) (e := 94) 8 rfl (by omega) (by rw [Int.toNat_natCast]; exact hy) kdv_len fun ad hc => ?_
    refine ldR (k := .sl) (x := v.2.1) (hc 1 (by omega)) rfl ?_
    have h := h.pick (i := 12) (k := q) rfl ht rfl
    have h : Hp O w w19 [tBook bp (pcOf ab bb ks gv od ws) (N + 6000) 0, tW ab a, tRW bb a, u.ro, tRows s a.rows, tRows t a.rows, tMp y (Value.int .i64) (Value.int .i64) a.shape, tSl z 143 2 shv zs, tSl k 94 2 kdv us, tKinds l a.ks, tB m a.snap, tB n a.snap, tAll (ts.set q tEmp), tSl v.2.1 9 1 sv v.2.2] := h
    have hfl := h.len (s := v.2.1) 13 rfl
    refine ⟨fun t0 mm w' => ∃ (p : Nat) (fs : List ByteArray), t0 = p ∧ p ≤ v.2.1.len ∧ mm = v.2.1.len - p ∧ fs.length = v.2.1.len ∧ Hp O w w' [tBook bp (pcOf ab bb ks gv od ws) (N + 6000) 0, tW ab a, tRW bb a, u.ro, tRows s a.rows, tRows t a.rows, tMp y (Value.int .i64) (Value.int .i64) a.shape, tSl z 143 2 shv zs, tSl k 94 2 kdv us, tKinds l a.ks, tB m a.snap, tB n a.snap, tAll (ts.set q tEmp), tSl v.2.1 9 1 sv fs], ⟨v.2.1.len, 0, v.2.2, rfl, by omega, rfl, hfl, h⟩, ?_⟩
    clear h
    rintro t0 mm w20 ⟨p, fs, rfl, hp, rfl, hfsl, h⟩
    by_cases hpl : p < v.2.1.len
    · refine ifT (by simp; omega) ?_
      refine h.ixst (s := v.2.1) (y := overL) 13 rfl (by omega) (by rw [Int.toNat_natCast]; omega) sv_len rfl rfl fun w21 h => ?_
      exact ⟨v.2.1.len - (p + 1), by omega, p + 1, fs.set _ overL, by rw [wr64 (by omega) (by omega)]; omega, by omega, rfl, by simpa using hfsl, h⟩
    · refine ifF (by simp; omega) ?_
      refine h.nwS (l := [overL, overL, overL, overL, overL]) (f := sv) (n := 1) (c := [_, _, _, _, _]) rfl rfl sv_len fun b w21 h => ?_
      refine h.appS 13 14 (s := v.2.1) (s2 := ⟨some ⟨b, 0, none⟩, 5, 5⟩) rfl rfl Hp.rdSl sv_len und81 s1 s3 s2 rfl (by simp [sv, Value.oneCell']) (by rw [s4]; show (v.2.1.len + 5) * 16 ≤ _; omega) (by show v.2.1.len + 5 ≤ _; omega) fun f w22 h _ _ => ?_
      refine h.ixst2 (s := k) (l := us) (y := ((overL, f, []) : KS)) 8 rfl (by omega) (by rw [Int.toNat_natCast]; omega) kdv_len rfl rfl rfl fun w23 h => ?_
      rw [Int.toNat_natCast] at h
      refine ⟨vs.length - (q + 1), by omega, q + 1, us.set q (overL, f, []), ts.set q tEmp, by rw [wr64 (by omega) (by omega)]; omega, by omega, rfl, by simpa using hul, by
        rw [List.drop_set_of_lt (by omega), ← List.drop_drop, hud, List.drop_drop], by
        rw [List.drop_set_of_lt (by omega), ← List.drop_drop, htd, List.drop_drop], h.trim 13⟩
  · refine ifF (by simp; omega) ?_
    refine h.nwS (l := [((overL, ⟨none, 0, 0⟩, []) : KS), (overL, ⟨none, 0, 0⟩, [])]) (f := kdv) (n := 2) (c := [_, _, _, _]) rfl rfl kdv_len fun b w20 h => ?_
    refine h.appS 8 13 (s := k) (s2 := ⟨some ⟨b, 0, none⟩, 2, 2⟩) rfl rfl Hp.rdSl kdv_len und22 k1 k3 k2 rfl (by simp [kdv, Value.oneCell']) (by rw [k4]; show (k.len + 2) * 40 ≤ _; omega) (by show k.len + 2 ≤ _; omega) fun k2 w21 h hk2 _ => ?_
    have hk2 : k2.len = k.len + 2 := hk2
    have h : Hp O w w21 [tBook bp (pcOf ab bb ks gv od ws) (N + 6000) 0, tW ab a, tRW bb a, u.ro, tRows s a.rows, tRows t a.rows, tMp y (Value.int .i64) (Value.int .i64) a.shape, tSl z 143 2 shv zs, tKinds l a.ks, tB n a.snap, tB m a.snap] := h.selL [0, 1, 2, 3, 4, 5, 6, 7, 9, 11, 10] (by decide) rfl
    have hml := h.len (s := m) 10 rfl
    refine ⟨fun t0 mm w' => ∃ (q : Nat) (us : List Int), t0 = q ∧ q ≤ m.len ∧ mm = m.len - q ∧ us.length = m.len ∧ Hp O w w' [tBook bp (pcOf ab bb ks gv od ws) (N + 6000) 0, tW ab a, tRW bb a, u.ro, tRows s a.rows, tRows t a.rows, tMp y (Value.int .i64) (Value.int .i64) a.shape, tSl z 143 2 shv zs, tKinds l a.ks, tB n a.snap, tB m us], ⟨m.len, 0, a.snap, rfl, by omega, rfl, hml, h⟩, ?_⟩
    clear h
    rintro t0 mm w22 ⟨q, us, rfl, hq, rfl, hul, h⟩
    by_cases hlt2 : q < m.len
    · refine ifT (by simp; omega) ?_
      refine h.ixst (s := m) (y := 201) 10 rfl (by omega) (by rw [Int.toNat_natCast]; omega) u8v_len rfl rfl fun w23 h => ?_
      exact ⟨m.len - (q + 1), by omega, q + 1, us.set _ 201, by rw [wr64 (by omega) (by omega)]; omega, by omega, rfl, by simpa using hul, h⟩
    refine ifF (by simp; omega) ?_
    refine ⟨fun m9 t0 mm w' => ∃ (q : Nat) (us : List Int), t0 = q ∧ q ≤ 70 ∧ mm + q = 70 ∧ us.length = m.len + q ∧ Hp O w w' [tBook bp (pcOf ab bb ks gv od ws) (N + 6000) 0, tW ab a, tRW bb a, u.ro, tRows s a.rows, tRows t a.rows, tMp y (Value.int .i64) (Value.int .i64) a.shape, tSl z 143 2 shv zs, tKinds l a.ks, tB n a.snap, tB m9 us], ⟨70, 0, us, rfl, by omega, by omega, hul, h⟩, ?_⟩
    clear h
    rintro m9 t0 mm w23 ⟨q2, us2, rfl, hq2, hmm, hul2, h⟩
    by_cases hlt3 : q2 < 70
    · refine ifT (by simp; omega) ?_
      have hm9 := h.len (s := m9) 10 rfl
      refine h.nwapp 10 (201 : Int) (c := [_]) rfl u8v_len und50 b1 b3 b2 rfl rfl (by simp [Value.oneCell']) (by rw [b4]; omega) (by omega) fun m11 w24 h _ _ => ?_
      exact ⟨69 - q2, by omega, q2 + 1, us2 ++ [201], by rw [wr64 (by omega) (by omega)]; omega, by omega, by omega, by simp [hul2]; omega, h⟩
    refine ifF (by simp; omega) ?_
    refine same 4 5 h rfl rfl fun w24 h => ?_
    refine sameShapes_spec h 6 7 (u := tSl z 143 2 shv zs) rfl rfl Hp.rdSl (by omega) hznd hzs fun w25 h => ?_
    refine nns ?_
    refine book_ld h 0 (c := 2) (k := .sl) (x := ks) rfl rfl ?_
    refine kin 8 h rfl fun w26 h => ?_
    refine nns ?_
    rw [eb]
    refine rows_spec h 0 4 (by decide) (l := s) (ps := a.rows) rfl rfl (by omega) (by omega) rv14 fun w27 h => ?_
    refine nns ?_
    rw [eb]
    refine grows_spec h 0 (N := N + 6000) (M := 0 + 14 * a.rows.length + 1) rfl (by omega) fun w28 h => ?_
    have h := book_mono h (i := 0) (N' := N + 12000) (M' := 0) rfl (by omega) (by omega)
    have h : Hp O w w28 [tBook bp (pcOf ab bb ks gv od ws) (N + 12000) 0, tW ab a, tRW bb a, u.ro, tEmp, tRows t a.rows, tMp y (Value.int .i64) (Value.int .i64) a.shape, tSl z 143 2 shv zs, tKinds l a.ks, tB n a.snap, tB m9 us2] := h
    refine ⟨fun w' => Hp O w w' [tBook bp (pcOf ab bb ks gv od ws) (N + 12000) 0, tW ab a, tRW bb a, tB n a.snap], ?_, ?_⟩
    · refine ifT (by simp) ?_
      refine h.update (ek := Value.int .i64) (ev := Value.int .i64) (g := a.shape) (k := -2) (v := 8) 6 rfl rfl und58 key3 rfl fun w29 h => ?_
      exact h.selL [0, 1, 2, 9] (by decide) rfl
    clear h
    rintro w29 h
    refine ifT rfl (ifT rfl (ifT rfl ?_))
    refine h.rdb 3 (u := tB n a.snap) rfl Hp.rdSl (strOf a.snap) hstr ?_
    refine ifT (by simp) ?_
    refine nns ?_
    refine book_ld h 0 (c := 2) (k := .sl) (x := ks) rfl rfl ?_
    have e : ((k2.len : Int) == IntKind.i64.wrap ((ks.len : Int) + 2)) = true := by
      rw [wr64 (by omega) (by omega)]
      simp; omega
    rw [e]
    exact fin (more := [tB n a.snap]) h

end
end Go.Proofs.Ytcccjgmekakabaa.FW
end

section
set_option linter.unusedSimpArgs false
set_option linter.unusedVariables false
set_option maxRecDepth 100000
namespace Go.Proofs.Ytcccjgmekakabaa.FW
open Go.Proofs.Ytcccjgmekakabaa.F
open Go Go.Den Go.Proofs Go.RowKit
theorem new_spec {w : World} {ks : Sl} {ys : List KS} {O : List Nat} (hr : (tRK ks ys).holds w O) (hl : ys.length ≤ 10000000) (hsz : ∀ x ∈ ys, x.2.2.length ≤ 10000000 ∧ x.1.size ≤ 1000000000000 ∧ ∀ y ∈ x.2.2, y.size ≤ 1000000000000) {K : Bool → World → Prop} (hK : ∀ w', Fr [] w w' → K true w') : c3 ks w K := by
  refine c3_of ?_
  unfold f3
  have h := Hp.begin_ w
  have h := h.addRo (t := tRK ks ys) hr (by simp)
  refine shown_spec h fun w1 h => ?_
  refine made_spec h 0 (u := (tRK ks ys).ro) rfl rfl hl hsz (fun hm bp ab bb w2 h => ?_) (fun hm w2 h => ?_)
  · refine ifF (by simp) (ifF (by simp) ?_)
    refine all_spec h 1 2 3 0 (by decide) (by decide) (N := 0) (u := (tRK ks ys).ro) (ys := ys) rfl rfl rfl rfl rfl rfl (by omega) fun w3 h => ?_
    exact hK w3 h.1
  · exact ifF (by simp) (ifT (by simp) (hK w2 h.1))

theorem und94 : Try.prog.underlying 94 = some (.struct (Try.prog.fieldsOf 94)) := by kernel_rfl

theorem cel9 : Try.prog.cellsOf 9 = 1 := by kernel_rfl

theorem cel81 : Try.prog.cellsOf 81 = 1 := by kernel_rfl

theorem cel94 : Try.prog.cellsOf 94 = 2 := by kernel_rfl

theorem dec_strs {w : World} {B n : Nat} {cs : List Value} (h : RdV Try.prog w B n 81 cs) : ∃ (s : Sl) (l : List ByteArray) (o : List Nat), cs = [.slice s.a s.len s.cap] ∧ SlR w s 1 sv l o ∧ l.length ≤ B ∧ s.len ≤ s.cap ∧ ∀ x ∈ l, x.size ≤ B := by
  obtain ⟨s, l, o, h1, h2, h3, _, h4, h5⟩ := rd_slice (f := sv) (G := fun x => x.size ≤ B) und81 cel9 (by omega) (fun m ci _ hr => by
    obtain ⟨x, hx, _, h⟩ := rd_string und9 hr
    exact ⟨x, hx, h⟩) h
  exact ⟨s, l, o, h1, h2, h4, h5, h3⟩

theorem dec_kind {w : World} {B m : Nat} {ci : List Value} (hl : ci.length = 2) (h : RdV Try.prog w B m 94 ci) :
    ∃ x : KS, ci = kdv x ∧ x.2.1.len ≤ x.2.1.cap ∧ (∃ o, SlR w x.2.1 1 sv x.2.2 o) ∧ x.2.2.length ≤ B ∧ x.1.size ≤ B ∧ ∀ y ∈ x.2.2, y.size ≤ B := by
  obtain ⟨_, q, hf⟩ := rd_struct und94 h
  match ci, hl with
  | [c0, c1], _ =>
    obtain ⟨m0, e0, _, h0⟩ := rd_string und9 (rd_field hf 0 (ft := 9) (off := 0) (sz := 1) (by kernel_rfl) cel9)
    obtain ⟨s, l, o, e1, h1, h2, h3, h4⟩ := dec_strs (rd_field hf 1 (ft := 81) (off := 1) (sz := 1) (by kernel_rfl) cel81)
    simp only [List.drop_zero, List.drop_succ_cons, List.take_succ_cons, List.take_zero, List.cons.injEq, and_true] at e0 e1
    subst e0 e1
    exact ⟨(m0, s, l), rfl, h3, ⟨o, h1⟩, h2, h0, h4⟩

theorem dec_kinds {w : World} {B n : Nat} {a : Option Addr} {len cap : Nat} (h : RdV Try.prog w B n 22 [.slice a len cap]) :
    ∃ (ys : List KS) (O : List Nat), (tRK ⟨a, len, cap⟩ ys).holds w O ∧ ys.length ≤ B ∧ ∀ x ∈ ys, x.2.2.length ≤ B ∧ x.1.size ≤ B ∧ ∀ y ∈ x.2.2, y.size ≤ B := by
  obtain ⟨s, l, o, h1, h2, h3, _, h4, h5⟩ := rd_slice (f := kdv) (G := fun x => x.2.1.len ≤ x.2.1.cap ∧ (∃ o, SlR w x.2.1 1 sv x.2.2 o) ∧ x.2.2.length ≤ B ∧ x.1.size ≤ B ∧ ∀ y ∈ x.2.2, y.size ≤ B) und22 cel94 (by omega) (fun m ci hl hr => dec_kind hl hr) h
  simp only [List.cons.injEq, Value.slice.injEq, and_true] at h1
  obtain ⟨rfl, rfl, rfl⟩ := h1
  refine ⟨l, List.range w.heap.size, ⟨fun k hk => List.mem_range.1 hk, ⟨o, h2, fun k hk => List.mem_range.2 (h2.lt k hk)⟩, fun x hx => ?_⟩, h4, fun x hx => (h3 x hx).2.2⟩
  obtain ⟨q1, ⟨o', q2⟩, _⟩ := h3 x hx
  exact ⟨q1, o', q2, fun k hk => List.mem_range.2 (q2.lt k hk)⟩

theorem new_call {w : World} {n : Nat} {a : Option Addr} {len cap : Nat} (h : RdV Try.prog w 1048576 n 22 [.slice a len cap]) :
    Calls Try.prog 3 #[.slice a len cap] w fun e w' => e = .returned (.bool true) ∧ Below w.heap.size w w' := by
  obtain ⟨ys, O, h1, h2, h3⟩ := dec_kinds h
  exact calls_true (new_spec (ks := ⟨a, len, cap⟩) h1 (by omega) (fun x hx => ⟨by have := (h3 x hx).1; omega, by have := (h3 x hx).2.1; omega, fun y hy => by have := (h3 x hx).2.2 y hy; omega⟩) fun w' hf => ⟨rfl, hf⟩)

end Go.Proofs.Ytcccjgmekakabaa.FW
end
