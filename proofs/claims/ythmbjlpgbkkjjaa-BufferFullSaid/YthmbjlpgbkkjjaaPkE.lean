/-
  Part 5 of the proof: BufferFull of layer 17 is true of the given program for every input that its guards let in.
-/
import Derived.Test.YthmbjlpgbkkjjaaPkD
import Derived.Lib.SliceRun
import Derived.Laws.IdiomRangeMap
set_option linter.unusedSimpArgs false
set_option linter.unusedVariables false
set_option maxRecDepth 100000
section
namespace Go.Den.Hp
theorem selL {S : List Nat} {w0 w : World} {its : List Thing} (h : Hp S w0 w its) (js : List Nat) (hnd : js.Nodup) {ts : List Thing} (e : js.map (fun j => its[j]?) = ts.map some) : Hp S w0 w ts := by
 have hl : ts.length = js.length := by have := congrArg List.length e; simpa using this.symm
 refine h.sel js hnd hl (fun n j hj => ?_)
 have h1 : (js.map (fun j => its[j]?))[n]? = some (its[j]?) := by rw [List.getElem?_map, hj]; rfl
 rw [e, List.getElem?_map] at h1
 cases ht : ts[n]? with
 | none => rw [ht] at h1; cases h1
 | some t => rw [ht] at h1; exact (Option.some.inj h1).symm
end Go.Den.Hp
namespace Go.Proofs.Ythmbjlpgbkkjjaa.FW
open F
open Go Go.Den Go.Proofs
open FI (PoolM tPool)
open FT (TabM tTab Ent entV ent atI keyEnt iv)
def WH.all (b : Nat) (m : WM) (q : WH) (u : Thing) : List Thing :=
 [q.blk b, u, tSl q.sk 87 2 kdv q.xs, tAll (q.xs.map tF), tPool 112 q.pb m.pool, tMp q.ms entV (Value.int .i64) m.sets, tMp q.mt (Value.int .i64) pv (tptr q.T), tAll (q.T.map tT)]
theorem tptr_new {T : List TT} {set : Int} {tb : Nat} {t : TabM} (hn : tptr T set = none) : upd1 (tptr T) set (some tb) = tptr (T ++ [(set, tb, t)]) := by
 funext k
 unfold upd1 tptr
 rw [List.find?_append]
 unfold tptr at hn
 by_cases hk : k = set
 ·subst hk
  rw [if_pos rfl]
  cases hf : T.find? (fun x => decide (x.1 = k)) with
  | some x => rw [hf] at hn; cases hn
  | none => simp
 ·rw [if_neg hk]
  cases hf : T.find? (fun x => decide (x.1 = k)) with
  | some x => rfl
  | none =>
   have : ¬ set = k := fun e => hk e.symm
   simp [this]
theorem tptr_some {T : List TT} {set : Int} {tb : Nat} (h : tptr T set = some tb) : ∃ (k : Nat) (t : TabM), T[k]? = some (set, tb, t) := by
 unfold tptr at h
 obtain ⟨x, hx, rfl⟩ := Option.map_eq_some_iff.1 h
 have h1 := List.find?_some hx
 have h2 := List.mem_of_find?_eq_some hx
 simp only [decide_eq_true_eq] at h1
 obtain ⟨k, hk, rfl⟩ := List.mem_iff_getElem.1 h2
 exact ⟨k, (T[k]).2.2, by rw [List.getElem?_eq_getElem hk]; rw [← h1]⟩
theorem tptr_none {T : List TT} {set : Int} (h : tptr T set = none) : ∀ x ∈ T, x.1 ≠ set := by
 unfold tptr at h
 intro x hx e
 have := List.find?_eq_none.1 (Option.map_eq_none_iff.1 h) x hx
 simp [e] at this
section
variable {S : List Nat} {w0 w : World} {its : List Thing}
set_option maxHeartbeats 1000000 in
theorem tableOf_spec {b : Nat} {m : WM} {q : WH} {u : Thing} {more : List Thing} (h : Hp S w0 w (q.all b m u ++ more)) (hl : q.xs.length ≤ 12) (h4 : ∀ x ∈ q.xs, x.2.2.length ≤ 4) {set : Int} (s0 : 0 ≤ set) (s1 : set < 4611686018427387904) {K : Option Addr → World → Prop}
  (hK : ∀ T' tb w', (T' = q.T ∧ ∃ (k : Nat) (t : TabM), q.T[k]? = some (set, tb, t)) ∨ (T' = q.T ++ [(set, tb, ⟨atF (kinds q.xs) set q.xs.length, []⟩)] ∧ ∀ x ∈ q.T, x.1 ≠ set) → Hp S w0 w' (({ q with T := T' } : WH).all b m u ++ more) → K (some ⟨tb, 0, none⟩) w') : c85 (some ⟨b, 0, none⟩) set w K := by
 refine c85_of ?_
 unfold f85
 obtain ⟨inf, p1, p2, p3, p4⟩ := inf121
 have hsl := h.len (s := q.sk) 2 rfl
 refine nns ?_
 refine h.ld (n := 3) (k := .m) (x := some q.mt) 0 rfl rfl ?_
 refine h.lookup1 (kd := .p) (vk := fun tb => some ⟨tb, 0, none⟩) (z := (none : Option Addr)) (ek := Value.int .i64) (ev := pv) (g := tptr q.T) (k := set) 6 rfl rfl und99 key3 p1 p2 (fun _ => rfl) ?_
 cases ht : tptr q.T set with
 | some tb =>
  refine ifF (by simp) ?_
  exact hK q.T tb w (Or.inl ⟨rfl, tptr_some ht⟩) h
 | none =>
  refine ifT (by simp) ?_
  refine nns ?_
  refine h.ld0 (k := .sl) (x := q.sk) 0 rfl rfl ?_
  rw [show IntKind.i64.wrap ((q.sk.len : Int) + 1) = ((q.xs.length + 1 : Nat) : Int) by rw [wr64 (by omega) (by omega)]; omega]
  refine at_spec h 0 2 3 (cells := [_, _, _]) rfl rfl rfl hl h4 s0 s1 (Nat.le_refl _) ?_
  have hks : ∀ x ∈ kinds q.xs, x.2.length ≤ 4 := fun x hx => by
   obtain ⟨y, hy, rfl⟩ := List.mem_map.1 hx
   exact h4 y hy
  have hle := atF_le hks set q.xs.length
  refine FT.New_spec h (by omega) (by omega) fun tb w1 h => ?_
  rw [Int.toNat_natCast] at h
  refine nns ?_
  refine h.ld (n := 3) (k := .m) (x := some q.mt) 0 rfl rfl ?_
  refine h.update (ek := Value.int .i64) (ev := pv) (g := tptr q.T) (k := set) (v := tb) 6 rfl rfl und99 key3 rfl fun w2 h => ?_
  obtain ⟨t0, ht0⟩ : ∃ t0 : TabM, t0 = ⟨atF (kinds q.xs) set q.xs.length, []⟩ := ⟨_, rfl⟩
  rw [← ht0] at h
  rw [tptr_new (t := t0) ht] at h
  obtain ⟨A, hA⟩ : ∃ A : List Thing, A = [q.blk b, u, tSl q.sk 87 2 kdv q.xs, tAll (q.xs.map tF), tPool 112 q.pb m.pool, tMp q.ms entV (Value.int .i64) m.sets, tMp q.mt (Value.int .i64) pv (tptr (q.T ++ [(set, tb, t0)])), tAll (q.T.map tT)] ++ more := ⟨_, rfl⟩
  have h : Hp S w0 w2 (A ++ [tT (set, tb, t0)]) := by rw [hA]; exact h
  have hAl : 7 < A.length := by rw [hA]; simp
  have h := h.join (i := 7) (j := A.length) (a := tAll (q.T.map tT)) (b := tT (set, tb, t0)) (c := tAll ((q.T ++ [(set, tb, t0)]).map tT)) (by omega) (by rw [List.getElem?_append_left hAl, hA]; rfl) (by simp) (tAll_own _) rfl (tAll_own _) (fun w O1 O2 g1 g2 g3 => by
   rw [List.map_append]
   exact tAll_append g1 (us := [tT (set, tb, t0)]) (O2 := O2) ⟨O2, [], g2, rfl, by simp, by simp⟩ g3)
  have e : ((A ++ [tT (set, tb, t0)]).set 7 (tAll ((q.T ++ [(set, tb, t0)]).map tT))).set A.length tEmp = A.set 7 (tAll ((q.T ++ [(set, tb, t0)]).map tT)) ++ [tEmp] := by
   rw [List.set_append_left _ _ hAl, List.set_append_right _ _ (by rw [List.length_set]; omega), List.length_set, Nat.sub_self]; rfl
  rw [e] at h
  have h := h.front
  rw [hA] at h
  exact hK (q.T ++ [(set, tb, t0)]) tb w2 (.inr ⟨by rw [ht0], tptr_none ht⟩) h
theorem tptr_set {T : List TT} {k : Nat} {set : Int} {tb : Nat} {t t' : TabM} (hk : T[k]? = some (set, tb, t)) : tptr (T.set k (set, tb, t')) = tptr T := by
 have : (T.set k (set, tb, t')).map (fun x => (x.1, x.2.1)) = T.map (fun x => (x.1, x.2.1)) := by
  rw [List.map_set]
  apply List.ext_getElem?
  intro j
  by_cases hj : j = k
  ·subst hj
   have hlt := (List.getElem?_eq_some_iff.1 hk).1
   rw [List.getElem?_set_self (by simpa using hlt), List.getElem?_map, hk]; rfl
  ·rw [List.getElem?_set_ne (fun e => hj e.symm)]
 have key : ∀ (A : List TT) (s : Int), tptr A s = ((A.map (fun x => (x.1, x.2.1))).find? (fun x => decide (x.1 = s))).map (·.2) := fun A s => by
  unfold tptr
  induction A with
  | nil => rfl
  | cons a A ih =>
   rw [List.map_cons, List.find?_cons, List.find?_cons]
   by_cases h : a.1 = s
   ·simp [h]
   ·simp only [h, decide_false]
    exact ih
 funext s
 rw [key, key, this]
set_option maxHeartbeats 1000000 in
theorem enter_spec {b : Nat} {m : WM} {q : WH} {u : Thing} {more : List Thing} (h : Hp S w0 w (q.all b m u ++ more)) (hl : q.xs.length ≤ 12) (h4 : ∀ x ∈ q.xs, x.2.2.length ≤ 4) (hok : ∀ x ∈ q.T, x.2.2.Ok) {set : Int} (s0 : 0 ≤ set) (s1 : set < 4611686018427387904) {e : Ent} {vs : Sl} {xs : List Int} (hu : Hp.Reads u vs 1 iv xs) {K : World → Prop}
  (hK : ∀ (T1 : List TT) (k tb : Nat) (t : TabM) w', (T1 = q.T ∨ (T1 = q.T ++ [(set, tb, ⟨atF (kinds q.xs) set q.xs.length, []⟩)] ∧ ∀ x ∈ q.T, x.1 ≠ set)) → T1[k]? = some (set, tb, t) →
   Hp S w0 w' (({ q with T := T1.set k (set, tb, (t.addM e xs).1) } : WH).all b { m with sets := upd1 m.sets e (some set) } u ++ more) → K w') : c71 (some ⟨b, 0, none⟩) e.1 e.2 set vs w K := by
 refine c71_of ?_
 unfold f71
 refine h.nw (c := [_, _]) fun eb w1 h => ?_
 have h : Hp S w0 w1 (q.all b m u ++ (more ++ [tBlk eb 33 [.int .i64 e.1, .int .i64 e.2]])) := by rw [← List.append_assoc]; exact h
 refine h.dr fun w2 h => ?_
 refine nns ?_
 refine h.ld (n := 2) (k := .m) (x := some q.ms) 0 rfl rfl ?_
 have ge : ∀ {q : WH} {m : WM}, ((q.all b m u ++ (more ++ [tBlk eb 33 [.int .i64 e.1, .int .i64 e.2]]))[8 + more.length]?).map Thing.holds = some (tBlk eb 33 [.int .i64 e.1, .int .i64 e.2]).holds := fun {q m} => by
  have : (q.all b m u).length = 8 := rfl
  rw [List.getElem?_append_right (by omega), List.getElem?_append_right (by omega), this]
  simp
 refine h.ld0 (k := .i .i64) (x := e.1) (8 + more.length) ge rfl ?_
 refine h.ld (n := 1) (k := .i .i64) (x := e.2) (8 + more.length) ge rfl ?_
 refine h.update (ek := entV) (ev := Value.int .i64) (g := m.sets) (k := e) (v := set) 5 rfl rfl und98 keyEnt rfl fun w3 h => ?_
 have h : Hp S w0 w3 (q.all b { m with sets := upd1 m.sets e (some set) } u ++ (more ++ [tBlk eb 33 [.int .i64 e.1, .int .i64 e.2]])) := h
 refine h.dr fun w4 h => ?_
 refine h.ld0 (k := .i .i64) (x := e.1) (8 + more.length) ge rfl ?_
 refine h.ld (n := 1) (k := .i .i64) (x := e.2) (8 + more.length) ge rfl ?_
 refine tableOf_spec h hl h4 s0 s1 fun T1 tb w5 hT h => ?_
 refine ⟨h.cel0 (8 + more.length) ge rfl, h.cel (n := 1) (8 + more.length) ge rfl, ?_⟩
 obtain ⟨k, t, hk, hT'⟩ : ∃ (k : Nat) (t : TabM), T1[k]? = some (set, tb, t) ∧ (T1 = q.T ∨ (T1 = q.T ++ [(set, tb, ⟨atF (kinds q.xs) set q.xs.length, []⟩)] ∧ ∀ x ∈ q.T, x.1 ≠ set)) := by
  rcases hT with ⟨rfl, k, t, hk⟩ | ⟨rfl, hno⟩
  ·exact ⟨k, t, hk, .inl rfl⟩
  ·exact ⟨q.T.length, ⟨atF (kinds q.xs) set q.xs.length, []⟩, by simp, .inr ⟨rfl, hno⟩⟩
 have hks : ∀ x ∈ kinds q.xs, x.2.length ≤ 4 := fun x hx => by
  obtain ⟨y, hy, rfl⟩ := List.mem_map.1 hx
  exact h4 y hy
 have htok : t.Ok := by
  rcases hT' with rfl | ⟨rfl, _⟩
  ·exact hok _ (List.mem_of_getElem? hk)
  ·have hm := List.mem_of_getElem? hk
   rcases List.mem_append.1 hm with hm | hm
   ·exact hok _ hm
   ·simp only [List.mem_singleton, Prod.mk.injEq] at hm
    obtain ⟨_, _, rfl⟩ := hm
    have := atF_le hks set q.xs.length
    exact ⟨by show atF (kinds q.xs) set q.xs.length ≤ 48; omega, by simp, by simp [TabM.owners], by simp⟩
 obtain ⟨A, hA⟩ : ∃ A : List Thing, A = ({ q with T := T1 } : WH).all b { m with sets := upd1 m.sets e (some set) } u ++ (more ++ [tBlk eb 33 [.int .i64 e.1, .int .i64 e.2]]) := ⟨_, rfl⟩
 have hAl : 7 < A.length := by rw [hA]; simp [WH.all]
 have hA7 : A[7]? = some (tAll (T1.map tT)) := by rw [hA]; rfl
 have hA1 : A[1]? = some u := by rw [hA]; rfl
 rw [← hA] at h
 have htk : (T1.map tT)[k]? = some (tT (set, tb, t)) := by rw [List.getElem?_map, hk]; rfl
 have h := h.pick (i := 7) (k := k) hA7 htk rfl
 have hBl : (A.set 7 (tAll ((T1.map tT).set k tEmp))).length = A.length := List.length_set
 refine FT.Add_spec h A.length 1 (by omega) (e := e) (u := u) (b := tb) (m := t) htok (by rw [← hBl, List.getElem?_append_right (Nat.le_refl _), Nat.sub_self]; rfl) (by rw [List.getElem?_append_left (by omega), List.getElem?_set_ne (by decide)]; exact hA1) hu fun w6 h => ?_
 have hkl := (List.getElem?_eq_some_iff.1 hk).1
 rw [← hBl, List.set_append_right _ _ (Nat.le_refl _), Nat.sub_self] at h
 have h : Hp S w0 w6 (A.set 7 (tAll ((T1.map tT).set k tEmp)) ++ [tT (set, tb, (t.addM e xs).1)]) := h
 have h := h.unpick (i := 7) (j := A.length) (k := k) (ts := (T1.map tT).set k tEmp) (t := tT (set, tb, (t.addM e xs).1)) (by omega) (by rw [List.getElem?_append_left (by omega), List.getElem?_set_self hAl]) (by rw [← hBl, List.getElem?_append_right (Nat.le_refl _), Nat.sub_self]; rfl) (by rw [List.getElem?_set_self (by simpa using hkl)]) rfl
 rw [List.set_set, List.set_append_left _ _ (by omega), List.set_set, ← hBl] at h
 have e1 : (A.set 7 (tAll ((T1.map tT).set k (tT (set, tb, (t.addM e xs).1)))) ++ [tT (set, tb, (t.addM e xs).1)]).set (A.set 7 (tAll ((T1.map tT).set k tEmp))).length tEmp = A.set 7 (tAll ((T1.map tT).set k (tT (set, tb, (t.addM e xs).1)))) ++ [tEmp] := by
  rw [hBl, List.set_append_right _ _ (by rw [List.length_set]; omega), List.length_set, Nat.sub_self]; rfl
 rw [e1] at h
 have h := h.front
 have e2 : (T1.map tT).set k (tT (set, tb, (t.addM e xs).1)) = (T1.set k (set, tb, (t.addM e xs).1)).map tT := by rw [List.map_set]
 rw [e2, hA] at h
 have h : Hp S w0 w6 (({ q with T := T1.set k (set, tb, (t.addM e xs).1) } : WH).all b { m with sets := upd1 m.sets e (some set) } u ++ (more ++ [tBlk eb 33 [.int .i64 e.1, .int .i64 e.2]])) := by
  unfold WH.all
  rw [show tptr ({ q with T := T1.set k (set, tb, (t.addM e xs).1) } : WH).T = tptr T1 from tptr_set hk]
  exact h
 rw [← List.append_assoc] at h
 exact hK T1 k tb t w6 hT' hk h.front
end
end Go.Proofs.Ythmbjlpgbkkjjaa.FW
end

section
namespace Go.Proofs.Ythmbjlpgbkkjjaa.FW
open F
open Go Go.Den Go.Proofs
open FI (PoolM tPool)
open FT (TabM tTab Ent entV ent atI keyEnt iv)
section
variable {S : List Nat} {w0 w : World} {its : List Thing}
theorem ge_at {b : Nat} {m : WM} {q : WH} {u t : Thing} {more : List Thing} : (q.all b m u ++ (more ++ [t]))[8 + more.length]? = some t := by
 have : (q.all b m u).length = 8 := rfl
 rw [List.getElem?_append_right (by omega), List.getElem?_append_right (by omega), this]
 simp
theorem Lives_spec {b : Nat} {m : WM} {q : WH} {u : Thing} {more : List Thing} (h : Hp S w0 w (q.all b m u ++ more)) (hp : m.pool.Ok) {e : Ent} {K : Bool → World → Prop} (hK : ∀ w', Hp S w0 w' (q.all b m u ++ more) → K (m.pool.is e.1 e.2) w') : c18 (some ⟨b, 0, none⟩) e.1 e.2 w K := by
 refine c18_of ?_
 unfold f18
 refine h.nw (c := [_, _]) fun eb w1 h => ?_
 have h : Hp S w0 w1 (q.all b m u ++ (more ++ [tBlk eb 33 [.int .i64 e.1, .int .i64 e.2]])) := by rw [← List.append_assoc]; exact h
 refine h.dr fun w2 h => ?_
 refine nns ?_
 refine h.ld (n := 1) (k := .p) (x := some ⟨q.pb, 0, none⟩) 0 rfl rfl ?_
 refine h.ld0 (k := .i .i64) (x := e.1) (8 + more.length) (by rw [ge_at]; rfl) rfl ?_
 refine h.ld (n := 1) (k := .i .i64) (x := e.2) (8 + more.length) (by rw [ge_at]; rfl) rfl ?_
 refine FI.Lives_h h 4 hp rfl fun w3 h => ?_
 rw [← List.append_assoc] at h
 exact hK _ h.front
set_option maxHeartbeats 1000000 in
theorem asked_spec {b : Nat} {m : WM} {q : WH} {u : Thing} {more : List Thing} (h : Hp S w0 w (q.all b m u ++ more)) (hp : m.pool.Ok) (hl : q.xs.length ≤ 12) {e : Ent} (hset : ∀ s, m.sets e = some s → 0 ≤ s ∧ s < 4611686018427387904) {kind : Int} (k1 : -9223372036854775808 ≤ kind) (k2 : kind ≤ 9223372036854775807) {K : Int → Bool → Int → Int → World → Prop}
  (hK : ∀ w', Hp S w0 w' (q.all b m u ++ more) → (m.pool.is e.1 e.2 = false → K 0 false 0 41 w') ∧ (m.pool.is e.1 e.2 = true → fl (kinds q.xs) kind = none → K 0 false 0 60 w') ∧ (∀ n, m.pool.is e.1 e.2 = true → fl (kinds q.xs) kind = some n → K ((m.sets e).getD 0) (bit ((m.sets e).getD 0) kind.toNat == 1) (n : Nat) 0 w')) :
  c74 (some ⟨b, 0, none⟩) e.1 e.2 kind w K := by
 refine c74_of ?_
 unfold f74
 obtain ⟨inf, p1, p2, p3, p4⟩ := inf3
 refine h.nw (c := [_, _]) fun eb w1 h => ?_
 have h : Hp S w0 w1 (q.all b m u ++ (more ++ [tBlk eb 33 [.int .i64 e.1, .int .i64 e.2]])) := by rw [← List.append_assoc]; exact h
 have bk : ∀ {w}, Hp S w0 w (q.all b m u ++ (more ++ [tBlk eb 33 [.int .i64 e.1, .int .i64 e.2]])) → Hp S w0 w (q.all b m u ++ more) := fun {w} h => by
  rw [← List.append_assoc] at h; exact h.front
 refine h.dr fun w2 h => ?_
 refine nns ?_
 refine h.ld (n := 1) (k := .p) (x := some ⟨q.pb, 0, none⟩) 0 rfl rfl ?_
 refine h.ld0 (k := .i .i64) (x := e.1) (8 + more.length) (by rw [ge_at]; rfl) rfl ?_
 refine h.ld (n := 1) (k := .i .i64) (x := e.2) (8 + more.length) (by rw [ge_at]; rfl) rfl ?_
 refine FI.Lives_h h 4 hp rfl fun w3 h => ?_
 by_cases hlv : m.pool.is e.1 e.2 = true
 ·refine ifF (by rw [hlv]; simp) ?_
  refine fields_spec h 0 2 3 (cells := [_, _, _]) rfl rfl rfl (by omega) k1 k2 ?_
  cases hf : fl (kinds q.xs) kind with
  | none => exact ifT rfl ((hK _ (bk h)).2.1 hlv hf)
  | some n =>
   have hk : 1 ≤ kind ∧ kind ≤ 12 := by
    unfold fl at hf
    by_cases h1 : 1 ≤ kind
    ·rw [if_pos h1] at hf
     obtain ⟨x, hx, _⟩ := Option.map_eq_some_iff.1 hf
     have := (List.getElem?_eq_some_iff.1 hx).1
     simp only [kinds, List.length_map] at this
     omega
    ·rw [if_neg h1] at hf; cases hf
   refine ifF (by simp) ?_
   refine h.dr fun w4 h => ?_
   refine nns ?_
   refine h.ld (n := 2) (k := .m) (x := some q.ms) 0 rfl rfl ?_
   refine h.ld0 (k := .i .i64) (x := e.1) (8 + more.length) (by rw [ge_at]; rfl) rfl ?_
   refine h.ld (n := 1) (k := .i .i64) (x := e.2) (8 + more.length) (by rw [ge_at]; rfl) rfl ?_
   refine h.lookup1 (kd := .i .i64) (vk := id) (z := (0 : Int)) (ek := entV) (ev := Value.int .i64) (g := m.sets) (k := e) 5 rfl rfl und98 keyEnt p1 p2 (fun _ => rfl) ?_
   refine h.dr fun w5 h => ?_
   have hr : 0 ≤ (m.sets e).getD 0 ∧ (m.sets e).getD 0 < 4611686018427387904 := by
    cases hse : m.sets e with
    | none => simp
    | some s => exact hset s hse
   have fin : ∀ s : Int, s = (m.sets e).getD 0 → (0 ≤ kind ∧ K s (IntKind.i64.wrap ((BitVec.ofInt 64 (Int.fdiv s (2 ^ (min (Int.toNat kind) 64))) &&& BitVec.ofInt 64 1).toNat : Nat) == 1) (n : Nat) 0 w5) := fun s hs => by
    subst hs
    refine ⟨by omega, ?_⟩
    obtain ⟨kn, hkn⟩ : ∃ kn : Nat, kind = kn := ⟨kind.toNat, by omega⟩
    have hb := bit_eq (k := kn) hr.1 hr.2 (by omega)
    have := (hK _ (bk h)).2.2 n hlv hf
    rw [hkn] at this ⊢
    rw [hb]
    rw [Int.toNat_natCast] at this
    exact this
   cases hse : m.sets e with
   | none => exact fin 0 (by rw [hse]; rfl)
   | some s => exact fin s (by rw [hse]; rfl)
 ·have hlv : m.pool.is e.1 e.2 = false := by simpa using hlv
  refine ifT (by rw [hlv]; rfl) ?_
  exact (hK _ (bk h)).1 hlv
end
section
variable {S : List Nat} {w0 w : World} {its : List Thing}
theorem tptr_at {T : List TT} {k : Nat} {set : Int} {tb : Nat} {t : TabM} (hnd : (T.map (·.1)).Nodup) (hk : T[k]? = some (set, tb, t)) : tptr T set = some tb := by
 have hm := List.mem_of_getElem? hk
 unfold tptr
 cases hf : T.find? (fun x => decide (x.1 = set)) with
 | none =>
  have := List.find?_eq_none.1 hf _ hm
  simp at this
 | some x =>
  have h1 := List.find?_some hf
  simp only [decide_eq_true_eq] at h1
  have h2 := List.mem_of_find?_eq_some hf
  obtain ⟨j, hj, rfl⟩ := List.mem_iff_getElem.1 h2
  have hkl := (List.getElem?_eq_some_iff.1 hk).1
  have hke := (List.getElem?_eq_some_iff.1 hk).2
  have : j = k := (List.getElem?_inj (i := j) (j := k) (l := T.map (·.1)) (by simpa using hj) hnd).1 (by rw [List.getElem?_map, List.getElem?_map, hk, List.getElem?_eq_getElem hj]; simp [h1])
  subst this
  rw [hke]; rfl
theorem tAll_erase : ∀ {ts : List Thing} {k : Nat} {w : World} {O : List Nat}, k < ts.length → (tAll (ts.set k tEmp)).holds w O → ∃ O', (tAll (ts.eraseIdx k)).holds w O' ∧ ∀ x ∈ O', x ∈ O
 | t :: ts, 0, w, O, _, h => by
  obtain ⟨O1, O2, h1, h2, h3, h4⟩ := h
  exact ⟨O2, h2, fun x hx => (h4 x).2 (.inr hx)⟩
 | t :: ts, k + 1, w, O, hk, h => by
  obtain ⟨O1, O2, h1, h2, h3, h4⟩ := h
  obtain ⟨O', g1, g2⟩ := tAll_erase (k := k) (by simpa using hk) h2
  exact ⟨O1 ++ O', ⟨O1, O', h1, g1, fun x hx hx' => h3 x hx (g2 x hx'), by simp⟩, fun x hx => by
   rcases List.mem_append.1 hx with hx | hx
   ·exact (h4 x).2 (.inl hx)
   ·exact (h4 x).2 (.inr (g2 x hx))⟩
theorem tptr_cons (x : TT) (T : List TT) (s : Int) : tptr (x :: T) s = if x.1 = s then some x.2.1 else tptr T s := by
 unfold tptr
 rw [List.find?_cons]
 by_cases h : x.1 = s <;> simp [h]
theorem tptr_out : ∀ {T : List TT} {s : Int}, s ∉ T.map (·.1) → tptr T s = none
 | [], _, _ => rfl
 | x :: T, s, h => by
  simp only [List.map_cons, List.mem_cons, not_or] at h
  rw [tptr_cons, if_neg (fun e => h.1 e.symm)]
  exact tptr_out h.2
theorem tptr_erase : ∀ {T : List TT} {k : Nat} {set : Int} {tb : Nat} {t : TabM}, (T.map (·.1)).Nodup → T[k]? = some (set, tb, t) → upd1 (tptr T) set none = tptr (T.eraseIdx k)
 | x :: T, 0, set, tb, t, hnd, hk => by
  simp only [List.getElem?_cons_zero, Option.some.injEq] at hk
  subst hk
  simp only [List.map_cons, List.nodup_cons] at hnd
  funext s
  show (if s = set then none else _) = tptr T s
  by_cases hs : s = set
  ·rw [if_pos hs, hs]; exact (tptr_out hnd.1).symm
  ·rw [if_neg hs, tptr_cons, if_neg (fun e => hs e.symm)]
 | x :: T, k + 1, set, tb, t, hnd, hk => by
  simp only [List.getElem?_cons_succ] at hk
  simp only [List.map_cons, List.nodup_cons] at hnd
  have ih := tptr_erase hnd.2 hk
  have hne : x.1 ≠ set := fun e => hnd.1 (by rw [e]; exact List.mem_map.2 ⟨_, List.mem_of_getElem? hk, rfl⟩)
  funext s
  have ih := congrFun ih s
  show (if s = set then none else tptr (x :: T) s) = tptr (x :: T.eraseIdx k) s
  have ih : (if s = set then none else tptr T s) = tptr (T.eraseIdx k) s := ih
  rw [tptr_cons, tptr_cons, ← ih]
  by_cases hs : s = set
  ·subst hs; simp [hne]
  ·simp [hs]
set_option maxHeartbeats 2000000 in
theorem leave_spec {b : Nat} {m : WM} {q : WH} {u : Thing} {more : List Thing} (h : Hp S w0 w (q.all b m u ++ more)) {e : Ent} {set : Int} {k tb row : Nat} {t : TabM} {vals : List Int} (hset : m.sets e = some set) (hnd : (q.T.map (·.1)).Nodup) (hk : q.T[k]? = some (set, tb, t)) (hok : t.Ok) (hat : atI t e = some (row : Int)) (hrow : t.rows[row]? = some (e, vals)) {K : Sl → World → Prop}
  (hK : ∀ (s : Sl) (T' : List TT) w', (((t.del row).rows.length ≠ 0 ∧ T' = q.T.set k (set, tb, t.del row)) ∨ ((t.del row).rows.length = 0 ∧ T' = q.T.eraseIdx k)) →
   Hp S w0 w' (({ q with T := T' } : WH).all b { m with sets := upd1 m.sets e none } u ++ more ++ [tSl s 2 1 iv vals]) → K s w') : c73 (some ⟨b, 0, none⟩) e.1 e.2 w K := by
 refine c73_of ?_
 unfold f73
 obtain ⟨inf, p1, p2, p3, p4⟩ := inf3
 obtain ⟨inf', r1, r2, r3, r4⟩ := inf121
 refine h.nw (c := [_, _]) fun eb w1 h => ?_
 have h : Hp S w0 w1 (q.all b m u ++ (more ++ [tBlk eb 33 [.int .i64 e.1, .int .i64 e.2]])) := by rw [← List.append_assoc]; exact h
 refine h.dr fun w2 h => ?_
 refine nns ?_
 refine h.ld (n := 2) (k := .m) (x := some q.ms) 0 rfl rfl ?_
 refine h.ld0 (k := .i .i64) (x := e.1) (8 + more.length) (by rw [ge_at]; rfl) rfl ?_
 refine h.ld (n := 1) (k := .i .i64) (x := e.2) (8 + more.length) (by rw [ge_at]; rfl) rfl ?_
 refine h.lookup1 (kd := .i .i64) (vk := id) (z := (0 : Int)) (ek := entV) (ev := Value.int .i64) (g := m.sets) (k := e) 5 rfl rfl und98 keyEnt p1 p2 (fun _ => rfl) ?_
 rw [hset]
 refine nns ?_
 refine h.ld (n := 3) (k := .m) (x := some q.mt) 0 rfl rfl ?_
 refine h.lookup1 (kd := .p) (vk := fun tb => some ⟨tb, 0, none⟩) (z := (none : Option Addr)) (ek := Value.int .i64) (ev := pv) (g := tptr q.T) (k := set) 6 rfl rfl und99 key3 r1 r2 (fun _ => rfl) ?_
 rw [tptr_at hnd hk]
 refine h.ld0 (k := .i .i64) (x := e.1) (8 + more.length) (by rw [ge_at]; rfl) rfl ?_
 refine h.ld (n := 1) (k := .i .i64) (x := e.2) (8 + more.length) (by rw [ge_at]; rfl) rfl ?_
 -- the table, apart
 obtain ⟨A, hA⟩ : ∃ A : List Thing, A = q.all b m u ++ (more ++ [tBlk eb 33 [.int .i64 e.1, .int .i64 e.2]]) := ⟨_, rfl⟩
 have hAl : A.length = 9 + more.length := by rw [hA]; simp [WH.all]; omega
 have hA7 : A[7]? = some (tAll (q.T.map tT)) := by rw [hA]; rfl
 have hAe : A[8 + more.length]? = some (tBlk eb 33 [.int .i64 e.1, .int .i64 e.2]) := by rw [hA]; exact ge_at
 have hA5 : A[5]? = some (tMp q.ms entV (Value.int .i64) m.sets) := by rw [hA]; rfl
 have hA0 : A[0]? = some (q.blk b) := by rw [hA]; rfl
 rw [← hA] at h
 have htk : (q.T.map tT)[k]? = some (tT (set, tb, t)) := by rw [List.getElem?_map, hk]; rfl
 have h := h.pick (i := 7) (k := k) hA7 htk rfl
 obtain ⟨B, hB⟩ : ∃ B : List Thing, B = A.set 7 (tAll ((q.T.map tT).set k tEmp)) := ⟨_, rfl⟩
 have hBl : B.length = A.length := by rw [hB]; exact List.length_set
 have hB' : ∀ j, j ≠ 7 → B[j]? = A[j]? := fun j hj => by rw [hB, List.getElem?_set_ne (fun e => hj e.symm)]
 rw [← hB] at h
 have getB : ∀ {l : List Thing} (j : Nat), (B ++ l)[B.length + j]? = l[j]? := fun {l} j => by rw [List.getElem?_append_right (by omega)]; simp
 have setB : ∀ {l : List Thing} (j : Nat) (t : Thing), (B ++ l).set (B.length + j) t = B ++ l.set j t := fun {l} j t => by rw [List.set_append_right _ _ (by omega)]; simp
 have inB : ∀ {l : List Thing} {j : Nat}, j < B.length → (B ++ l)[j]? = B[j]? := fun {l j} hj => List.getElem?_append_left hj
 refine FT.Find_spec h (B.length + 0) (b := tb) (m := t) (by rw [getB]; rfl) fun w3 h => ?_
 rw [hat]
 refine FT.Row_spec h (B.length + 0) (b := tb) (m := t) hok (by rw [getB]; rfl) fun s w4 => ⟨fun rr hr0 hrr h => ?_, fun hno => ?_⟩
 ·have hrr : t.rows[row]? = some rr := hrr
  rw [hrow] at hrr
  have hrr := Option.some.inj hrr
  subst hrr
  have h : Hp S w0 w4 (B ++ [tT (set, tb, t), tSl s 2 1 iv vals]) := by
   have := h
   rw [List.append_assoc] at this
   exact this
  refine h.nw (c := [_, _]) fun xb w5 h => ?_
  have h : Hp S w0 w5 (B ++ [tT (set, tb, t), tSl s 2 1 iv vals, tBlk xb 33 [.int .i64 0, .int .i64 0]]) := by
   have := h
   rw [List.append_assoc] at this
   exact this
  refine h.st0 (B.length + 2) (by rw [getB]; rfl) (by simp) rfl fun w6 h => ?_
  rw [setB] at h
  refine h.st (n := 1) (B.length + 2) (by rw [getB]; rfl) (by simp) rfl fun w7 h => ?_
  rw [setB] at h
  simp only [List.set_cons_zero, List.set_cons_succ] at h
  have hBe : ∀ {l : List Thing}, (B ++ l)[8 + more.length]? = some (tBlk eb 33 [.int .i64 e.1, .int .i64 e.2]) := fun {l} => by rw [inB (by omega), hB' _ (by omega)]; exact hAe
  refine h.ld0 (k := .i .i64) (x := e.1) (8 + more.length) (by rw [hBe]; rfl) rfl ?_
  refine h.ld (n := 1) (k := .i .i64) (x := e.2) (8 + more.length) (by rw [hBe]; rfl) rfl ?_
  refine FT.Find_spec h (B.length + 0) (b := tb) (m := t) (by rw [getB]; rfl) fun w8 h => ?_
  rw [hat]
  refine FT.Remove_spec h (B.length + 0) (b := tb) (m := t) hok (by rw [getB]; rfl) fun w9 h => ?_
  have hrl : row < t.rows.length := (List.getElem?_eq_some_iff.1 hrow).1
  have ed : (t.delM ((some (row : Int)).getD (-1))).1 = t.del row := by
   show (t.delM (row : Int)).1 = _
   unfold TabM.delM
   rw [if_pos ⟨by omega, by omega⟩, Int.toNat_natCast]
  rw [ed, setB] at h
  simp only [List.set_cons_zero, List.set_cons_succ] at h
  refine h.dr fun w10 h => ?_
  refine nns ?_
  have hB0 : ∀ {l : List Thing}, (B ++ l)[0]? = some (q.blk b) := fun {l} => by rw [inB (by omega), hB' _ (by omega)]; exact hA0
  refine h.ld (n := 2) (k := .m) (x := some q.ms) 0 (by rw [hB0]; rfl) rfl ?_
  refine h.ld0 (k := .i .i64) (x := e.1) (8 + more.length) (by rw [hBe]; rfl) rfl ?_
  refine h.ld (n := 1) (k := .i .i64) (x := e.2) (8 + more.length) (by rw [hBe]; rfl) rfl ?_
  have hB5 : ∀ {l : List Thing}, (B ++ l)[5]? = some (tMp q.ms entV (Value.int .i64) m.sets) := fun {l} => by rw [inB (by omega), hB' _ (by omega)]; exact hA5
  refine h.delete (ek := entV) (ev := Value.int .i64) (g := m.sets) (k := e) 5 rfl hB5 und98 keyEnt fun nv w11 h => ?_
  rw [List.set_append_left _ _ (by omega)] at h
  obtain ⟨C, hC⟩ : ∃ C : List Thing, C = B.set 5 (tMp q.ms entV (Value.int .i64) (upd1 m.sets e none)) := ⟨_, rfl⟩
  have hCl : C.length = B.length := by rw [hC]; exact List.length_set
  rw [← hC] at h
  have getC : ∀ {l : List Thing} (j : Nat), (C ++ l)[C.length + j]? = l[j]? := fun {l} j => by rw [List.getElem?_append_right (by omega)]; simp
  have setC : ∀ {l : List Thing} (j : Nat) (t : Thing), (C ++ l).set (C.length + j) t = C ++ l.set j t := fun {l} j t => by rw [List.set_append_right _ _ (by omega)]; simp
  have inC : ∀ {l : List Thing} {j : Nat}, j < C.length → (C ++ l)[j]? = C[j]? := fun {l j} hj => List.getElem?_append_left hj
  have hkl : k < q.T.length := (List.getElem?_eq_some_iff.1 hk).1
  have hC7 : C[7]? = some (tAll ((q.T.map tT).set k tEmp)) := by rw [hC, List.getElem?_set_ne (by decide), hB, List.getElem?_set_self (by omega)]
  refine FT.Len_spec h (C.length + 0) (b := tb) (m := t.del row) (by rw [getC]; rfl) ?_
  by_cases hz : (t.del row).rows.length = 0
  ·refine ifT (by simp [hz]) ?_
   refine nns ?_
   have hC0 : C[0]? = some (q.blk b) := by rw [hC, List.getElem?_set_ne (by decide), hB' _ (by decide)]; exact hA0
   have hC6 : C[6]? = some (tMp q.mt (Value.int .i64) pv (tptr q.T)) := by rw [hC, List.getElem?_set_ne (by decide), hB' _ (by decide), hA]; rfl
   refine h.ld (n := 3) (k := .m) (x := some q.mt) 0 (by rw [inC (by omega), hC0]; rfl) rfl ?_
   refine h.delete (ek := Value.int .i64) (ev := pv) (g := tptr q.T) (k := set) 6 rfl (by rw [inC (by omega)]; exact hC6) und99 key3 fun nv2 w12 h => ?_
   have h := h.lose (i := C.length + 0) (t := tTab tb (t.del row)) (by rw [List.getElem?_set_ne (by omega), getC]; rfl) rfl
   have h := h.less (i := 7) (t := tAll ((q.T.map tT).set k tEmp)) (t' := tAll ((q.T.eraseIdx k).map tT)) (by rw [List.getElem?_set_ne (by omega), List.getElem?_set_ne (by decide), inC (by omega)]; exact hC7) (tAll_own _) (fun w O hO => by
    obtain ⟨O', g1, g2⟩ := tAll_erase (by simpa using hkl) hO
    refine ⟨O', ?_, g2⟩
    rw [map_eraseIdx']
    exact g1) (tAll_own _)
   rw [tptr_erase hnd hk, List.set_append_left _ _ (by omega), List.set_append_right _ _ (by rw [List.length_set]; omega), List.length_set, List.set_append_left _ _ (by rw [List.length_set]; omega)] at h
   have h : Hp S w0 w12 ((C.set 6 (tMp q.mt (Value.int .i64) pv (tptr (q.T.eraseIdx k)))).set 7 (tAll ((q.T.eraseIdx k).map tT)) ++ [tEmp, tSl s 2 1 iv vals, tBlk xb 33 [.int .i64 e.1, .int .i64 e.2]]) := by
    simpa using h
   rw [hC, hB, hA] at h
   have h : Hp S w0 w12 ((({ q with T := q.T.eraseIdx k } : WH).all b { m with sets := upd1 m.sets e none } u ++ (more ++ [tBlk eb 33 [.int .i64 e.1, .int .i64 e.2]])) ++ [tEmp, tSl s 2 1 iv vals, tBlk xb 33 [.int .i64 e.1, .int .i64 e.2]]) := h
   have h : Hp S w0 w12 (((({ q with T := q.T.eraseIdx k } : WH).all b { m with sets := upd1 m.sets e none } u ++ more) ++ [tBlk eb 33 [.int .i64 e.1, .int .i64 e.2], tEmp] ++ [tSl s 2 1 iv vals]) ++ [tBlk xb 33 [.int .i64 e.1, .int .i64 e.2]]) := by
    simp only [List.append_assoc, List.cons_append, List.nil_append] at h ⊢
    exact h
   exact hK s _ w12 (.inr ⟨hz, rfl⟩) h.front.dropMid
  ·refine ifF (by simpa using hz) ?_
   have h := h.unpick (i := 7) (j := C.length + 0) (k := k) (ts := (q.T.map tT).set k tEmp) (t := tT (set, tb, t.del row)) (by omega) (by rw [inC (by omega)]; exact hC7) (by rw [getC]; rfl) (by rw [List.getElem?_set_self (by simpa using hkl)]) rfl
   rw [List.set_append_left _ _ (by omega), List.set_set] at h
   have h : Hp S w0 w11 (C.set 7 (tAll ((q.T.map tT).set k (tT (set, tb, t.del row)))) ++ [tEmp, tSl s 2 1 iv vals, tBlk xb 33 [.int .i64 e.1, .int .i64 e.2]]) := by
    rw [List.set_append_right _ _ (by rw [List.length_set]; omega), List.length_set] at h
    simpa using h
   have e2 : (q.T.map tT).set k (tT (set, tb, t.del row)) = (q.T.set k (set, tb, t.del row)).map tT := by rw [List.map_set]
   rw [e2, hC, hB, hA] at h
   have h : Hp S w0 w11 ((({ q with T := q.T.set k (set, tb, t.del row) } : WH).all b { m with sets := upd1 m.sets e none } u ++ (more ++ [tBlk eb 33 [.int .i64 e.1, .int .i64 e.2]])) ++ [tEmp, tSl s 2 1 iv vals, tBlk xb 33 [.int .i64 e.1, .int .i64 e.2]]) := by
    unfold WH.all
    rw [show tptr ({ q with T := q.T.set k (set, tb, t.del row) } : WH).T = tptr q.T from tptr_set hk]
    exact h
   have h : Hp S w0 w11 (((({ q with T := q.T.set k (set, tb, t.del row) } : WH).all b { m with sets := upd1 m.sets e none } u ++ more) ++ [tBlk eb 33 [.int .i64 e.1, .int .i64 e.2], tEmp] ++ [tSl s 2 1 iv vals]) ++ [tBlk xb 33 [.int .i64 e.1, .int .i64 e.2]]) := by
    simp only [List.append_assoc, List.cons_append, List.nil_append] at h ⊢
    exact h
   exact hK s _ w11 (.inl ⟨hz, rfl⟩) h.front.dropMid
 ·exact absurd ⟨by show (0 : Int) ≤ row; omega, by show (row : Int) < _; have := (List.getElem?_eq_some_iff.1 hrow).1; omega⟩ hno
end
abbrev KD := List (ByteArray × List ByteArray)
abbrev PL := List (Option (List Int))
def setN : PL → Nat
 | [] => 0
 | o :: p => (if o.isSome then 1 else 0) + 2 * setN p
def setI (p : PL) : Int := (setN (none :: p) : Nat)
def flat (p : PL) : List Int := p.flatMap fun o => o.getD []
def PL.fit (ks : KD) (p : PL) : Prop := p.length = ks.length ∧ ∀ (i : Nat) (v : List Int) (k : ByteArray × List ByteArray), p[i]? = some (some v) → ks[i]? = some k → v.length = k.2.length
theorem setN_bit : ∀ (p : PL) (i : Nat), (setN p).testBit i = (p.getD i none).isSome
 | [], i => by simp [setN]
 | o :: p, 0 => by
  rw [setN, Nat.testBit_zero]
  cases o <;> simp <;> omega
 | o :: p, i + 1 => by
  rw [setN, Nat.testBit_succ]
  have : ((if o.isSome = true then 1 else 0) + 2 * setN p) / 2 = setN p := by split <;> omega
  rw [this, setN_bit p i]; rfl
theorem setN_lt : ∀ p : PL, setN p < 2 ^ p.length
 | [] => by simp [setN]
 | o :: p => by
  have := setN_lt p
  rw [setN, List.length_cons, Nat.pow_succ]
  split <;> omega
theorem setI_nn (p : PL) : 0 ≤ setI p := by unfold setI; omega
theorem setI_lt {p : PL} (h : p.length ≤ 12) : setI p < 8192 := by
 have h1 := setN_lt (none :: p)
 have h2 : 2 ^ (none :: p : PL).length ≤ 2 ^ 13 := Nat.pow_le_pow_right (by omega) (by simp; omega)
 unfold setI; omega
theorem bit_setN (p : PL) (i : Nat) : bit ((setN p : Nat) : Int) i = if (p.getD i none).isSome then 1 else 0 := by
 have h := setN_bit p i
 rw [Nat.testBit_eq_decide_div_mod_eq] at h
 unfold bit
 have e : (((setN p : Nat) : Int) / 2 ^ i) % 2 = ((setN p / 2 ^ i % 2 : Nat) : Int) := by simp
 rw [e]
 cases hs : (p.getD i none).isSome with
 | true => rw [hs] at h; have := of_decide_eq_true h; rw [this]; rfl
 | false =>
  rw [hs] at h
  have := of_decide_eq_false h
  have : setN p / 2 ^ i % 2 = 0 := by omega
  rw [this]; rfl
theorem bit_setI (p : PL) (i : Nat) : bit (setI p) (i + 1) = if (p.getD i none).isSome then 1 else 0 := bit_setN (none :: p) (i + 1)
theorem bit_is {p : PL} {i : Nat} : bit (setI p) (i + 1) = 1 ↔ (p.getD i none).isSome = true := by
 rw [bit_setI]; split <;> simp_all
theorem getD_setL (p : PL) (i j : Nat) (o : Option (List Int)) : (p.set i o).getD j none = if i = j ∧ j < p.length then o else p.getD j none := by
 rw [List.getD_eq_getElem?_getD, List.getElem?_set, List.getD_eq_getElem?_getD]
 by_cases h : i = j
 ·subst h
  by_cases hl : i < p.length
  ·simp [hl]
  ·simp [hl]
 ·simp [h]
theorem two_lt {k : Nat} (hk : k ≤ 61) : (2 : Nat) ^ k ≤ 2305843009213693952 := Nat.le_trans (Nat.pow_le_pow_right (by omega) hk) (by decide)
theorem shl_eq {k : Nat} (hk : k ≤ 61) : IntKind.i64.wrap (1 * 2 ^ (min (Int.toNat (k : Int)) 64)) = ((2 ^ k : Nat) : Int) := by
 have h := two_lt hk
 rw [Int.toNat_natCast, show min k 64 = k by omega, Int.one_mul]
 have e : (2 : Int) ^ k = ((2 ^ k : Nat) : Int) := by simp
 rw [e]
 generalize 2 ^ k = t at h
 exact wr64 (by omega) (by omega)
theorem or_eq {s k : Nat} (hs : s < 4611686018427387904) (hk : k ≤ 61) :
  IntKind.i64.wrap ((BitVec.ofInt 64 (s : Int) ||| BitVec.ofInt 64 (IntKind.i64.wrap (1 * 2 ^ (min (Int.toNat (k : Int)) 64)))).toNat : Nat) = ((s ||| 2 ^ k : Nat) : Int) := by
 have h := two_lt hk
 rw [shl_eq hk]
 have e : (BitVec.ofInt 64 (s : Int) ||| BitVec.ofInt 64 ((2 ^ k : Nat) : Int)).toNat = s ||| 2 ^ k := by
  rw [BitVec.toNat_or]
  congr 1
  ·rw [BitVec.toNat_ofInt]; omega
  ·rw [BitVec.toNat_ofInt]; generalize 2 ^ k = t at h; omega
 rw [e]
 have : s ||| 2 ^ k < 2 ^ 62 := Nat.or_lt_two_pow (by omega) (by generalize 2 ^ k = t at h; omega)
 generalize s ||| 2 ^ k = t at this
 exact wr64 (by omega) (by omega)
theorem andn_eq {s k : Nat} (hs : s < 4611686018427387904) (hk : k ≤ 61) {t : Nat} (ht : ∀ i, t.testBit i = (s.testBit i && !decide (k = i))) :
  IntKind.i64.wrap ((BitVec.ofInt 64 (s : Int) &&& ~~~ BitVec.ofInt 64 (IntKind.i64.wrap (1 * 2 ^ (min (Int.toNat (k : Int)) 64)))).toNat : Nat) = (t : Int) := by
 have h := two_lt hk
 rw [shl_eq hk]
 have a1 : (BitVec.ofInt 64 (s : Int)).toNat = s := by rw [BitVec.toNat_ofInt]; omega
 have a2 : (BitVec.ofInt 64 ((2 ^ k : Nat) : Int)).toNat = 2 ^ k := by rw [BitVec.toNat_ofInt]; generalize 2 ^ k = t at h; omega
 have e : (BitVec.ofInt 64 (s : Int) &&& ~~~ BitVec.ofInt 64 ((2 ^ k : Nat) : Int)).toNat = t := by
  apply Nat.eq_of_testBit_eq
  intro i
  rw [ht i, BitVec.toNat_and, Nat.testBit_and, a1]
  show (s.testBit i && (~~~ BitVec.ofInt 64 ((2 ^ k : Nat) : Int)).getLsbD i) = _
  rw [BitVec.getLsbD_not]
  show (s.testBit i && (decide (i < 64) && !(BitVec.ofInt 64 ((2 ^ k : Nat) : Int)).toNat.testBit i)) = _
  rw [a2, Nat.testBit_two_pow]
  by_cases hi : i < 64
  ·simp [hi]
  ·have : s.testBit i = false := Nat.testBit_lt_two_pow (Nat.lt_of_lt_of_le (show s < 2 ^ 64 by omega) (Nat.pow_le_pow_right (by omega) (by omega)))
   simp [this]
 rw [e]
 have : t ≤ s := by
  rw [← e, BitVec.toNat_and, a1]; exact Nat.and_le_left
 exact wr64 (by omega) (by omega)
theorem setI_put {p : PL} (h : p.length ≤ 12) {i : Nat} (hi : i < p.length) (v : List Int) :
  IntKind.i64.wrap ((BitVec.ofInt 64 (setI p) ||| BitVec.ofInt 64 (IntKind.i64.wrap (1 * 2 ^ (min (Int.toNat ((i + 1 : Nat) : Int)) 64)))).toNat : Nat) = setI (p.set i (some v)) := by
 have h1 := setI_lt h
 unfold setI at h1 ⊢
 rw [or_eq (by omega) (by omega)]
 congr 1
 apply Nat.eq_of_testBit_eq
 intro j
 rw [Nat.testBit_or, setN_bit, setN_bit, Nat.testBit_two_pow]
 show _ = (((none :: p).set (i + 1) (some v)).getD j none).isSome
 rw [getD_setL]
 by_cases hj : i + 1 = j
 ·subst hj; simp [hi]
 ·simp [hj]
theorem setI_del {p : PL} (h : p.length ≤ 12) {i : Nat} (hi : i < p.length) :
  IntKind.i64.wrap ((BitVec.ofInt 64 (setI p) &&& ~~~ BitVec.ofInt 64 (IntKind.i64.wrap (1 * 2 ^ (min (Int.toNat ((i + 1 : Nat) : Int)) 64)))).toNat : Nat) = setI (p.set i none) := by
 have h1 := setI_lt h
 unfold setI at h1 ⊢
 refine andn_eq (by omega) (by omega) fun j => ?_
 rw [setN_bit, setN_bit]
 show (((none :: p).set (i + 1) none).getD j none).isSome = _
 rw [getD_setL]
 by_cases hj : i + 1 = j
 ·subst hj; simp [hi]
 ·simp [hj]
theorem flat_take {p : PL} {i : Nat} {o : Option (List Int)} (h : p[i]? = some o) : flat (p.take (i + 1)) = flat (p.take i) ++ o.getD [] := by
 have hl := (List.getElem?_eq_some_iff.1 h).1
 have he := (List.getElem?_eq_some_iff.1 h).2
 unfold flat
 rw [List.take_succ_eq_append_getElem hl, List.flatMap_append, he]; simp
theorem flat_split {p : PL} {i : Nat} {o : Option (List Int)} (h : p[i]? = some o) : flat p = flat (p.take i) ++ (o.getD [] ++ flat (p.drop (i + 1))) := by
 have hl := (List.getElem?_eq_some_iff.1 h).1
 have he := (List.getElem?_eq_some_iff.1 h).2
 have : p = p.take i ++ o :: p.drop (i + 1) := by rw [← he]; simp
 conv => lhs; rw [this]
 unfold flat
 rw [List.flatMap_append, List.flatMap_cons]
theorem flat_set {p : PL} {i : Nat} (o : Option (List Int)) (hl : i < p.length) : flat (p.set i o) = flat (p.take i) ++ (o.getD [] ++ flat (p.drop (i + 1))) := by
 rw [flat_split (p := p.set i o) (i := i) (o := o) (by simp [hl])]
 rw [List.take_set_of_le (Nat.le_refl _), List.drop_set_of_lt (by omega)]
theorem PL.fit.at {ks : KD} {p : PL} (h : p.fit ks) : ∀ {q : Nat}, q ≤ p.length → atF ks (setI p) q = (flat (p.take q)).length
 | 0, _ => by simp [atF, flat]
 | q + 1, hq => by
  have ih := PL.fit.at h (q := q) (by omega)
  have hp : p[q]? = some p[q] := by simp [show q < p.length by omega]
  have hk : ks[q]? = some (ks[q]'(by have := h.1; omega)) := by simp [show q < ks.length by have := h.1; omega]
  rw [flat_take hp, List.length_append, atF, ih, hk]
  congr 1
  by_cases hb : bit (setI p) (q + 1) = 1
  ·rw [if_pos hb]
   have := bit_is.1 hb
   rw [List.getD_eq_getElem?_getD, hp] at this
   cases ho : p[q] with
   | none => rw [ho] at this; cases this
   | some v =>
    have := h.2 q v _ (by rw [hp, ho]) hk
    simp [this]
  ·rw [if_neg hb]
   cases ho : p[q] with
   | none => rfl
   | some v => exact absurd (bit_is.2 (by rw [List.getD_eq_getElem?_getD, hp, ho]; rfl)) hb
theorem PL.fit.all {ks : KD} {p : PL} (h : p.fit ks) : (flat p).length = atF ks (setI p) ks.length := by
 rw [h.at (q := ks.length) (by rw [h.1]; exact Nat.le_refl _), ← h.1, List.take_length]
theorem PL.fit.ins {ks : KD} {p : PL} (h : p.fit ks) {i : Nat} (hi : i < p.length) (hn : p.getD i none = none) (v : List Int) :
  flat (p.set i (some v)) = (flat p).take (atF ks (setI p) i) ++ v ++ (flat p).drop (atF ks (setI p) i) := by
 have hp : p[i]? = some none := by
  have : p[i]? = some p[i] := by simp [hi]
  rw [this]; rw [List.getD_eq_getElem?_getD, this] at hn; simpa using hn
 rw [flat_set _ hi, flat_split hp, h.at (by omega)]
 simp
theorem PL.fit.cut {ks : KD} {p : PL} (h : p.fit ks) {i : Nat} {v : List Int} (hp : p[i]? = some (some v)) :
  flat (p.set i none) = (flat p).take (atF ks (setI p) i) ++ (flat p).drop (atF ks (setI p) i + v.length) := by
 have hi := (List.getElem?_eq_some_iff.1 hp).1
 rw [flat_set _ hi, flat_split hp, h.at (by omega)]
 simp [List.drop_append]
theorem PL.fit.get {ks : KD} {p : PL} (h : p.fit ks) {i : Nat} {v : List Int} (hp : p[i]? = some (some v)) :
  ((flat p).take (atF ks (setI p) i + v.length)).drop (atF ks (setI p) i) = v := by
 have hi := (List.getElem?_eq_some_iff.1 hp).1
 rw [flat_split hp, h.at (by omega)]
 simp [List.take_append]
theorem PL.fit.set {ks : KD} {p : PL} (h : p.fit ks) {i : Nat} {v : List Int} {k : ByteArray × List ByteArray} (hk : ks[i]? = some k) (hl : v.length = k.2.length) : (PL.fit ks (p.set i (some v))) := by
 refine ⟨by rw [List.length_set]; exact h.1, fun j x k' hx hk' => ?_⟩
 rw [List.getElem?_set] at hx
 by_cases hj : i = j
 ·subst hj
  by_cases hlt : i < p.length
  ·rw [if_pos rfl, if_pos hlt] at hx
   obtain rfl := Option.some.inj (Option.some.inj hx)
   rw [hk] at hk'; obtain rfl := Option.some.inj hk'; exact hl
  ·rw [if_pos rfl, if_neg hlt] at hx; cases hx
 ·rw [if_neg hj] at hx; exact h.2 j x k' hx hk'
theorem PL.fit.off {ks : KD} {p : PL} (h : p.fit ks) (i : Nat) : (PL.fit ks (p.set i none)) := by
 refine ⟨by rw [List.length_set]; exact h.1, fun j x k' hx hk' => ?_⟩
 rw [List.getElem?_set] at hx
 by_cases hj : i = j
 ·subst hj
  by_cases hlt : i < p.length
  ·rw [if_pos rfl, if_pos hlt] at hx; cases hx
  ·rw [if_pos rfl, if_neg hlt] at hx; cases hx
 ·rw [if_neg hj] at hx; exact h.2 j x k' hx hk'
theorem fit_new (ks : KD) : PL.fit ks (List.replicate ks.length none) := by
 refine ⟨by simp, fun i v k hx _ => ?_⟩
 rw [List.getElem?_replicate] at hx
 split at hx <;> cases hx
theorem setN_new : ∀ n, setN (List.replicate n none) = 0
 | 0 => rfl
 | n + 1 => by rw [List.replicate_succ, setN, setN_new n]; rfl
theorem setI_new (n : Nat) : setI (List.replicate n none) = 0 := by
 unfold setI
 show ((setN (List.replicate (n + 1) none) : Nat) : Int) = 0
 rw [setN_new]; rfl
theorem flat_new (n : Nat) : flat (List.replicate n none) = [] := by
 unfold flat
 induction n with
 | zero => rfl
 | succ n ih => rw [List.replicate_succ, List.flatMap_cons, ih]; rfl
structure Tabs (ks : KD) (row : Ent → Option PL) (sets : Ent → Option Int) (tabs : List (Int × TabM)) : Prop where
 sets : sets = fun e => (row e).map setI
 nd : (tabs.map (·.1)).Nodup
 tok : ∀ x ∈ tabs, x.2.Ok ∧ x.2.n = atF ks x.1 ks.length ∧ x.2.rows ≠ [] ∧ ∀ r ∈ x.2.rows, ∃ p, row r.1 = some p ∧ setI p = x.1 ∧ flat p = r.2
 has : ∀ e p, row e = some p → ∃ t, (setI p, t) ∈ tabs ∧ (e, flat p) ∈ t.rows
 fit : ∀ e p, row e = some p → p.fit ks
theorem Tabs.new (ks : KD) : Tabs ks (fun _ => none) (fun _ => none) [] :=
 ⟨rfl, by simp, by simp, by simp, by simp⟩
theorem nodup_lt : ∀ (n : Nat) (L : List Nat), L.Nodup → (∀ x ∈ L, x < n) → L.length ≤ n
 | 0, L, _, h => by
  cases L with
  | nil => simp
  | cons x L => exact absurd (h x (by simp)) (by omega)
 | n + 1, L, hnd, h => by
  have h1 := nodup_lt n (L.erase n) (hnd.erase n) (fun x hx => by
   have hm := (hnd.mem_erase_iff).1 hx
   have := h x hm.2
   have := hm.1
   omega)
  have h2 := List.length_erase (a := n) (l := L)
  split at h2 <;> omega
theorem Tabs.enter {ks : KD} {row : Ent → Option PL} {sets : Ent → Option Int} {tabs T1 : List (Int × TabM)} (h : Tabs ks row sets tabs) {e : Ent} {p : PL} (hne : row e = none) (hp : p.fit ks)
  (hb : ∀ L : List Ent, L.Nodup → (∀ x ∈ L, (row x).isSome = true) → L.length < 200) (hmk : ∀ x ∈ ks, x.2.length ≤ 4) (hml : ks.length ≤ 12)
  (hT : T1 = tabs ∨ (T1 = tabs ++ [(setI p, ⟨atF ks (setI p) ks.length, []⟩)] ∧ ∀ x ∈ tabs, x.1 ≠ setI p)) {k : Nat} {t : TabM} (hk : T1[k]? = some (setI p, t)) :
  (t.addM e (flat p)).1 = t.add e (flat p) ∧ Tabs ks (upd1 row e (some p)) (upd1 sets e (some (setI p))) (T1.set k (setI p, t.add e (flat p))) := by
 -- the old tables, with perhaps one that is empty
 have hnd1 : (T1.map (·.1)).Nodup := by
  rcases hT with rfl | ⟨rfl, hno⟩
  ·exact h.nd
  ·rw [List.map_append, List.nodup_append]
   refine ⟨h.nd, by simp, fun a ha b hb => ?_⟩
   simp only [List.map_cons, List.map_nil, List.mem_singleton] at hb
   subst hb
   obtain ⟨x, hx, rfl⟩ := List.mem_map.1 ha
   exact hno x hx
 have htok1 : ∀ x ∈ T1, x.2.Ok ∧ x.2.n = atF ks x.1 ks.length ∧ ∀ r ∈ x.2.rows, ∃ p, row r.1 = some p ∧ setI p = x.1 ∧ flat p = r.2 := by
  intro x hx
  rcases hT with rfl | ⟨rfl, hno⟩
  ·exact ⟨(h.tok x hx).1, (h.tok x hx).2.1, (h.tok x hx).2.2.2⟩
  ·rcases List.mem_append.1 hx with hx | hx
   ·exact ⟨(h.tok x hx).1, (h.tok x hx).2.1, (h.tok x hx).2.2.2⟩
   ·simp only [List.mem_singleton] at hx
    subst hx
    have := atF_le hmk (setI p) ks.length
    exact ⟨⟨by show atF ks (setI p) ks.length ≤ 48; omega, by simp, by simp [TabM.owners], by simp⟩, rfl, by simp⟩
 have hne1 : ∀ x ∈ T1, x.1 ≠ setI p → x.2.rows ≠ [] := by
  intro x hx hxp
  rcases hT with rfl | ⟨rfl, hno⟩
  ·exact (h.tok x hx).2.2.1
  ·rcases List.mem_append.1 hx with hx | hx
   ·exact (h.tok x hx).2.2.1
   ·simp only [List.mem_singleton] at hx
    subst hx; exact absurd rfl hxp
 have hhas1 : ∀ e p, row e = some p → ∃ t, (setI p, t) ∈ T1 ∧ (e, flat p) ∈ t.rows := by
  intro e p hr
  obtain ⟨t, h1, h2⟩ := h.has e p hr
  rcases hT with rfl | ⟨rfl, hno⟩
  ·exact ⟨t, h1, h2⟩
  ·exact ⟨t, List.mem_append_left _ h1, h2⟩
 have hkl := (List.getElem?_eq_some_iff.1 hk).1
 have hmem := List.mem_of_getElem? hk
 obtain ⟨tk, tn, tr⟩ := htok1 _ hmem
 have hout : e ∉ t.owners := fun hm => by
  obtain ⟨r, hr, rfl⟩ := List.mem_map.1 hm
  obtain ⟨p', hp', _⟩ := tr r hr
  rw [hne] at hp'; cases hp'
 have h200 : t.rows.length < 200 := by
  have := hb t.owners tk.nd (fun x hx => by
   obtain ⟨r, hr, rfl⟩ := List.mem_map.1 hx
   obtain ⟨p', hp', _⟩ := tr r hr
   rw [hp']; rfl)
  rwa [TabM.owners_len] at this
 have hfl : (flat p).length = t.n := by rw [tn]; exact hp.all
 refine ⟨?_, ?_⟩
 ·unfold TabM.addM
  rw [if_neg (by simp [hfl]), if_neg hout, if_neg (by omega)]
 have hke : ∀ x ∈ T1.set k (setI p, t.add e (flat p)), x = (setI p, t.add e (flat p)) ∨ (x ∈ T1 ∧ x.1 ≠ setI p) := by
  intro x hx
  obtain ⟨j, hj⟩ := List.getElem?_of_mem hx
  rw [List.getElem?_set] at hj
  by_cases hkj : k = j
  ·subst hkj; simp only [if_true, if_pos hkl, Option.some.injEq] at hj; exact .inl hj.symm
  ·rw [if_neg hkj] at hj
   refine .inr ⟨List.mem_of_getElem? hj, fun he => hkj ?_⟩
   have hjl := (List.getElem?_eq_some_iff.1 hj).1
   exact (List.getElem?_inj (i := k) (j := j) (l := T1.map (·.1)) (by simpa using hkl) hnd1).1 (by rw [List.getElem?_map, List.getElem?_map, hk, hj]; simp [he])
 refine ⟨?_, ?_, ?_, ?_, ?_⟩
 ·funext x
  unfold upd1
  split
  ·rfl
  ·exact congrFun h.sets x
 ·have : (T1.set k (setI p, t.add e (flat p))).map (·.1) = T1.map (·.1) := by
   rw [List.map_set]
   apply List.ext_getElem?
   intro j
   rw [List.getElem?_set]
   split
   ·rename_i hj
    subst hj
    rw [List.getElem?_map, hk, if_pos (by simpa using hkl)]; rfl
   ·rfl
  rw [this]; exact hnd1
 ·intro x hx
  rcases hke x hx with rfl | ⟨hx, hxp⟩
  ·refine ⟨tk.add hfl h200 hout, tn, by simp [TabM.add], fun r hr => ?_⟩
   rcases List.mem_append.1 hr with hr | hr
   ·obtain ⟨p', h1, h2, h3⟩ := tr r hr
    refine ⟨p', ?_, h2, h3⟩
    unfold upd1
    rw [if_neg (fun he => by rw [he, hne] at h1; cases h1)]; exact h1
   ·simp only [List.mem_singleton] at hr
    subst hr
    exact ⟨p, by unfold upd1; rw [if_pos rfl], rfl, rfl⟩
  ·obtain ⟨a1, a2, a3⟩ := htok1 x hx
   refine ⟨a1, a2, hne1 x hx hxp, fun r hr => ?_⟩
   obtain ⟨p', h1, h2, h3⟩ := a3 r hr
   refine ⟨p', ?_, h2, h3⟩
   unfold upd1
   rw [if_neg (fun he => by rw [he, hne] at h1; cases h1)]; exact h1
 ·intro e' p' he'
  unfold upd1 at he'
  by_cases hee : e' = e
  ·rw [if_pos hee] at he'
   obtain rfl := Option.some.inj he'
   subst hee
   exact ⟨t.add e' (flat p), List.mem_of_getElem? (i := k) (by simp [hkl]), by simp [TabM.add]⟩
  ·rw [if_neg hee] at he'
   obtain ⟨t', h1, h2⟩ := hhas1 e' p' he'
   obtain ⟨j, hj⟩ := List.getElem?_of_mem h1
   by_cases hkj : k = j
   ·subst hkj
    rw [hk] at hj
    obtain ⟨hs, rfl⟩ := Prod.mk.inj (Option.some.inj hj)
    exact ⟨t.add e (flat p), List.mem_of_getElem? (i := k) (by rw [List.getElem?_set_self hkl, ← hs]), List.mem_append_left _ h2⟩
   ·exact ⟨t', List.mem_of_getElem? (i := j) (by rw [List.getElem?_set_ne hkj]; exact hj), h2⟩
 ·intro e' p' he'
  unfold upd1 at he'
  by_cases hee : e' = e
  ·rw [if_pos hee] at he'
   obtain rfl := Option.some.inj he'
   exact hp
  ·rw [if_neg hee] at he'
   exact h.fit e' p' he'
theorem Tabs.find {ks : KD} {row : Ent → Option PL} {sets : Ent → Option Int} {tabs : List (Int × TabM)} (h : Tabs ks row sets tabs) {e : Ent} {p : PL} (hr : row e = some p) :
  ∃ (k r : Nat) (t : TabM), tabs[k]? = some (setI p, t) ∧ t.Ok ∧ atI t e = some (r : Int) ∧ t.rows[r]? = some (e, flat p) := by
 obtain ⟨t, h1, h2⟩ := h.has e p hr
 obtain ⟨k, hk⟩ := List.getElem?_of_mem h1
 obtain ⟨r, hrr⟩ := List.getElem?_of_mem h2
 have tk := (h.tok _ h1).1
 exact ⟨k, r, t, hk, tk, (TabM.atI_iff tk.nd).2 (by unfold TabM.owners; rw [List.getElem?_map, hrr]; rfl), hrr⟩
theorem del_mem {t : TabM} (tk : t.Ok) {r : Nat} {x : Ent × List Int} (hr : t.rows[r]? = some x) (y : Ent × List Int) : y ∈ (t.del r).rows ↔ y ∈ t.rows ∧ y.1 ≠ x.1 := by
 have hl := (List.getElem?_eq_some_iff.1 hr).1
 have h0 : 0 < t.rows.length := by omega
 have inj : ∀ {i j : Nat} {a b : Ent × List Int}, t.rows[i]? = some a → t.rows[j]? = some b → a.1 = b.1 → i = j := fun {i j a b} hi hj he =>
  (List.getElem?_inj (i := i) (j := j) (l := t.owners) (by unfold TabM.owners; simpa using (List.getElem?_eq_some_iff.1 hi).1) tk.nd).1 (by unfold TabM.owners; rw [List.getElem?_map, List.getElem?_map, hi, hj]; simp [he])
 constructor
 ·intro hy
  obtain ⟨j, hj⟩ := List.getElem?_of_mem hy
  rw [TabM.del_rows t r j h0] at hj
  split at hj
  ·rename_i hjl
   split at hj
   ·refine ⟨List.mem_of_getElem? hj, fun he => ?_⟩
    have := inj hj hr he
    omega
   ·rename_i hjr
    exact ⟨List.mem_of_getElem? hj, fun he => hjr (inj hj hr he)⟩
  ·cases hj
 ·rintro ⟨hy, hne⟩
  obtain ⟨j, hj⟩ := List.getElem?_of_mem hy
  have hjl := (List.getElem?_eq_some_iff.1 hj).1
  have hjr : j ≠ r := fun e => by subst e; rw [hj] at hr; exact hne (by rw [Option.some.inj hr])
  by_cases hlast : j = t.rows.length - 1
  ·refine List.mem_of_getElem? (i := r) ?_
   rw [TabM.del_rows t r r h0, if_pos (by omega), if_pos rfl, ← hlast]; exact hj
  ·refine List.mem_of_getElem? (i := j) ?_
   rw [TabM.del_rows t r j h0, if_pos (by omega), if_neg hjr]; exact hj
theorem Tabs.leave {ks : KD} {row : Ent → Option PL} {sets : Ent → Option Int} {tabs T' : List (Int × TabM)} (h : Tabs ks row sets tabs) {e : Ent} {p : PL} (hr : row e = some p)
  {k r : Nat} {t : TabM} (hk : tabs[k]? = some (setI p, t)) (hrr : t.rows[r]? = some (e, flat p)) (hT : ((t.del r).rows.length ≠ 0 ∧ T' = tabs.set k (setI p, t.del r)) ∨ ((t.del r).rows.length = 0 ∧ T' = tabs.eraseIdx k)) :
  Tabs ks (upd1 row e none) (upd1 sets e none) T' := by
 have hkl := (List.getElem?_eq_some_iff.1 hk).1
 have hmem := List.mem_of_getElem? hk
 obtain ⟨tk, tn, tne, tr⟩ := h.tok _ hmem
 have hrl := (List.getElem?_eq_some_iff.1 hrr).1
 have dm := del_mem tk hrr
 have keyInj : ∀ {i j : Nat} {a b : Int × TabM}, tabs[i]? = some a → tabs[j]? = some b → a.1 = b.1 → i = j := fun {i j a b} hi hj he =>
  (List.getElem?_inj (i := i) (j := j) (l := tabs.map (·.1)) (by simpa using (List.getElem?_eq_some_iff.1 hi).1) h.nd).1 (by rw [List.getElem?_map, List.getElem?_map, hi, hj]; simp [he])
 -- what is in the new list
 have hin : ∀ x, x ∈ T' ↔ (x ∈ tabs ∧ x.1 ≠ setI p) ∨ ((t.del r).rows.length ≠ 0 ∧ x = (setI p, t.del r)) := by
  intro x
  rcases hT with ⟨hz, rfl⟩ | ⟨hz, rfl⟩
  ·constructor
   ·intro hx
    obtain ⟨j, hj⟩ := List.getElem?_of_mem hx
    rw [List.getElem?_set] at hj
    by_cases hkj : k = j
    ·subst hkj; simp only [if_true, if_pos hkl, Option.some.injEq] at hj; exact .inr ⟨hz, hj.symm⟩
    ·rw [if_neg hkj] at hj
     exact .inl ⟨List.mem_of_getElem? hj, fun he => hkj (keyInj hk hj he.symm)⟩
   ·rintro (⟨hx, hxp⟩ | ⟨_, rfl⟩)
    ·obtain ⟨j, hj⟩ := List.getElem?_of_mem hx
     have hkj : k ≠ j := fun e => by subst e; rw [hk] at hj; exact hxp (by rw [← Option.some.inj hj])
     exact List.mem_of_getElem? (i := j) (by rw [List.getElem?_set_ne hkj]; exact hj)
    ·exact List.mem_of_getElem? (i := k) (by simp [hkl])
  ·constructor
   ·intro hx
    obtain ⟨j, hj⟩ := List.getElem?_of_mem hx
    rw [List.getElem?_eraseIdx] at hj
    split at hj
    ·exact .inl ⟨List.mem_of_getElem? hj, fun he => by have := keyInj hk hj he.symm; omega⟩
    ·exact .inl ⟨List.mem_of_getElem? hj, fun he => by have := keyInj hk hj he.symm; omega⟩
   ·rintro (⟨hx, hxp⟩ | ⟨hz', _⟩)
    ·obtain ⟨j, hj⟩ := List.getElem?_of_mem hx
     have hkj : k ≠ j := fun e => by subst e; rw [hk] at hj; exact hxp (by rw [← Option.some.inj hj])
     by_cases hlt : j < k
     ·exact List.mem_of_getElem? (i := j) (by rw [List.getElem?_eraseIdx, if_pos hlt]; exact hj)
     ·exact List.mem_of_getElem? (i := j - 1) (by rw [List.getElem?_eraseIdx, if_neg (by omega), show j - 1 + 1 = j by omega]; exact hj)
    ·exact absurd hz hz'
 refine ⟨?_, ?_, ?_, ?_, ?_⟩
 ·funext x
  unfold upd1
  split
  ·rfl
  ·exact congrFun h.sets x
 ·rcases hT with ⟨hz, rfl⟩ | ⟨hz, rfl⟩
  ·have : (tabs.set k (setI p, t.del r)).map (·.1) = tabs.map (·.1) := by
    rw [List.map_set]
    apply List.ext_getElem?
    intro j
    rw [List.getElem?_set]
    split
    ·rename_i hj
     subst hj
     rw [List.getElem?_map, hk, if_pos (by simpa using hkl)]; rfl
    ·rfl
   rw [this]; exact h.nd
  ·rw [map_eraseIdx']
   exact h.nd.sublist (List.eraseIdx_sublist _ _)
 ·intro x hx
  rcases (hin x).1 hx with ⟨hx, hxp⟩ | ⟨hz, rfl⟩
  ·obtain ⟨a1, a2, a3, a4⟩ := h.tok x hx
   refine ⟨a1, a2, a3, fun y hy => ?_⟩
   obtain ⟨p', h1, h2, h3⟩ := a4 y hy
   refine ⟨p', ?_, h2, h3⟩
   unfold upd1
   rw [if_neg (fun he => by rw [he, hr] at h1; obtain rfl := Option.some.inj h1; exact hxp h2.symm)]; exact h1
  ·refine ⟨tk.del hrl, tn, fun e => hz (by rw [e]; rfl), fun y hy => ?_⟩
   obtain ⟨hy, hne⟩ := (dm y).1 hy
   obtain ⟨p', h1, h2, h3⟩ := tr y hy
   refine ⟨p', ?_, h2, h3⟩
   unfold upd1
   rw [if_neg hne]; exact h1
 ·intro e' p' he'
  unfold upd1 at he'
  by_cases hee : e' = e
  ·rw [if_pos hee] at he'; cases he'
  ·rw [if_neg hee] at he'
   obtain ⟨t', h1, h2⟩ := h.has e' p' he'
   by_cases hs : setI p' = setI p
   ·obtain ⟨j, hj⟩ := List.getElem?_of_mem h1
    have hkj := keyInj hk hj hs.symm
    subst hkj
    rw [hk] at hj
    obtain ⟨_, rfl⟩ := Prod.mk.inj (Option.some.inj hj)
    have hm := (dm (e', flat p')).2 ⟨h2, hee⟩
    refine ⟨t.del r, (hin _).2 (.inr ⟨fun hz => ?_, by rw [hs]⟩), hm⟩
    rw [List.length_eq_zero_iff.1 hz] at hm; simp at hm
   ·exact ⟨t', (hin _).2 (.inl ⟨h1, hs⟩), h2⟩
 ·intro e' p' he'
  unfold upd1 at he'
  by_cases hee : e' = e
  ·rw [if_pos hee] at he'; cases he'
  ·rw [if_neg hee] at he'
   exact h.fit e' p' he'
end Go.Proofs.Ythmbjlpgbkkjjaa.FW
end

section
namespace Go.Proofs.Ythmbjlpgbkkjjaa.FI
open F
open Go Go.Den Go.Proofs
def capG (g : Int) : Int := if 1000000 < g then 1000000 else g
structure FrI (most : Int) (gens : List Int) (m : PoolM) : Prop where
 most_ : m.most = most
 gens_ : m.gens = gens.map capG
 len : m.alive.length = gens.length
 nodup : m.free.Nodup
 free : ∀ i ∈ m.free, 0 ≤ i ∧ i < gens.length ∧ m.alive.getD i.toNat false = false ∧ gens.getD i.toNat 0 < 1000000
 dead : ∀ i : Int, 0 ≤ i → i < gens.length → m.alive.getD i.toNat false = false → gens.getD i.toNat 0 < 1000000 → i ∈ m.free
 cnt : m.free.length + m.alive.count true ≤ gens.length
theorem ok2_new {n : Int} (h1 : 1 ≤ n) (h2 : n ≤ 200) : PoolM.Ok2 ⟨n, [], [], []⟩ :=
 ⟨PoolM.Ok.new h1 h2, by intro i h0 h1; simp at h1; omega⟩
theorem takeM_ok {m : PoolM} (h : m.Ok2) : m.takeM.1.Ok2 ∧ m.takeM.1.most = m.most := by
 unfold PoolM.takeM
 cases hf : m.free with
 | cons i rest =>
  refine ⟨⟨h.toOk.takeFree hf, ?_⟩, rfl⟩
  have hi := h.free i (by simp [hf])
  intro j h0 h1 h2 h3
  have h1 : j < (m.gens.set i.toNat (m.gen i + 1)).length := h1
  rw [List.length_set] at h1
  rw [PoolM.lives_takeFree m hi.1 (by rw [h.len]; omega)] at h2
  split at h2
  ·cases h2
  ·rename_i hne
   rw [PoolM.gen_takeFree m hi.1 (by omega) h0, if_neg hne] at h3
   have := h.dead j h0 h1 h2 h3
   rw [hf] at this
   rcases List.mem_cons.1 this with e | e
   ·exact absurd e hne
   ·exact e
 | nil =>
  simp only []
  split
  ·rename_i hl
   refine ⟨⟨h.toOk.takeNew hf hl, ?_⟩, rfl⟩
   intro j h0 h1 h2 h3
   have h1 : j < (m.gens ++ [1]).length := h1
   rw [List.length_append, List.length_singleton] at h1
   rw [PoolM.lives_takeNew m h.len] at h2
   split at h2
   ·cases h2
   ·rename_i hne
    rw [PoolM.gen_takeNew m h0, if_neg hne] at h3
    exact h.dead j h0 (by omega) h2 h3
  ·exact ⟨h, rfl⟩
theorem giveM_ok {m : PoolM} (h : m.Ok2) (i g : Int) : (m.giveM i g).1.Ok2 ∧ (m.giveM i g).1.most = m.most := by
 unfold PoolM.giveM
 split
 ·rename_i hi
  refine ⟨⟨h.toOk.give hi, ?_⟩, rfl⟩
  obtain ⟨hlv, hg⟩ := PoolM.is_iff.1 hi
  obtain ⟨i0, hla, _⟩ := lives_lt hlv
  intro j h0 h1 h2 h3
  show j ∈ if g < 1000000 then m.free ++ [i] else m.free
  rw [PoolM.gen_give] at h3
  rw [PoolM.lives_give m i0 hla] at h2
  by_cases hj : j = i
  ·subst hj
   rw [if_pos (by omega)]
   simp
  ·rw [if_neg hj] at h2
   have := h.dead j h0 h1 h2 h3
   split
   ·simp [this]
   ·exact this
 ·exact ⟨h, rfl⟩
end Go.Proofs.Ythmbjlpgbkkjjaa.FI
end

section
namespace Go.Proofs.Ythmbjlpgbkkjjaa.FP
open F
open Go Go.Den Go.Proofs
def putF : Nat → Int → List Int
 | 0, _ => []
 | f + 1, n => if n < 128 then [n] else (n % 128 + 128) :: putF f (n / 128)
def putU (n : Int) : List Int := putF 10 n
def zig (n : Int) : Int := if n < 0 then -2 * n - 1 else 2 * n
abbrev iv (x : Int) : List Value := [.int .i64 x]
section
variable {S : List Nat} {w0 w : World} {its : List Thing}
end
def R64 (l : List Int) : Prop := ∀ x ∈ l, -9223372036854775808 ≤ x ∧ x ≤ 9223372036854775807
def encZ (l : List Int) : List Int := l.flatMap fun x => putU (zig x)
def encS : Int → List Int → List Int
 | _, [] => []
 | last, x :: r => putU (zig (IntKind.i64.wrap (x - last))) ++ encS x r
def cnt (x : Int) : List Int → Nat
 | [] => 0
 | y :: r => if y = x then cnt x r + 1 else 0
def runT : Option Int → List Int → List (Int × Int)
 | _, [] => []
 | p, x :: r => if p = some x then runT (some x) r else (((cnt x r + 1 : Nat) : Int), x) :: runT (some x) r
def runsL (l : List Int) : List (Int × Int) := runT none l
def encP (x : Int × Int) : List Int := putU x.1 ++ putU (zig x.2)
def encR (l : List Int) : List Int := putU (runsL l).length ++ (runsL l).flatMap encP
def formU (f : Int) (l : List Int) : List Int := if f = 0 then encZ l else if f = 1 then encS 0 l else encR l
def shorter (a b : List Int) : List Int := if b.length < a.length then b else a
def bestU (l : List Int) : List Int := shorter (shorter (0 :: formU 0 l) (1 :: formU 1 l)) (2 :: formU 2 l)
def bk (l : List Int) (k : Nat) : List Int := if k = 1 then 0 :: formU 0 l else if k = 2 then shorter (0 :: formU 0 l) (1 :: formU 1 l) else bestU l
section
variable {S : List Nat} {w0 w : World} {its : List Thing}
end
end Go.Proofs.Ythmbjlpgbkkjjaa.FP
end

section
namespace Go.Proofs.Ythmbjlpgbkkjjaa.FW
open F
open Go Go.Den Go.Proofs
open FI (PoolM tPool)
open FT (TabM tTab Ent entV ent atI keyEnt iv)
structure WA where
 ks : KD
 pool : PoolM
 row : Ent → Option PL
structure WA.Ok (a : WA) : Prop where
 pok2 : a.pool.Ok2
 most : a.pool.most = 200
 may : mayOk a.ks
 liv : ∀ e : Ent, (a.row e).isSome = a.pool.is e.1 e.2
 rng : ∀ (e : Ent) (p : PL), a.row e = some p → FP.R64 (flat p)
def WA.m (a : WA) : WM := ⟨a.ks, a.pool, fun e => (a.row e).map setI, []⟩
def WH.tabs (q : WH) : List (Int × TabM) := q.T.map fun x => (x.1, x.2.2)
def tW (b : Nat) (a : WA) : Thing := tEx fun T : List (Int × TabM) => tAnd (a.Ok ∧ Tabs a.ks a.row a.m.sets T) (tWorld b ⟨a.ks, a.pool, a.m.sets, T⟩)
theorem WA.Ok.pok {a : WA} (h : a.Ok) : a.pool.Ok := h.pok2.toOk
theorem WA.Ok.len {a : WA} (h : a.Ok) : 1 ≤ a.ks.length ∧ a.ks.length ≤ 12 := ⟨h.may.2.1, h.may.2.2.1⟩
theorem WA.Ok.four {a : WA} (h : a.Ok) : ∀ x ∈ a.ks, x.2.length ≤ 4 := fun x hx => (h.may.1 x hx).1
theorem pool_few {m : PoolM} (hm : m.Ok) {L : List Ent} (hnd : L.Nodup) (h : ∀ x ∈ L, m.is x.1 x.2 = true) : L.length ≤ 200 := by
 have hin : ∀ x ∈ L, 0 ≤ x.1 ∧ x.1 < m.gens.length ∧ m.gen x.1 = x.2 := fun x hx => by
  obtain ⟨h1, h2⟩ := PoolM.is_iff.1 (h x hx)
  have := FI.lives_lt' hm h1
  exact ⟨this.1, this.2, h2⟩
 have := nodup_lt m.gens.length (L.map fun x => x.1.toNat) (by
  rw [List.nodup_iff_pairwise_ne, List.pairwise_map]
  refine List.Pairwise.imp_of_mem (fun {a b} ha hb hne he => hne ?_) (List.nodup_iff_pairwise_ne.1 hnd)
  have h1 := hin a ha
  have h2 := hin b hb
  have : a.1 = b.1 := by omega
  exact Prod.ext this (by rw [← h1.2.2, ← h2.2.2, this])) (fun x hx => by
  obtain ⟨y, hy, rfl⟩ := List.mem_map.1 hx
  have := hin y hy
  omega)
 rw [List.length_map] at this
 have := hm.len200
 omega
section
variable {S : List Nat} {w0 w : World} {its : List Thing}
theorem W_open {b : Nat} {a : WA} {rest : List Thing} (h : Hp S w0 w (tW b a :: rest)) :
  ∃ q : WH, a.Ok ∧ Tabs a.ks a.row a.m.sets q.tabs ∧ kinds q.xs = a.ks ∧ Hp S w0 w (q.all b a.m tEmp ++ rest) := by
 obtain ⟨T, h⟩ := h.openEx (i := 0) rfl (fun _ => rfl)
 obtain ⟨⟨hok, ht⟩, h⟩ := h.openAnd (i := 0) rfl rfl
 obtain ⟨q, hq, h⟩ := w_open h (i := 0) rfl
 refine ⟨q, hok, ?_, hq.1, ?_⟩
 ·have : q.tabs = T := hq.2
  rw [this]; exact ht
 have h : Hp S w0 w ((q.blk b :: rest) ++ q.rest ⟨a.ks, a.pool, a.m.sets, T⟩) := h
 have h := h.comm
 have h : Hp S w0 w (q.rest ⟨a.ks, a.pool, a.m.sets, T⟩ ++ [q.blk b] ++ rest) := by rw [List.append_assoc]; exact h
 have h := h.rot.emp1
 have h : Hp S w0 w ([tEmp] ++ [q.blk b] ++ (q.rest ⟨a.ks, a.pool, a.m.sets, T⟩ ++ rest)) := by
  simp only [List.cons_append, List.nil_append, List.append_assoc] at h ⊢
  exact h
 exact h.rot
theorem W_shut {b : Nat} {a : WA} {m : WM} {q : WH} {u : Thing} {rest : List Thing} (hok : a.Ok) (ht : Tabs a.ks a.row a.m.sets q.tabs) (hk : kinds q.xs = a.ks) (hp : m.pool = a.pool) (hs : m.sets = a.m.sets) (h : Hp S w0 w (q.all b m u ++ rest)) : Hp S w0 w (tW b a :: rest) := by
 have h : Hp S w0 w (q.blk b :: u :: (q.rest m ++ rest)) := h
 have h := h.drop1
 have e : q.rest m = q.rest ⟨a.ks, a.pool, a.m.sets, q.tabs⟩ := by
  unfold WH.rest
  rw [hp, hs]
 rw [e] at h
 have h := w_close (m := ⟨a.ks, a.pool, a.m.sets, q.tabs⟩) ⟨hk, rfl⟩ h
 have h := h.putAnd (i := 0) (p := a.Ok ∧ Tabs a.ks a.row a.m.sets q.tabs) ⟨hok, ht⟩ rfl rfl
 exact h.putEx (i := 0) (f := fun T : List (Int × TabM) => tAnd (a.Ok ∧ Tabs a.ks a.row a.m.sets T) (tWorld b ⟨a.ks, a.pool, a.m.sets, T⟩)) q.tabs rfl rfl
theorem leave_W {b : Nat} {m : WM} {q : WH} {u : Thing} {more : List Thing} (h : Hp S w0 w (q.all b m u ++ more)) {row : Ent → Option PL} {e : Ent} {p : PL} (ht : Tabs (kinds q.xs) row m.sets q.tabs) (hr : row e = some p) {K : Sl → World → Prop}
  (hK : ∀ s T' w', Tabs (kinds q.xs) (upd1 row e none) (upd1 m.sets e none) ({ q with T := T' } : WH).tabs → Hp S w0 w' (({ q with T := T' } : WH).all b { m with sets := upd1 m.sets e none } u ++ more ++ [tSl s 2 1 iv (flat p)]) → K s w') : c73 (some ⟨b, 0, none⟩) e.1 e.2 w K := by
 obtain ⟨k, r, t, hk, tk, hat, hrr⟩ := ht.find hr
 unfold WH.tabs at hk
 rw [List.getElem?_map] at hk
 obtain ⟨⟨s0, tb, t0⟩, hkT, he⟩ := Option.map_eq_some_iff.1 hk
 obtain ⟨rfl, rfl⟩ := Prod.mk.inj he
 have hset : m.sets e = some (setI p) := by rw [ht.sets]; show (row e).map setI = _; rw [hr]; rfl
 refine leave_spec h (e := e) (set := setI p) (k := k) (tb := tb) (row := r) (t := t0) (vals := flat p) hset (by have := ht.nd; unfold WH.tabs at this; rw [List.map_map] at this; exact this) hkT tk hat hrr fun s T' w' hT h => hK s T' w' ?_ h
 refine ht.leave hr (k := k) (r := r) (t := t0) (by unfold WH.tabs; rw [List.getElem?_map, hkT]; rfl) hrr ?_
 rcases hT with ⟨hz, rfl⟩ | ⟨hz, rfl⟩
 ·exact .inl ⟨hz, by unfold WH.tabs; rw [List.map_set]⟩
 ·exact .inr ⟨hz, by unfold WH.tabs; rw [map_eraseIdx']⟩
theorem enter_W {b : Nat} {m : WM} {q : WH} {u : Thing} {more : List Thing} (h : Hp S w0 w (q.all b m u ++ more)) {row : Ent → Option PL} {e : Ent} {p : PL} (ht : Tabs (kinds q.xs) row m.sets q.tabs) (hm : mayOk (kinds q.xs)) (hr : row e = none) (hp : p.fit (kinds q.xs))
  (hb : ∀ L : List Ent, L.Nodup → (∀ x ∈ L, (row x).isSome = true) → L.length < 200) {vs : Sl} (hu : Hp.Reads u vs 1 iv (flat p)) {K : World → Prop}
  (hK : ∀ T' w', Tabs (kinds q.xs) (upd1 row e (some p)) (upd1 m.sets e (some (setI p))) ({ q with T := T' } : WH).tabs → Hp S w0 w' (({ q with T := T' } : WH).all b { m with sets := upd1 m.sets e (some (setI p)) } u ++ more) → K w') : c71 (some ⟨b, 0, none⟩) e.1 e.2 (setI p) vs w K := by
 have hkl : (kinds q.xs).length = q.xs.length := by simp [kinds]
 have h12 : q.xs.length ≤ 12 := by have := hm.2.2.1; omega
 have h4k : ∀ x ∈ kinds q.xs, x.2.length ≤ 4 := fun x hx => (hm.1 x hx).1
 have h4 : ∀ x ∈ q.xs, x.2.2.length ≤ 4 := fun x hx => h4k (x.1, x.2.2) (List.mem_map.2 ⟨x, hx, rfl⟩)
 have hpl : p.length ≤ 12 := by rw [hp.1]; omega
 have hs1 := setI_lt hpl
 refine enter_spec h h12 h4 (fun x hx => (ht.tok (x.1, x.2.2) (List.mem_map.2 ⟨x, hx, rfl⟩)).1) (setI_nn p) (by omega) hu fun T1 k tb t w' hT hk h => ?_
 have hT1 : T1.map (fun x => (x.1, x.2.2)) = q.tabs ∨ (T1.map (fun x => (x.1, x.2.2)) = q.tabs ++ [(setI p, ⟨atF (kinds q.xs) (setI p) (kinds q.xs).length, []⟩)] ∧ ∀ x ∈ q.tabs, x.1 ≠ setI p) := by
  rcases hT with rfl | ⟨rfl, hno⟩
  ·exact .inl rfl
  ·refine .inr ⟨by unfold WH.tabs; rw [List.map_append, hkl]; rfl, fun x hx => ?_⟩
   obtain ⟨y, hy, rfl⟩ := List.mem_map.1 hx
   exact hno y hy
 obtain ⟨e1, e2⟩ := ht.enter hr hp hb h4k (by omega) hT1 (k := k) (t := t) (by rw [List.getElem?_map, hk]; rfl)
 rw [e1] at h
 refine hK _ w' ?_ h
 unfold WH.tabs
 rw [List.map_set]
 exact e2
def WA.despawn (a : WA) (e : Ent) : WA × Int := if a.pool.is e.1 e.2 = true then (⟨a.ks, a.pool.give e.1 e.2, upd1 a.row e none⟩, 0) else (a, 41)
theorem upd_sets (row : Ent → Option PL) (e : Ent) (o : Option PL) : (fun x => (upd1 row e o x).map setI) = upd1 (fun x => (row x).map setI) e (o.map setI) := by
 funext x
 unfold upd1
 split <;> rfl
theorem give_liv {m : PoolM} (hm : m.Ok) {e x : Ent} (he : m.is e.1 e.2 = true) : (m.give e.1 e.2).is x.1 x.2 = if x = e then false else m.is x.1 x.2 := by
 obtain ⟨h1, h2⟩ := PoolM.is_iff.1 he
 obtain ⟨a1, a2⟩ := FI.lives_lt' hm h1
 have hl := hm.len
 unfold PoolM.is
 rw [PoolM.lives_give m a1 (by omega), PoolM.gen_give]
 by_cases hx : x = e
 ·subst hx; simp
 ·rw [if_neg hx]
  by_cases h0 : x.1 = e.1
  ·rw [if_pos h0]
   have : m.gen x.1 ≠ x.2 := fun hg => hx (Prod.ext h0 (by rw [← hg, h0, h2]))
   simp [this]
  ·rw [if_neg h0]
theorem flat_rng {p : PL} (h : FP.R64 (flat p)) (i : Nat) {v : List Int} (hv : FP.R64 v) : FP.R64 (flat (p.set i (some v))) := by
 intro x hx
 obtain ⟨o, ho, hx⟩ := List.mem_flatMap.1 hx
 rcases List.mem_or_eq_of_mem_set ho with ho | rfl
 ·exact h x (List.mem_flatMap.2 ⟨o, ho, hx⟩)
 ·exact hv x hx
theorem flat_rngOff {p : PL} (h : FP.R64 (flat p)) (i : Nat) : FP.R64 (flat (p.set i none)) := by
 intro x hx
 obtain ⟨o, ho, hx⟩ := List.mem_flatMap.1 hx
 rcases List.mem_or_eq_of_mem_set ho with ho | rfl
 ·exact h x (List.mem_flatMap.2 ⟨o, ho, hx⟩)
 ·cases hx
theorem WA.despawn_ok {a : WA} (h : a.Ok) (e : Ent) : (a.despawn e).1.Ok := by
 unfold WA.despawn
 split
 ·rename_i he
  refine ⟨by have := (FI.giveM_ok h.pok2 e.1 e.2).1; unfold PoolM.giveM at this; rw [if_pos he] at this; exact this, h.most, h.may, fun x => ?_, fun x p hx => ?_⟩
  ·show (upd1 a.row e none x).isSome = _
   rw [give_liv h.pok he]
   unfold upd1
   split
   ·rfl
   ·exact h.liv x
  ·have hx : upd1 a.row e none x = some p := hx
   unfold upd1 at hx
   split at hx
   ·cases hx
   ·exact h.rng x p hx
 ·exact h
set_option maxHeartbeats 1000000 in
theorem Despawn_W (h : Hp S w0 w its) (i : Nat) {b : Nat} {a : WA} (hi : its[i]? = some (tW b a)) {e : Ent} {K : Int → World → Prop} (hK : ∀ w', Hp S w0 w' (its.set i (tW b (a.despawn e).1)) → K (a.despawn e).2 w') : c50 (some ⟨b, 0, none⟩) e.1 e.2 w K := by
 refine c50_of ?_
 unfold f50
 obtain ⟨O, h1, back⟩ := h.f1 hi rfl
 clear h
 obtain ⟨q, hok, ht, hk, h⟩ := W_open h1
 have hok' := WA.despawn_ok hok e
 refine h.nw (c := [_, _]) fun eb w1 h => ?_
 rw [List.append_nil] at h
 have h : Hp O w w1 (q.all b a.m tEmp ++ [tBlk eb 33 [.int .i64 e.1, .int .i64 e.2]]) := h
 refine h.dr fun w2 h => ?_
 refine nns ?_
 refine h.ld (n := 1) (k := .p) (x := some ⟨q.pb, 0, none⟩) 0 rfl rfl ?_
 refine h.ld0 (k := .i .i64) (x := e.1) 8 rfl rfl ?_
 refine h.ld (n := 1) (k := .i .i64) (x := e.2) 8 rfl rfl ?_
 refine FI.Give_h h 4 (m := a.pool) hok.pok rfl fun w3 h => ?_
 have hl := hok.liv e
 have fin : ∀ {w' : World} {a' : WA}, Hp O w w' [tW b a'] → Hp S w0 w' (its.set i (tW b a')) := fun {w' a'} h => by
  have := back (rest := []) rfl rfl h
  rwa [List.append_nil] at this
 unfold PoolM.giveM at h ⊢
 by_cases he : a.pool.is e.1 e.2 = true
 ·simp only [if_pos he] at h ⊢
  have e0 : a.despawn e = (⟨a.ks, a.pool.give e.1 e.2, upd1 a.row e none⟩, 0) := by unfold WA.despawn; rw [if_pos he]
  rw [e0] at hK hok'
  refine ifF (by simp) ?_
  have h : Hp O w w3 (q.all b { a.m with pool := a.pool.give e.1 e.2 } tEmp ++ [tBlk eb 33 [.int .i64 e.1, .int .i64 e.2]]) := h
  refine h.ld0 (k := .i .i64) (x := e.1) 8 rfl rfl ?_
  refine h.ld (n := 1) (k := .i .i64) (x := e.2) 8 rfl rfl ?_
  rw [he] at hl
  obtain ⟨p, hr⟩ := Option.isSome_iff_exists.1 hl
  refine leave_W h (row := a.row) (p := p) (by rw [hk]; exact ht) hr fun s T' w4 ht' h => hK w4 (fin ?_)
  refine W_shut (rest := []) (u := tEmp) (m := { a.m with pool := a.pool.give e.1 e.2, sets := upd1 a.m.sets e none }) (q := { q with T := T' }) hok' ?_ hk rfl ?_ ?_
  ·show Tabs a.ks (upd1 a.row e none) (fun x => (upd1 a.row e none x).map setI) _
   rw [upd_sets, ← hk]
   exact ht'
  ·exact (upd_sets a.row e none).symm
  ·have h := h.front.front
   rw [List.append_nil]; exact h
 ·simp only [if_neg he] at h ⊢
  have e0 : a.despawn e = (a, 41) := by unfold WA.despawn; rw [if_neg he]
  rw [e0] at hK
  refine ifT rfl (hK w3 (fin ?_))
  refine W_shut (rest := []) (u := tEmp) (m := a.m) (q := q) hok ht hk rfl rfl ?_
  have h : Hp O w w3 (q.all b a.m tEmp ++ [tBlk eb 33 [.int .i64 e.1, .int .i64 e.2]]) := h
  rw [List.append_nil]; exact h.front
end
open FT (iv_len)
section
variable {S : List Nat} {w0 w : World} {its : List Thing}
theorem ro_tab (h : Hp S w0 w its) (i : Nat) {T : List TT} {k tb : Nat} {set : Int} {t : TabM} (hi : (its[i]?).map Thing.holds = some (tAll (T.map tT)).holds) (hk : T[k]? = some (set, tb, t)) : Hp [] w w [(tTab tb t).ro] := by
 have h1 := h.ro1 hi
 obtain ⟨O, hO, put⟩ := h1.roSee (i := 0) rfl
 obtain ⟨O1, O2, g1, g2, g3, g4⟩ := tAll_pick (k := k) (t := tT (set, tb, t)) (by rw [List.getElem?_map, hk]; rfl) hO
 exact (put g1 (fun x hx => (g4 x).2 (.inl hx))).sel1 1 rfl
theorem tFind (h : Hp S w0 w its) (i : Nat) {T : List TT} {k tb : Nat} {set : Int} {t : TabM} (hi : (its[i]?).map Thing.holds = some (tAll (T.map tT)).holds) (hk : T[k]? = some (set, tb, t)) {e : Ent} {r : Nat} (hat : atI t e = some (r : Int)) {K : Int → World → Prop}
  (hK : ∀ w', Hp S w0 w' its → K r w') : c77 (some ⟨tb, 0, none⟩) e.1 e.2 w K :=
 FT.Find_spec (ro_tab h i hi hk) 0 rfl fun w' h' => by
  rw [hat]
  exact hK w' (by have := h.r0 (rest := []) rfl (h'.trim 0); rwa [List.append_nil] at this)
theorem tRow (h : Hp S w0 w its) (i : Nat) {T : List TT} {k tb : Nat} {set : Int} {t : TabM} (hok : t.Ok) (hi : (its[i]?).map Thing.holds = some (tAll (T.map tT)).holds) (hk : T[k]? = some (set, tb, t)) {e : Ent} {vals : List Int} {r : Nat} (hrr : t.rows[r]? = some (e, vals)) {K : Int → Int → Sl → Int → World → Prop}
  (hK : ∀ s w', Hp S w0 w' (its ++ [tSl s 2 1 iv vals]) → K e.1 e.2 s 0 w') : c76 (some ⟨tb, 0, none⟩) (r : Int) w K :=
 FT.Row_spec (ro_tab h i hi hk) 0 hok rfl fun s w' => ⟨fun x hx0 hx h' => by
  have hx : t.rows[r]? = some x := hx
  rw [hrr] at hx
  obtain rfl := Option.some.inj hx
  exact hK s w' (h.r0 (rest := [tSl s 2 1 iv vals]) rfl (h'.sel1 1 rfl)), fun hno => absurd ⟨by omega, by have := (List.getElem?_eq_some_iff.1 hrr).1; omega⟩ hno⟩
theorem CloneR_spec (h : Hp S w0 w its) (i : Nat) {u : Thing} {s : Sl} {L : List Int} (hi : its[i]? = some u) (hu : Hp.Reads u s 1 iv L) (hl : L.length ≤ 1000000) {K : Sl → World → Prop} (hK : ∀ r w', Hp S w0 w' (its ++ [tSl r 2 1 iv L]) → K r w') : c41 s w K := by
 refine c41_of ?_
 unfold f41
 obtain ⟨inf, q1, q2, q3, q4⟩ := FT.inf2
 have hlt := (List.getElem?_eq_some_iff.1 hi).1
 have hsl := h.lenU i (by rw [hi]; rfl) hu
 by_cases hn : s.a.isNone = true
 ·refine ifT hn (hK _ _ ?_)
  have : L = [] := by
   obtain ⟨O, hO⟩ := h.see hi
   obtain ⟨o, hR⟩ := hu.rd hO
   exact hR.isNil (by simpa using hn)
  rw [this]; exact h.nil 2 1 iv
 ·refine ifF hn ?_
  refine h.nw (c := []) fun b w1 h => ?_
  have h := h.blkSl (i := its.length) (m := 0) (l := ([] : List Int)) (f := iv) (n := 1) List.getElem?_concat_length rfl rfl iv_len
  rw [set_last] at h
  refine h.appS its.length i (s := ⟨some ⟨b, 0, none⟩, 0, 0⟩) (s2 := s) List.getElem?_concat_length (by rw [List.getElem?_append_left hlt]; exact hi) hu iv_len FT.und34 q1 q3 q2 rfl (by simp [iv, Value.oneCell']) (by rw [q4]; show (0 + s.len) * 8 ≤ _; omega) (by show 0 + s.len ≤ _; omega) fun r w2 h _ _ => ?_
  rw [set_last] at h
  exact hK r w2 h
theorem q_cap (h : Hp S w0 w its) (i : Nat) {s : Sl} {l : List Int} (hi : its[i]? = some (tSl s 2 1 iv l)) : l.length = s.len ∧ s.len ≤ s.cap := ⟨h.len i (by rw [hi]; rfl), h.cap i (by rw [hi]; rfl)⟩
set_option maxHeartbeats 1000000 in
theorem part_W {b : Nat} {m : WM} {q : WH} {u : Thing} {more : List Thing} (h : Hp S w0 w (q.all b m u ++ more)) {row : Ent → Option PL} {e : Ent} {p : PL} (ht : Tabs (kinds q.xs) row m.sets q.tabs) (hm : mayOk (kinds q.xs)) (hr : row e = some p) {i : Nat} {v : List Int} (hp : p[i]? = some (some v)) {K : Int → Sl → World → Prop}
  (hK : ∀ s w', Hp S w0 w' (q.all b m u ++ more ++ [tSl s 2 1 iv v]) → K ((i + 1 : Nat) : Int) s w') : c54 (some ⟨b, 0, none⟩) e.1 e.2 (setI p) ((i + 1 : Nat) : Int) w K := by
 refine c54_of ?_
 unfold f54
 obtain ⟨inf', r1, r2, r3, r4⟩ := inf121
 have hkl : (kinds q.xs).length = q.xs.length := by simp [kinds]
 have h12 : q.xs.length ≤ 12 := by have := hm.2.2.1; omega
 have h4k : ∀ x ∈ kinds q.xs, x.2.length ≤ 4 := fun x hx => (hm.1 x hx).1
 have h4 : ∀ x ∈ q.xs, x.2.2.length ≤ 4 := fun x hx => h4k (x.1, x.2.2) (List.mem_map.2 ⟨x, hx, rfl⟩)
 have hfit := ht.fit e p hr
 have hil := (List.getElem?_eq_some_iff.1 hp).1
 have hs1 := setI_lt (show p.length ≤ 12 by rw [hfit.1]; omega)
 obtain ⟨k, r, t, hk, tk, hat, hrr⟩ := ht.find hr
 unfold WH.tabs at hk
 rw [List.getElem?_map] at hk
 obtain ⟨⟨s0, tb, t0⟩, hkT, he⟩ := Option.map_eq_some_iff.1 hk
 obtain ⟨rfl, rfl⟩ := Prod.mk.inj he
 have hnd : (q.T.map (·.1)).Nodup := by have := ht.nd; unfold WH.tabs at this; rw [List.map_map] at this; exact this
 have hkd : (kinds q.xs)[i]? = some ((kinds q.xs)[i]'(by rw [← hfit.1]; exact hil)) := List.getElem?_eq_getElem _
 have hvl := hfit.2 i v _ hp hkd
 refine h.nw (c := [_, _]) fun eb w1 h => ?_
 have h := h.up
 refine h.nw (c := [_, _]) fun ab w2 h => ?_
 have h := h.up
 refine nns ?_
 refine h.ld (n := 3) (k := .m) (x := some q.mt) 0 rfl rfl ?_
 refine h.lookup1 (kd := .p) (vk := fun tb => some ⟨tb, 0, none⟩) (z := (none : Option Addr)) (ek := Value.int .i64) (ev := pv) (g := tptr q.T) (k := setI p) 6 rfl rfl und99 key3 r1 r2 (fun _ => rfl) ?_
 rw [tptr_at hnd hkT]
 refine h.ld0 (k := .i .i64) (x := e.1) 9 rfl rfl ?_
 refine h.ld (n := 1) (k := .i .i64) (x := e.2) 9 rfl rfl ?_
 refine tFind h 7 rfl hkT hat fun w3 h => ?_
 refine tRow h 7 tk rfl hkT hrr fun s w4 h => ?_
 have h := h.up
 refine h.nw (c := [_, _]) fun xb w5 h => ?_
 have h := h.up
 refine h.st0 8 rfl (by simp) rfl fun w6 h => ?_
 refine h.st (n := 1) 8 rfl (by simp) rfl fun w7 h => ?_
 have h : Hp S w0 w7 (q.all b m u ++ (tBlk xb 33 [.int .i64 e.1, .int .i64 e.2] :: tSl s 2 1 iv (flat p) :: tBlk ab 62 [.int .i64 0, .slice none 0 0] :: tBlk eb 33 [.int .i64 e.1, .int .i64 e.2] :: more)) := h
 refine at_spec h 0 2 3 (cells := [_, _, _]) rfl rfl rfl h12 h4 (setI_nn p) (by omega) (q := i) (by rw [hfit.1, hkl] at hil; omega) ?_
 have hil12 : i < 12 := by rw [hfit.1] at hil; omega
 refine fields_spec h 0 2 3 (cells := [_, _, _]) rfl rfl rfl (by omega) (by omega) (by omega) ?_
 have hfl : fl (kinds q.xs) ((i + 1 : Nat) : Int) = some v.length := by
  unfold fl
  rw [if_pos (by omega), show (((i + 1 : Nat) : Int) - 1).toNat = i by omega, hkd, hvl]; rfl
 rw [hfl]
 dsimp only
 have hsl := q_cap h 9 rfl
 have hall := hfit.all
 have hle := hfit.at (q := i) (by omega)
 have hgt := hfit.get hp
 have hsum : atF (kinds q.xs) (setI p) i + v.length ≤ s.len := by
  rw [← hsl.1, flat_split hp, hle]; simp
 have hle2 := atF_le h4k (setI p) i
 have hv4 := h4k _ (List.mem_of_getElem? hkd)
 rw [wr64 (n := (atF (kinds q.xs) (setI p) i : Int) + (v.length : Int)) (by omega) (by omega)]
 refine Hp.cutv (s := s) (u := tSl s 2 1 iv (flat p)) (l := flat p) Hp.rdSl hsl.1 iv_len (by omega) (by omega) (by omega) (Int.le_refl _) (by omega) fun s2 hs2 _ _ => ?_
 have e1 : ((flat p).take ((atF (kinds q.xs) (setI p) i : Int) + (v.length : Int)).toNat).drop ((atF (kinds q.xs) (setI p) i : Nat) : Int).toNat = v := by
  rw [Int.toNat_natCast, show ((atF (kinds q.xs) (setI p) i : Int) + (v.length : Int)).toNat = atF (kinds q.xs) (setI p) i + v.length by omega]
  exact hgt
 rw [e1] at hs2
 refine CloneR_spec h 9 rfl hs2 (by omega) fun s3 w8 h => ?_
 refine h.st0 10 rfl (by simp) rfl fun w9 h => ?_
 refine h.st (n := 1) 10 rfl (by simp) rfl fun w10 h => ?_
 have h : Hp S w0 w10 (q.all b m u ++ [tBlk xb 33 [.int .i64 e.1, .int .i64 e.2], tSl s 2 1 iv (flat p), tBlk ab 62 [.int .i64 ((i + 1 : Nat) : Int), .slice s3.a s3.len s3.cap], tBlk eb 33 [.int .i64 e.1, .int .i64 e.2]] ++ (more ++ [tSl s3 2 1 iv v])) := h
 refine h.ld0 (k := .i .i64) (x := ((i + 1 : Nat) : Int)) 10 rfl rfl ?_
 refine h.ld (n := 1) (k := .sl) (x := s3) 10 rfl rfl ?_
 have h := h.cutMid
 rw [← List.append_assoc] at h
 exact hK s3 w10 h
theorem fl_at {ks : KD} {kind : Int} {n : Nat} (hf : fl ks kind = some n) : ∃ (i : Nat) (k : ByteArray × List ByteArray), kind = ((i + 1 : Nat) : Int) ∧ ks[i]? = some k ∧ k.2.length = n := by
 unfold fl at hf
 by_cases h1 : 1 ≤ kind
 ·rw [if_pos h1] at hf
  obtain ⟨k, hk, rfl⟩ := Option.map_eq_some_iff.1 hf
  exact ⟨(kind - 1).toNat, k, by omega, hk, rfl⟩
 ·rw [if_neg h1] at hf; cases hf
theorem asked_W {b : Nat} {a : WA} {q : WH} {u : Thing} {more : List Thing} (h : Hp S w0 w (q.all b a.m u ++ more)) (hok : a.Ok) (ht : Tabs a.ks a.row a.m.sets q.tabs) (hk : kinds q.xs = a.ks) {e : Ent} {kind : Int} (k1 : -9223372036854775808 ≤ kind) (k2 : kind ≤ 9223372036854775807) {K : Int → Bool → Int → Int → World → Prop}
  (hK : ∀ w', Hp S w0 w' (q.all b a.m u ++ more) → (a.row e = none → K 0 false 0 41 w') ∧ (∀ p, a.row e = some p → fl a.ks kind = none → K 0 false 0 60 w') ∧ (∀ p i k, a.row e = some p → kind = ((i + 1 : Nat) : Int) → a.ks[i]? = some k → K (setI p) (p.getD i none).isSome (k.2.length : Nat) 0 w')) :
  c74 (some ⟨b, 0, none⟩) e.1 e.2 kind w K := by
 have hkl : (kinds q.xs).length = q.xs.length := by simp [kinds]
 have hl := hok.len
 have hlv := hok.liv e
 refine asked_spec h hok.pok (by rw [← hkl, hk]; omega) (fun s hs => ?_) k1 k2 fun w' h => ⟨fun hno => ?_, fun his hf => ?_, fun n his hf => ?_⟩
 ·obtain ⟨p, hp, rfl⟩ := Option.map_eq_some_iff.1 hs
  have := setI_lt (show p.length ≤ 12 by rw [(ht.fit e p hp).1]; omega)
  exact ⟨setI_nn p, by omega⟩
 ·refine (hK w' h).1 ?_
  have hno : a.pool.is e.1 e.2 = false := hno
  rw [hno] at hlv
  cases hr : a.row e with
  | none => rfl
  | some p => rw [hr] at hlv; cases hlv
 ·have his : a.pool.is e.1 e.2 = true := his
  rw [his] at hlv
  obtain ⟨p, hp⟩ := Option.isSome_iff_exists.1 hlv
  exact (hK w' h).2.1 p hp (by rw [← hk]; exact hf)
 ·have his : a.pool.is e.1 e.2 = true := his
  rw [his] at hlv
  obtain ⟨p, hp⟩ := Option.isSome_iff_exists.1 hlv
  rw [hk] at hf
  obtain ⟨i, k, rfl, hki, rfl⟩ := fl_at hf
  have := (hK w' h).2.2 p i k hp rfl hki
  have e1 : (a.m.sets e).getD 0 = setI p := by show ((a.row e).map setI).getD 0 = _; rw [hp]; rfl
  rw [e1, Int.toNat_natCast, bit_setI]
  have e2 : (((if (p.getD i none).isSome = true then 1 else 0) : Int) == 1) = (p.getD i none).isSome := by
   cases (p.getD i none).isSome <;> rfl
  rw [e2]
  exact this
def WA.get (a : WA) (e : Ent) (kind : Int) : List Int × Int := match a.row e with
 | none => ([], 41)
 | some p => match fl a.ks kind with
  | none => ([], 60)
  | some _ => match p.getD (kind - 1).toNat none with
   | none => ([], 62)
   | some v => (v, 0)
theorem W_fin {O : List Nat} {b : Nat} {a : WA} {w' : World} {rest : List Thing} {i : Nat} (hi : its[i]? = some (tW b a)) (back : ∀ {w' : World} {t' : Thing} {rest : List Thing}, t'.own = true → Hp.owns rest = true → Hp O w w' (t' :: rest) → Hp S w0 w' (its.set i t' ++ rest)) (ho : Hp.owns rest = true) (h : Hp O w w' (tW b a :: rest)) : Hp S w0 w' (its ++ rest) := by
 have := back rfl ho h
 rwa [Hp.set_same hi] at this
theorem Lives_W (h : Hp S w0 w its) (i : Nat) {b : Nat} {a : WA} (hi : its[i]? = some (tW b a)) {e : Ent} {K : Bool → World → Prop} (hK : ∀ w', Hp S w0 w' its → K (a.row e).isSome w') : c18 (some ⟨b, 0, none⟩) e.1 e.2 w K := by
 obtain ⟨O, h1, back⟩ := h.f1 hi rfl
 clear h
 obtain ⟨q, hok, ht, hk, h⟩ := W_open h1
 refine Lives_spec h hok.pok fun w' h => ?_
 have := W_fin hi back (rest := []) rfl (W_shut (rest := []) (m := a.m) hok ht hk rfl rfl h)
 rw [List.append_nil] at this
 have := hK w' this
 rw [hok.liv e] at this
 exact this
end
open FT (ent_len)
theorem und36 : Try.prog.underlying 35 = some (.slice 62) := by kernel_rfl
theorem und56 : Try.prog.underlying 51 = some (.slice 92) := by kernel_rfl
theorem inf40 : ∃ inf : TypeInfo, Try.prog.info? 62 = some inf ∧ inf.zero = some (.agg #[.int .i64 0, .slice none 0 0]) ∧ inf.size = 2 ∧ inf.bytes = 32 := infoP (by kernel_rfl)
theorem inf65 : ∃ inf : TypeInfo, Try.prog.info? 92 = some inf ∧ inf.zero = some (.agg #[.int .i64 0, .int .i64 0, .slice none 0 0]) ∧ inf.size = 3 ∧ inf.bytes = 40 := infoP (by kernel_rfl)
abbrev Part := Int × List Int
abbrev PV := Int × Sl × List Int
abbrev pdv (x : PV) : List Value := [.int .i64 x.1, .slice x.2.1.a x.2.1.len x.2.1.cap]
theorem pdv_len (x : PV) : (pdv x).length = 2 := rfl
def tV (x : PV) : Thing := tSl x.2.1 2 1 iv x.2.2
def pvis (x : PV) : Part := (x.1, x.2.2)
def tParts (s : Sl) (l : List Part) : Thing := tNest 62 2 pdv tV pvis s l
abbrev RowT := Ent × List Part
abbrev RV := Ent × Sl × List Part
abbrev rdv (x : RV) : List Value := [.int .i64 x.1.1, .int .i64 x.1.2, .slice x.2.1.a x.2.1.len x.2.1.cap]
theorem rdv_len (x : RV) : (rdv x).length = 3 := rfl
def tPs (x : RV) : Thing := tParts x.2.1 x.2.2
def rvis (x : RV) : RowT := (x.1, x.2.2)
def tRows (s : Sl) (l : List RowT) : Thing := tNest 92 3 rdv tPs rvis s l
def partsU (p : PL) : Nat → List Part
 | 0 => []
 | k + 1 => partsU p k ++ match p.getD k none with
  | some v => [(((k + 1 : Nat) : Int), v)]
  | none => []
def partsOf (p : PL) : List Part := partsU p p.length
theorem partsU_len (p : PL) : ∀ k, (partsU p k).length ≤ k
 | 0 => by simp [partsU]
 | k + 1 => by
  have := partsU_len p k
  rw [partsU, List.length_append]
  split <;> simp <;> omega
def WA.all (a : WA) : List Ent := a.pool.allU a.pool.gens.length
def WA.rowT (a : WA) (e : Ent) : RowT := (e, partsOf ((a.row e).getD []))
def WA.rows (a : WA) : List RowT := a.all.map a.rowT
theorem getD_some {p : PL} {j : Nat} {v : List Int} (hp : p.getD j none = some v) : p[j]? = some (some v) := by
 rw [List.getD_eq_getElem?_getD] at hp
 cases hx : p[j]? with
 | none => rw [hx] at hp; cases hp
 | some o => rw [hx] at hp; simpa using hp
section
variable {S : List Nat} {w0 w : World} {its : List Thing}
set_option maxHeartbeats 2000000 in
theorem row_W {b : Nat} {m : WM} {q : WH} {u : Thing} {more : List Thing} (h : Hp S w0 w (q.all b m u ++ more)) {row : Ent → Option PL} {e : Ent} {p : PL} (ht : Tabs (kinds q.xs) row m.sets q.tabs) (hm : mayOk (kinds q.xs)) (hr : row e = some p) {K : Int → Int → Sl → World → Prop}
  (hK : ∀ s w', Hp S w0 w' (q.all b m u ++ more ++ [tParts s (partsOf p)]) → K e.1 e.2 s w') : c32 (some ⟨b, 0, none⟩) e.1 e.2 w K := by
 refine c32_of ?_
 unfold f32
 obtain ⟨inf', r1, r2, r3, r4⟩ := FT.inf3
 obtain ⟨inf, q1, q2, q3, q4⟩ := inf40
 have hkl : (kinds q.xs).length = q.xs.length := by simp [kinds]
 have h12 : q.xs.length ≤ 12 := by have := hm.2.2.1; omega
 have hfit := ht.fit e p hr
 have hpl : p.length = q.xs.length := by rw [hfit.1, hkl]
 have hs1 := setI_lt (show p.length ≤ 12 by omega)
 have hs0 := setI_nn p
 have hset : m.sets e = some (setI p) := by rw [ht.sets]; show (row e).map setI = _; rw [hr]; rfl
 refine h.nw (c := [_, _]) fun eb w1 h => ?_
 have h := h.up
 refine h.nw (c := [_, _, _]) fun ab w2 h => ?_
 have h := h.up
 refine h.ld0 (k := .i .i64) (x := e.1) 9 rfl rfl ?_
 refine h.ld (n := 1) (k := .i .i64) (x := e.2) 9 rfl rfl ?_
 refine h.nw (c := [_, _, _]) fun rb w3 h => ?_
 have h := h.up
 refine h.st0 8 rfl (by simp) rfl fun w4 h => ?_
 refine h.st (n := 1) 8 rfl (by simp) rfl fun w5 h => ?_
 refine h.st (n := 2) 8 rfl (by simp) rfl fun w6 h => ?_
 have h : Hp S w0 w6 (q.all b m u ++ (tBlk rb 92 [.int .i64 e.1, .int .i64 e.2, .slice none 0 0] :: tBlk ab 92 [.int .i64 0, .int .i64 0, .slice none 0 0] :: tBlk eb 33 [.int .i64 e.1, .int .i64 e.2] :: more)) := h
 refine h.dr fun w7 h => ?_
 refine nns ?_
 refine h.ld (n := 2) (k := .m) (x := some q.ms) 0 rfl rfl ?_
 refine h.ld0 (k := .i .i64) (x := e.1) 10 rfl rfl ?_
 refine h.ld (n := 1) (k := .i .i64) (x := e.2) 10 rfl rfl ?_
 refine h.lookup1 (kd := .i .i64) (vk := id) (z := (0 : Int)) (ek := entV) (ev := Value.int .i64) (g := m.sets) (k := e) 5 rfl rfl und98 keyEnt r1 r2 (fun _ => rfl) ?_
 rw [hset]
 dsimp only [id_eq]
 refine nns ?_
 refine h.ld0 (k := .sl) (x := q.sk) 0 rfl rfl ?_
 have hsk := h.len (s := q.sk) 2 rfl
 have h := (h.nest_nil 62 2 pdv tV pvis).up
 refine ⟨fun t21 mm w' => ∃ (k : Nat) (s : Sl), t21 = k ∧ k ≤ p.length ∧ mm = p.length - k ∧ Hp S w0 w' (q.all b m u ++ (tParts s (partsU p k) :: tBlk rb 92 [.int .i64 e.1, .int .i64 e.2, .slice s.a s.len s.cap] :: tBlk ab 92 [.int .i64 0, .int .i64 0, .slice none 0 0] :: tBlk eb 33 [.int .i64 e.1, .int .i64 e.2] :: more)), ⟨p.length, 0, ⟨none, 0, 0⟩, rfl, by omega, rfl, h⟩, ?_⟩
 clear h
 rintro t21 mm w8 ⟨k, s, rfl, hk, rfl, h⟩
 have hplen := h.nest_see (s := s) (l := partsU p k) (e := 62) (n := 2) (cells := pdv) (sub := tV) (vis := pvis) 8 rfl
 have hpu := partsU_len p k
 by_cases hlt : k < p.length
 ·refine ifT (by simp; omega) ?_
  rw [show IntKind.i64.wrap ((k : Int) + 1) = ((k + 1 : Nat) : Int) by rw [wr64 (by omega) (by omega)]; omega]
  refine ⟨by omega, ?_⟩
  have hbit := (bit_eq (set := setI p) (k := k + 1) hs0 (by omega) (by omega)).trans (bit_setI p k)
  cases hp : p.getD k none with
  | some v =>
   refine ifT (by rw [hbit, hp]; rfl) ?_
   refine h.dr fun w9 h => ?_
   refine h.ld (n := 2) (k := .sl) (x := s) 9 rfl rfl ?_
   refine h.ld0 (k := .i .i64) (x := e.1) 11 rfl rfl ?_
   refine h.ld (n := 1) (k := .i .i64) (x := e.2) 11 rfl rfl ?_
   refine part_W h ht hm hr (getD_some hp) fun sv w10 h => ?_
   have h := h.up
   refine ⟨h.cel (n := 2) 10 rfl rfl, ?_⟩
   refine h.nest_app 9 8 (by omega) ((((k + 1 : Nat) : Int), sv, v) : PV) rfl rfl rfl pdv_len und36 q1 q3 q2 rfl rfl (by simp [pdv, Value.oneCell']) (by rw [q4]; omega) (by omega) fun s' w11 h hl' => ?_
   have h : Hp S w0 w11 (q.all b m u ++ [tEmp] ++ (tParts s' (partsU p k ++ [(((k + 1 : Nat) : Int), v)]) :: tBlk rb 92 [.int .i64 e.1, .int .i64 e.2, .slice s.a s.len s.cap] :: tBlk ab 92 [.int .i64 0, .int .i64 0, .slice none 0 0] :: tBlk eb 33 [.int .i64 e.1, .int .i64 e.2] :: more)) := h
   have h := h.cutMid
   refine h.st (n := 2) 9 rfl (by simp) rfl fun w12 h => ?_
   refine ⟨p.length - (k + 1), by omega, k + 1, s', rfl, by omega, rfl, ?_⟩
   have e1 : partsU p (k + 1) = partsU p k ++ [(((k + 1 : Nat) : Int), v)] := by rw [partsU, hp]
   rw [e1]
   exact h
  | none =>
   refine ifF (by rw [hbit, hp]; decide) ?_
   refine ⟨p.length - (k + 1), by omega, k + 1, s, rfl, by omega, rfl, ?_⟩
   have e1 : partsU p (k + 1) = partsU p k := by rw [partsU, hp]; simp
   rw [e1]
   exact h
 ·refine ifF (by simp; omega) ?_
  obtain rfl : k = p.length := by omega
  refine h.ld0 (k := .i .i64) (x := e.1) 9 rfl rfl ?_
  refine h.ld (n := 1) (k := .i .i64) (x := e.2) 9 rfl rfl ?_
  refine h.ld (n := 2) (k := .sl) (x := s) 9 rfl rfl ?_
  refine h.st0 10 rfl (by simp) rfl fun w9 h => ?_
  refine h.st (n := 1) 10 rfl (by simp) rfl fun w10 h => ?_
  refine h.st (n := 2) 10 rfl (by simp) rfl fun w11 h => ?_
  have h : Hp S w0 w11 (q.all b m u ++ (tParts s (partsOf p) :: ([tBlk rb 92 [.int .i64 e.1, .int .i64 e.2, .slice s.a s.len s.cap], tBlk ab 92 [.int .i64 e.1, .int .i64 e.2, .slice s.a s.len s.cap], tBlk eb 33 [.int .i64 e.1, .int .i64 e.2]] ++ more))) := h
  refine h.ld0 (k := .i .i64) (x := e.1) 10 rfl rfl ?_
  refine h.ld (n := 1) (k := .i .i64) (x := e.2) 10 rfl rfl ?_
  refine h.ld (n := 2) (k := .sl) (x := s) 10 rfl rfl ?_
  have h := h.down
  have h : Hp S w0 w11 (q.all b m u ++ [tBlk rb 92 [.int .i64 e.1, .int .i64 e.2, .slice s.a s.len s.cap], tBlk ab 92 [.int .i64 e.1, .int .i64 e.2, .slice s.a s.len s.cap], tBlk eb 33 [.int .i64 e.1, .int .i64 e.2]] ++ (more ++ [tParts s (partsOf p)])) := by
   simpa using h
  have h := h.cutMid
  rw [← List.append_assoc] at h
  exact hK s w11 h
theorem all_lives {a : WA} (hok : a.Ok) {e : Ent} (he : e ∈ a.all) : ∃ p, a.row e = some p := by
 obtain ⟨h1, _⟩ := FI.allU_get a.pool a.pool.gens.length
 obtain ⟨_, _, h2, h3⟩ := h1 e he
 have := hok.liv e
 rw [PoolM.is_iff.2 ⟨h2, h3⟩] at this
 exact Option.isSome_iff_exists.1 this
set_option maxHeartbeats 2000000 in
theorem Rows_o {b : Nat} {a : WA} {q : WH} {u : Thing} {more : List Thing} (h : Hp S w0 w (q.all b a.m u ++ more)) (hok : a.Ok) (ht : Tabs a.ks a.row a.m.sets q.tabs) (hk : kinds q.xs = a.ks) {K : Sl → World → Prop}
  (hK : ∀ s w', Hp S w0 w' (q.all b a.m u ++ more ++ [tRows s a.rows]) → K s w') : c15 (some ⟨b, 0, none⟩) w K := by
 refine c15_of ?_
 unfold f15
 obtain ⟨inf, q1, q2, q3, q4⟩ := inf65
 have hal : a.all.length ≤ 200 := by
  have h1 := PoolM.allU_len a.pool a.pool.gens.length
  have h2 := hok.pok.len200
  show (a.pool.allU a.pool.gens.length).length ≤ 200
  omega
 refine nns ?_
 refine h.ld (n := 1) (k := .p) (x := some ⟨q.pb, 0, none⟩) 0 rfl rfl ?_
 refine FI.All_h h 4 (m := a.pool) hok.pok rfl fun r w1 h => ?_
 have h := h.up
 have h : Hp S w0 w1 (q.all b a.m u ++ (tSl r 33 2 ent a.all :: more)) := h
 have hrl := h.len (s := r) 8 rfl
 have h := (h.nest_nil 92 3 rdv tPs rvis).up
 refine ⟨fun out t12 mm w' => ∃ k : Nat, t12 = k ∧ k ≤ a.all.length ∧ mm = a.all.length - k ∧ Hp S w0 w' (q.all b a.m u ++ (tRows out ((a.all.take k).map a.rowT) :: tSl r 33 2 ent a.all :: more)), ⟨a.all.length, 0, rfl, by omega, rfl, h⟩, ?_⟩
 clear h
 rintro out t12 mm w2 ⟨k, rfl, hkk, rfl, h⟩
 have hplen := h.nest_see (s := out) (l := (a.all.take k).map a.rowT) (e := 92) (n := 3) (cells := rdv) (sub := tPs) (vis := rvis) 8 rfl
 rw [List.length_map, List.length_take] at hplen
 by_cases hlt : k < a.all.length
 ·refine ifT (by simp; omega) ?_
  have hx : a.all[k]? = some a.all[k] := by simp [hlt]
  obtain ⟨p, hr⟩ := all_lives hok (List.getElem_mem hlt)
  have htk : (a.all.take (k + 1)).map a.rowT = (a.all.take k).map a.rowT ++ [(a.all[k], partsOf p)] := by
   rw [List.take_succ_eq_append_getElem hlt, List.map_append]
   show _ ++ [a.rowT a.all[k]] = _
   unfold WA.rowT
   rw [hr]; rfl
  generalize a.all[k] = e at hx hr htk
  refine h.ixr (s := r) (l := a.all) (f := ent) (n := 2) (e := 33) 9 rfl (by omega) (by rw [Int.toNat_natCast]; exact hx) ent_len fun ad hc => ?_
  refine ldR0 (k := .i .i64) (x := e.1) (hc 0 (by omega)) rfl ?_
  refine ldR (k := .i .i64) (x := e.2) (hc 1 (by omega)) rfl ?_
  refine h.nw (c := [_, _]) fun eb w3 h => ?_
  have h := h.up
  refine h.st0 8 rfl (by simp) rfl fun w4 h => ?_
  refine h.st (n := 1) 8 rfl (by simp) rfl fun w5 h => ?_
  have h : Hp S w0 w5 (q.all b a.m u ++ (tBlk eb 33 [.int .i64 e.1, .int .i64 e.2] :: tRows out ((a.all.take k).map a.rowT) :: tSl r 33 2 ent a.all :: more)) := h
  refine h.ld0 (k := .i .i64) (x := e.1) 8 rfl rfl ?_
  refine h.ld (n := 1) (k := .i .i64) (x := e.2) 8 rfl rfl ?_
  refine row_W h (row := a.row) (by rw [hk]; exact ht) (by rw [hk]; exact hok.may) hr fun s w6 h => ?_
  have h := h.up
  refine h.nest_app 10 8 (by omega) ((e, s, partsOf p) : RV) rfl rfl rfl rdv_len und56 q1 q3 q2 rfl rfl (by simp [rdv, Value.oneCell']) (by rw [q4]; omega) (by omega) fun s' w7 h hl' => ?_
  have h : Hp S w0 w7 (q.all b a.m u ++ [tEmp, tBlk eb 33 [.int .i64 e.1, .int .i64 e.2]] ++ (tRows s' ((a.all.take k).map a.rowT ++ [(e, partsOf p)]) :: tSl r 33 2 ent a.all :: more)) := h
  have h := h.cutMid
  refine ⟨a.all.length - (k + 1), by omega, k + 1, by rw [wr64 (by omega) (by omega)]; omega, by omega, rfl, ?_⟩
  rw [htk]
  exact h
 ·refine ifF (by simp; omega) ?_
  rw [List.take_of_length_le (by omega)] at h
  have h := h.down
  have h : Hp S w0 w2 (q.all b a.m u ++ [tSl r 33 2 ent a.all] ++ (more ++ [tRows out (a.all.map a.rowT)])) := by
   simpa using h
  have h := h.cutMid
  rw [← List.append_assoc] at h
  exact hK out w2 h
theorem Rows_W (h : Hp S w0 w its) (i : Nat) {b : Nat} {a : WA} (hi : its[i]? = some (tW b a)) {K : Sl → World → Prop}
  (hK : ∀ s w', Hp S w0 w' (its ++ [tRows s a.rows]) → K s w') : c15 (some ⟨b, 0, none⟩) w K := by
 obtain ⟨O, h1, back⟩ := h.f1 hi rfl
 clear h
 obtain ⟨q, hok, ht, hk, h⟩ := W_open h1
 refine Rows_o h hok ht hk fun s w' h => ?_
 have h : Hp O w w' (q.all b a.m tEmp ++ [tRows s a.rows]) := h
 exact hK s w' (W_fin hi back rfl (W_shut (rest := [_]) (m := a.m) hok ht hk rfl rfl h))
end
def putParts (ks : KD) : List Part → PL → PL × Int
 | [], p => (p, 0)
 | x :: ps, p => match fl ks x.1 with
  | none => (p, 60)
  | some n => if (p.getD (x.1 - 1).toNat none).isSome = true then (p, 61) else if x.2.length ≠ n then (p, 63) else putParts ks ps (p.set (x.1 - 1).toNat (some x.2))
def WA.emp (a : WA) : PL := List.replicate a.ks.length none
def WA.spawn (a : WA) (ps : List Part) : WA × Ent × Int :=
 if (putParts a.ks ps a.emp).2 ≠ 0 then (a, (0, 0), (putParts a.ks ps a.emp).2) else
 if a.pool.takeM.2.2 ≠ 0 then (a, (0, 0), a.pool.takeM.2.2) else (⟨a.ks, a.pool.takeM.1, upd1 a.row a.pool.takeM.2.1 (some (putParts a.ks ps a.emp).1)⟩, a.pool.takeM.2.1, 0)
theorem take_liv {m : PoolM} (hm : m.Ok) : (m.takeM.2.2 ≠ 0 → m.takeM = (m, (0, 0), 40)) ∧ (m.takeM.2.2 = 0 → m.takeM.1.Ok ∧ m.is m.takeM.2.1.1 m.takeM.2.1.2 = false ∧ ∀ x : Ent, m.takeM.1.is x.1 x.2 = if x = m.takeM.2.1 then true else m.is x.1 x.2) := by
 have hneg : ∀ (q : PoolM) (x : Ent), x.1 < 0 → q.is x.1 x.2 = false := fun q x hx => by
  unfold PoolM.is PoolM.lives
  rw [decide_eq_false (by omega)]; rfl
 unfold PoolM.takeM
 cases hf : m.free with
 | cons i rest =>
  dsimp only
  refine ⟨fun h => absurd rfl h, fun _ => ⟨hm.takeFree hf, ?_, fun x => ?_⟩⟩
  ·obtain ⟨a1, a2, a3, a4⟩ := hm.free i (by rw [hf]; simp)
   unfold PoolM.is; rw [a3]; rfl
  ·obtain ⟨a1, a2, a3, a4⟩ := hm.free i (by rw [hf]; simp)
   have hl := hm.len
   by_cases hx0 : x.1 < 0
   ·rw [hneg _ x hx0, hneg _ x hx0, if_neg (fun e => by rw [e] at hx0; dsimp only at hx0; omega)]
   ·unfold PoolM.is
    rw [PoolM.lives_takeFree m a1 (by omega), PoolM.gen_takeFree m a1 (by omega) (by omega)]
    by_cases hx : x.1 = i
    ·rw [if_pos hx, if_pos hx, hx, a3]
     by_cases hx2 : x = (i, m.gen i + 1)
     ·rw [if_pos hx2, hx2]; simp
     ·rw [if_neg hx2]
      have : m.gen i + 1 ≠ x.2 := fun e => hx2 (Prod.ext hx e.symm)
      simp [this]
    ·rw [if_neg hx, if_neg hx, if_neg (fun e => hx (by rw [e]))]
 | nil =>
  by_cases hl : (m.gens.length : Int) < m.most
  ·simp only [if_pos hl]
   refine ⟨fun h => absurd rfl h, fun _ => ⟨hm.takeNew hf hl, ?_, fun x => ?_⟩⟩
   ·unfold PoolM.is PoolM.lives
    have := hm.len
    rw [List.getD_eq_getElem?_getD, List.getElem?_eq_none (by simp; omega)]; simp
   ·have hl := hm.len
    have hdead : m.lives (m.gens.length : Int) = false := by
     unfold PoolM.lives
     rw [List.getD_eq_getElem?_getD, List.getElem?_eq_none (by simp; omega)]; simp
    by_cases hx0 : x.1 < 0
    ·rw [hneg _ x hx0, hneg _ x hx0, if_neg (fun e => by rw [e] at hx0; dsimp only at hx0; omega)]
    ·unfold PoolM.is
     rw [PoolM.lives_takeNew m hl, PoolM.gen_takeNew m (by omega)]
     by_cases hx : x.1 = m.gens.length
     ·rw [if_pos hx, if_pos hx, hx, hdead]
      by_cases hx2 : x = ((m.gens.length : Int), 1)
      ·rw [if_pos hx2, hx2]; simp
      ·rw [if_neg hx2]
       have : (1 : Int) ≠ x.2 := fun e => hx2 (Prod.ext hx e.symm)
       simp [this]
     ·rw [if_neg hx, if_neg hx, if_neg (fun e => hx (by rw [e]))]
  ·simp only [if_neg hl]
   exact ⟨fun _ => trivial, fun h => absurd h (by decide)⟩
theorem putParts_rng {ks : KD} : ∀ (ps : List Part) {p : PL}, (∀ x ∈ ps, FP.R64 x.2) → FP.R64 (flat p) → FP.R64 (flat (putParts ks ps p).1)
 | [], p, _, h => h
 | x :: ps, p, hp, h => by
  unfold putParts
  cases hf : fl ks x.1 with
  | none => exact h
  | some n =>
   dsimp only
   split
   ·exact h
   ·split
    ·exact h
    ·exact putParts_rng ps (fun y hy => hp y (List.mem_cons_of_mem _ hy)) (flat_rng h _ (hp x (by simp)))
theorem WA.spawn_ok {a : WA} (h : a.Ok) (ps : List Part) (hps : ∀ x ∈ ps, FP.R64 x.2) : (a.spawn ps).1.Ok := by
 unfold WA.spawn
 split
 ·exact h
 ·split
  ·exact h
  ·rename_i ht
   obtain ⟨t1, t2, t3⟩ := (take_liv h.pok).2 (by simpa using ht)
   refine ⟨(FI.takeM_ok h.pok2).1, (FI.takeM_ok h.pok2).2.trans h.most, h.may, fun x => ?_, fun x p hx => ?_⟩
   ·show (upd1 a.row a.pool.takeM.2.1 _ x).isSome = _
    rw [t3 x]
    unfold upd1
    split
    ·rfl
    ·exact h.liv x
   ·have hx : upd1 a.row a.pool.takeM.2.1 _ x = some p := hx
    unfold upd1 at hx
    split at hx
    ·obtain rfl := Option.some.inj hx
     exact putParts_rng ps hps (by unfold WA.emp; rw [flat_new]; intro x hx; cases hx)
    ·exact h.rng x p hx
theorem spawn_few {a : WA} (h : a.Ok) (ht : a.pool.takeM.2.2 = 0) : a.row a.pool.takeM.2.1 = none ∧ ∀ L : List Ent, L.Nodup → (∀ x ∈ L, (a.row x).isSome = true) → L.length < 200 := by
 obtain ⟨t1, t2, t3⟩ := (take_liv h.pok).2 ht
 have hne : a.row a.pool.takeM.2.1 = none := by
  have := h.liv a.pool.takeM.2.1
  rw [t2] at this
  cases hr : a.row a.pool.takeM.2.1 with
  | none => rfl
  | some p => rw [hr] at this; cases this
 refine ⟨hne, fun L hnd hL => ?_⟩
 have := pool_few t1 (L := a.pool.takeM.2.1 :: L) (by
  rw [List.nodup_cons]
  exact ⟨fun hm => (by have := hL _ hm; rw [hne] at this; cases this), hnd⟩) (fun x hx => by
  rw [t3 x]
  split
  ·rfl
  ·rcases List.mem_cons.1 hx with rfl | hx
   ·rename_i h; exact absurd rfl h
   ·rw [← h.liv x]; exact hL x hx)
 simp only [List.length_cons] at this
 omega
section
variable {S : List Nat} {w0 w : World} {its : List Thing}
theorem all_swap {b : Nat} {m : WM} {q : WH} {u v : Thing} {more : List Thing} (h : Hp S w0 w (q.all b m u ++ (v :: more))) : Hp S w0 w (q.all b m v ++ (u :: more)) := by
 have h : Hp S w0 w ([q.blk b] ++ (u :: q.rest m) ++ [v] ++ more) := by simpa [WH.all, WH.rest] using h
 have h := h.mid
 have h : Hp S w0 w ([q.blk b, v] ++ [u] ++ q.rest m ++ more) := by simpa using h
 have h := h.mid
 simpa [WH.all, WH.rest] using h
theorem shut_parts {b : Nat} {a : WA} {m : WM} {q : WH} {u : Thing} {B : List Thing} {s : Sl} {xs : List PV} (hok : a.Ok) (ht : Tabs a.ks a.row a.m.sets q.tabs) (hk : kinds q.xs = a.ks) (hp : m.pool = a.pool) (hs : m.sets = a.m.sets)
  (h : Hp S w0 w (q.all b m u ++ B ++ [tSl s 62 2 pdv xs, tAll (xs.map tV)])) : Hp S w0 w [tW b a, tParts s (xs.map pvis)] := by
 have h := W_shut (rest := [_, _]) hok ht hk hp hs h.cutMid
 have h := h.nest_close (i := 1) (j := 2) (e := 62) (n := 2) (cells := pdv) (sub := tV) (vis := pvis) (s := s) (xs := xs) (l := xs.map pvis) (by decide) rfl rfl rfl
 have h : Hp S w0 w ([tW b a, tParts s (xs.map pvis)] ++ [tEmp]) := h
 exact h.front
set_option maxHeartbeats 4000000 in
theorem Spawn_W (h : Hp S w0 w its) (i j : Nat) (hij : i ≠ j) {b : Nat} {a : WA} {s : Sl} {ps : List Part} (hi : its[i]? = some (tW b a)) (hj : its[j]? = some (tParts s ps)) (hps : ∀ x ∈ ps, -9223372036854775808 ≤ x.1 ∧ x.1 ≤ 9223372036854775807) (hpr : ∀ x ∈ ps, FP.R64 x.2) (hpl : ps.length ≤ 1000000) {K : Int → Int → Int → World → Prop}
  (hK : ∀ w', Hp S w0 w' (its.set i (tW b (a.spawn ps).1)) → K (a.spawn ps).2.1.1 (a.spawn ps).2.1.2 (a.spawn ps).2.2 w') : c49 (some ⟨b, 0, none⟩) s w K := by
 refine c49_of ?_
 unfold f49
 obtain ⟨O, h1, back⟩ := h.f2 hij hi hj rfl rfl
 clear h
 obtain ⟨q, hok, ht, hk, h⟩ := W_open h1
 obtain ⟨xs, hxs, h⟩ := h.nest_open (i := 8) rfl
 have hok' := WA.spawn_ok hok ps hpr
 have h : Hp O w w (q.all b a.m tEmp ++ [tSl s 62 2 pdv xs, tAll (xs.map tV)]) := h
 have hkl : (kinds q.xs).length = q.xs.length := by simp [kinds]
 have hal := hok.len
 have h12 : q.xs.length ≤ 12 := by rw [hk] at hkl; omega
 have h4k := hok.four
 have h4 : ∀ x ∈ q.xs, x.2.2.length ≤ 4 := fun x hx => h4k (x.1, x.2.2) (by rw [← hk]; exact List.mem_map.2 ⟨x, hx, rfl⟩)
 have hxl : xs.length = ps.length := by rw [← hxs, List.length_map]
 have fin : ∀ {w' : World} {a' : WA}, Hp O w w' [tW b a', tParts s (xs.map pvis)] → Hp S w0 w' (its.set i (tW b a')) := fun {w' a'} h => by
  rw [hxs] at h
  have := back (rest := []) rfl rfl rfl h
  rw [List.append_nil] at this
  have e : (its.set i (tW b a')).set j (tParts s ps) = its.set i (tW b a') := Hp.set_same (by rw [List.getElem?_set_ne hij]; exact hj)
  rwa [e] at this
 have hsl := h.len (s := s) 8 rfl
 refine h.nw (c := [_, _]) fun ab w1 h => ?_
 have h := h.up
 have h := (h.nil 2 1 iv).up
 refine ⟨fun sset values t16 mm w' => ∃ (k : Nat) (p : PL), sset = setI p ∧ t16 = k ∧ k ≤ xs.length ∧ mm = xs.length - k ∧ p.fit a.ks ∧ putParts a.ks (ps.drop k) p = putParts a.ks ps a.emp ∧ Hp O w w' (q.all b a.m tEmp ++ [tSl values 2 1 iv (flat p), tBlk ab 33 [.int .i64 0, .int .i64 0]] ++ [tSl s 62 2 pdv xs, tAll (xs.map tV)]), ⟨xs.length, 0, a.emp, by unfold WA.emp; rw [setI_new], rfl, by omega, rfl, fit_new _, rfl, by unfold WA.emp; rw [flat_new]; exact h⟩, ?_⟩
 clear h
 rintro sset values t16 mm w2 ⟨k, p, rfl, rfl, hkk, rfl, hfit, hput, h⟩
 have hs1 := setI_lt (show p.length ≤ 12 by rw [hfit.1]; omega)
 have hs0 := setI_nn p
 by_cases hlt : k < xs.length
 ·refine ifT (by simp; omega) ?_
  have hx : xs[k]? = some xs[k] := by simp [hlt]
  have hpx : ps[k]? = some (pvis xs[k]) := by rw [← hxs, List.getElem?_map, hx]; rfl
  generalize xs[k] = x at hx hpx
  obtain ⟨kd, sv, v⟩ := x
  have hpx : ps[k]? = some (kd, v) := hpx
  have hkd := hps _ (List.mem_of_getElem? hpx)
  dsimp only at hkd
  have hdr : ps.drop k = (kd, v) :: ps.drop (k + 1) := by
   have hl := (List.getElem?_eq_some_iff.1 hpx).1
   have he := (List.getElem?_eq_some_iff.1 hpx).2
   rw [← he]; exact List.drop_eq_getElem_cons hl
  rw [hdr] at hput
  refine h.ixr (s := s) (l := xs) (f := pdv) (n := 2) (e := 62) 10 rfl (by omega) (by rw [Int.toNat_natCast]; exact hx) pdv_len fun ad hc => ?_
  refine ldR0 (k := .i .i64) (x := kd) (hc 0 (by omega)) rfl ?_
  refine ldR (k := .sl) (x := sv) (hc 1 (by omega)) rfl ?_
  refine h.nw (c := [_, _]) fun pb w3 h => ?_
  have h : Hp O w w3 (q.all b a.m tEmp ++ [tSl values 2 1 iv (flat p), tBlk ab 33 [.int .i64 0, .int .i64 0], tSl s 62 2 pdv xs, tAll (xs.map tV)] ++ [tBlk pb 62 [.int .i64 0, .slice none 0 0]]) := h
  have h := h.up
  refine h.st0 8 rfl (by simp) rfl fun w4 h => ?_
  refine h.st (n := 1) 8 rfl (by simp) rfl fun w5 h => ?_
  have h : Hp O w w5 (q.all b a.m tEmp ++ [tBlk pb 62 [.int .i64 kd, .slice sv.a sv.len sv.cap], tSl values 2 1 iv (flat p), tBlk ab 33 [.int .i64 0, .int .i64 0]] ++ [tSl s 62 2 pdv xs, tAll (xs.map tV)]) := h
  -- a refusal
  have bad : ∀ {w6 : World} {err : Int}, err ≠ 0 → (putParts a.ks ps a.emp).2 = err → Hp O w w6 (q.all b a.m tEmp ++ [tBlk pb 62 [.int .i64 kd, .slice sv.a sv.len sv.cap], tSl values 2 1 iv (flat p), tBlk ab 33 [.int .i64 0, .int .i64 0]] ++ [tSl s 62 2 pdv xs, tAll (xs.map tV)]) →
    (St ⟨ab, 0, none⟩ (.int .i64 0) w6 fun (w : World) => St ((⟨ab, 0, none⟩ : Addr).add 1) (.int .i64 0) w fun (w : World) => Ld (.i .i64) w ⟨ab, 0, none⟩ fun (r_Index : Int) => Ld (.i .i64) w ((⟨ab, 0, none⟩ : Addr).add 1) fun (r_Gen : Int) => K r_Index r_Gen err w) := by
   intro w6 err hne hpe h
   refine h.st0 10 rfl (by simp) rfl fun w7 h => ?_
   refine h.st (n := 1) 10 rfl (by simp) rfl fun w8 h => ?_
   refine h.ld0 (k := .i .i64) (x := (0 : Int)) 10 rfl rfl ?_
   refine h.ld (n := 1) (k := .i .i64) (x := (0 : Int)) 10 rfl rfl ?_
   have hsp : a.spawn ps = (a, (0, 0), err) := by unfold WA.spawn; rw [if_pos (by rw [hpe]; exact hne), hpe]
   rw [hsp] at hK
   have h : Hp O w w8 (q.all b a.m tEmp ++ [tBlk pb 62 [.int .i64 kd, .slice sv.a sv.len sv.cap], tSl values 2 1 iv (flat p), tBlk ab 33 [.int .i64 0, .int .i64 0]] ++ [tSl s 62 2 pdv xs, tAll (xs.map tV)]) := h
   exact hK w8 (fin (shut_parts hok ht hk rfl rfl h))
  refine h.ld0 (k := .i .i64) (x := kd) 8 rfl rfl ?_
  refine fields_spec h 0 2 3 (cells := [_, _, _]) rfl rfl rfl (by omega) hkd.1 hkd.2 ?_
  rw [hk]
  cases hf : fl a.ks kd with
  | none =>
   dsimp only
   refine ifT rfl (bad (by decide) ?_ h)
   rw [← hput]; unfold putParts; dsimp only; rw [hf]
  | some n =>
   dsimp only
   refine ifF (by simp) ?_
   refine h.ld0 (k := .i .i64) (x := kd) 8 rfl rfl ?_
   obtain ⟨r, kk, rfl, hkr, hkn⟩ := fl_at hf
   have hrl : r < p.length := by rw [hfit.1]; exact (List.getElem?_eq_some_iff.1 hkr).1
   have hp12 : p.length ≤ 12 := by rw [hfit.1]; omega
   have er : ((((r + 1 : Nat) : Int)) - 1).toNat = r := by omega
   have hbit := (bit_eq (set := setI p) (k := r + 1) hs0 (by omega) (by omega)).trans (bit_setI p r)
   refine ⟨by omega, ?_⟩
   by_cases hh : (p.getD r none).isSome = true
   ·refine ifT (by rw [hbit, hh]; rfl) (bad (by decide) ?_ h)
    rw [← hput]; unfold putParts; dsimp only; rw [hf]; dsimp only; rw [er, if_pos hh]
   ·refine ifF (by rw [hbit, if_neg hh]; decide) ?_
    refine h.ld (n := 1) (k := .sl) (x := sv) 8 rfl rfl ?_
    have hvl : v.length = sv.len := by
     have := h.see (i := 12) rfl
     obtain ⟨O', hO'⟩ := this
     obtain ⟨O1, O2, g1, _⟩ := tAll_pick (k := k) (t := tV (((r + 1 : Nat) : Int), sv, v)) (by rw [List.getElem?_map, hx]; rfl) hO'
     exact g1.1
    by_cases hn : v.length = n
    ·refine ifF (by simp; omega) ?_
     refine h.dr fun w6 h => ?_
     refine h.ld0 (k := .i .i64) (x := ((r + 1 : Nat) : Int)) 8 rfl rfl ?_
     refine h.ld (n := 1) (k := .sl) (x := sv) 8 rfl rfl ?_
     refine at_spec h 0 2 3 (cells := [_, _, _]) rfl rfl rfl h12 h4 hs0 (by omega) (q := r) (by rw [hfit.1, ← hk, hkl] at hrl; omega) ?_
     refine ⟨h.cel (n := 1) 8 rfl rfl, ?_⟩
     rw [hk]
     have hno : p.getD r none = none := by simpa using hh
     have hat := hfit.at (q := r) (by omega)
     have hat4 := atF_le h4k (setI p) r
     have hall := hfit.all
     have hall4 := atF_le h4k (setI p) a.ks.length
     have hv4 := h4k _ (List.mem_of_getElem? hkr)
     have hle : atF a.ks (setI p) r ≤ (flat p).length := by
      have hpr : p[r]? = some none := by
       have : p[r]? = some p[r] := by simp [hrl]
       rw [this]; rw [List.getD_eq_getElem?_getD, this] at hno; simpa using hno
      rw [hat, flat_split hpr]; simp
     have h := h.pick (i := 12) (k := k) (t := tV (((r + 1 : Nat) : Int), sv, v)) rfl (by rw [List.getElem?_map, hx]; rfl) rfl
     refine Insert_spec h 9 13 (by decide) (s := values) (v := sv) (l := flat p) (xs := v) rfl rfl hle (by omega) fun s' w7 h => ?_
     rw [← hfit.ins hrl hno v] at h
     have hkx : k < (xs.map tV).length := by simpa using hlt
     have h := h.unpick (i := 12) (j := 13) (k := k) (ts := (xs.map tV).set k tEmp) (t := tV (((r + 1 : Nat) : Int), sv, v)) (by decide) rfl rfl (by rw [List.getElem?_set_self hkx]) rfl
     rw [List.set_set] at h
     have eb : (xs.map tV).set k (tV (((r + 1 : Nat) : Int), sv, v)) = xs.map tV := Hp.set_same (by rw [List.getElem?_map, hx]; rfl)
     rw [eb] at h
     have h : Hp O w w7 (q.all b a.m tEmp ++ [tBlk pb 62 [.int .i64 ((r + 1 : Nat) : Int), .slice sv.a sv.len sv.cap], tSl s' 2 1 iv (flat (p.set r (some v))), tBlk ab 33 [.int .i64 0, .int .i64 0], tSl s 62 2 pdv xs, tAll (xs.map tV)] ++ [tEmp]) := h
     have h := h.front
     refine h.ld0 (k := .i .i64) (x := ((r + 1 : Nat) : Int)) 8 rfl rfl ?_
     refine ⟨by omega, xs.length - (k + 1), by omega, k + 1, p.set r (some v), setI_put hp12 hrl v, by rw [wr64 (by omega) (by omega)]; omega, by omega, rfl, hfit.set hkr (by rw [hkn]; exact hn), ?_, ?_⟩
     ·rw [← hput]
      conv => rhs; unfold putParts
      dsimp only
      rw [hf]
      dsimp only
      rw [er, if_neg hh, if_neg (by simpa using hn)]
     ·have h : Hp O w w7 (q.all b a.m tEmp ++ [tBlk pb 62 [.int .i64 ((r + 1 : Nat) : Int), .slice sv.a sv.len sv.cap]] ++ [tSl s' 2 1 iv (flat (p.set r (some v))), tBlk ab 33 [.int .i64 0, .int .i64 0], tSl s 62 2 pdv xs, tAll (xs.map tV)]) := h
      exact h.cutMid
    ·refine ifT (by simp; omega) (bad (by decide) ?_ h)
     rw [← hput]; unfold putParts; dsimp only; rw [hf]; dsimp only; rw [er, if_neg hh, if_pos hn]
 ·refine ifF (by simp; omega) ?_
  have hput : (p, (0 : Int)) = putParts a.ks ps a.emp := by
   rw [List.drop_of_length_le (by omega)] at hput
   exact hput
  refine nns ?_
  refine h.ld (n := 1) (k := .p) (x := some ⟨q.pb, 0, none⟩) 0 rfl rfl ?_
  refine FI.Take_h h 4 (m := a.pool) hok.pok rfl fun w3 h => ?_
  have h : Hp O w w3 (q.all b { a.m with pool := a.pool.takeM.1 } tEmp ++ [tSl values 2 1 iv (flat p), tBlk ab 33 [.int .i64 0, .int .i64 0], tSl s 62 2 pdv xs, tAll (xs.map tV)]) := h
  have hsp0 : (putParts a.ks ps a.emp).2 = 0 := by rw [← hput]
  have hsp1 : (putParts a.ks ps a.emp).1 = p := by rw [← hput]
  refine h.nw (c := [_, _]) fun eb w4 h => ?_
  have h := h.up
  refine h.st0 8 rfl (by simp) rfl fun w5 h => ?_
  refine h.st (n := 1) 8 rfl (by simp) rfl fun w6 h => ?_
  have hsp : a.spawn ps = if a.pool.takeM.2.2 ≠ 0 then (a, (0, 0), a.pool.takeM.2.2) else (⟨a.ks, a.pool.takeM.1, upd1 a.row a.pool.takeM.2.1 (some p)⟩, a.pool.takeM.2.1, 0) := by
   unfold WA.spawn; rw [if_neg (by rw [hsp0]; simp), hsp1]
  by_cases hb : a.pool.takeM.2.2 = 0
  ·rw [if_neg (by simpa using hb)] at hsp
   rw [hsp] at hK hok'
   dsimp only at hK hok'
   obtain ⟨hrn, hfew⟩ := spawn_few hok hb
   generalize a.pool.takeM.2.1 = e at hK hrn hok' h ⊢
   generalize a.pool.takeM.1 = pool' at hK hok' h ⊢
   refine ifF (by rw [hb]; simp) ?_
   have h : Hp O w w6 (q.all b { a.m with pool := pool' } tEmp ++ [tBlk eb 33 [.int .i64 e.1, .int .i64 e.2]] ++ [tSl values 2 1 iv (flat p)] ++ [tBlk ab 33 [.int .i64 0, .int .i64 0], tSl s 62 2 pdv xs, tAll (xs.map tV)]) := h
   have h := h.mid
   refine h.ld0 (k := .i .i64) (x := e.1) 9 rfl rfl ?_
   refine h.ld (n := 1) (k := .i .i64) (x := e.2) 9 rfl rfl ?_
   have h : Hp O w w6 (q.all b { a.m with pool := pool' } tEmp ++ (tSl values 2 1 iv (flat p) :: [tBlk eb 33 [.int .i64 e.1, .int .i64 e.2], tBlk ab 33 [.int .i64 0, .int .i64 0], tSl s 62 2 pdv xs, tAll (xs.map tV)])) := h
   have h := all_swap h
   refine enter_W h (row := a.row) (e := e) (p := p) (by rw [hk]; exact ht) (by rw [hk]; exact hok.may) hrn (by rw [hk]; exact hfit) hfew Hp.rdSl fun T' w7 ht' h => ?_
   refine h.ld0 (k := .i .i64) (x := e.1) 9 rfl rfl ?_
   refine h.ld (n := 1) (k := .i .i64) (x := e.2) 9 rfl rfl ?_
   refine h.st0 10 rfl (by simp) rfl fun w8 h => ?_
   refine h.st (n := 1) 10 rfl (by simp) rfl fun w9 h => ?_
   refine h.ld0 (k := .i .i64) (x := e.1) 10 rfl rfl ?_
   refine h.ld (n := 1) (k := .i .i64) (x := e.2) 10 rfl rfl ?_
   refine hK w9 (fin ?_)
   refine shut_parts (B := [tEmp, tBlk eb 33 [.int .i64 e.1, .int .i64 e.2], tBlk ab 33 [.int .i64 e.1, .int .i64 e.2]]) (m := { a.m with pool := pool', sets := upd1 a.m.sets e (some (setI p)) }) (q := { q with T := T' }) (u := tSl values 2 1 iv (flat p)) hok' ?_ hk rfl ?_ h
   ·show Tabs a.ks (upd1 a.row e (some p)) (fun x => (upd1 a.row e (some p) x).map setI) _
    rw [upd_sets, ← hk]
    exact ht'
   ·exact (upd_sets a.row e (some p)).symm
  ·rw [if_pos hb] at hsp
   have htk := (take_liv hok.pok).1 hb
   rw [hsp] at hK
   rw [htk] at hK h ⊢
   refine ifT (by simp) ?_
   refine h.st0 10 rfl (by simp) rfl fun w8 h => ?_
   refine h.st (n := 1) 10 rfl (by simp) rfl fun w9 h => ?_
   refine h.ld0 (k := .i .i64) (x := (0 : Int)) 10 rfl rfl ?_
   refine h.ld (n := 1) (k := .i .i64) (x := (0 : Int)) 10 rfl rfl ?_
   have h : Hp O w w9 (q.all b a.m tEmp ++ [tBlk eb 33 [.int .i64 0, .int .i64 0], tSl values 2 1 iv (flat p), tBlk ab 33 [.int .i64 0, .int .i64 0]] ++ [tSl s 62 2 pdv xs, tAll (xs.map tV)]) := h
   exact hK w9 (fin (shut_parts hok ht hk rfl rfl h))
end
def WA.put (a : WA) (e : Ent) (p : PL) : WA := ⟨a.ks, a.pool, upd1 a.row e (some p)⟩
def WA.ask (a : WA) (e : Ent) (kind : Int) : (PL × Nat × Nat) × Int := match a.row e with
 | none => (([], 0, 0), 41)
 | some p => match fl a.ks kind with
  | none => (([], 0, 0), 60)
  | some n => ((p, (kind - 1).toNat, n), 0)
def WA.add (a : WA) (e : Ent) (x : Part) : WA × Int :=
 if (a.ask e x.1).2 ≠ 0 then (a, (a.ask e x.1).2) else
 if ((a.ask e x.1).1.1.getD (a.ask e x.1).1.2.1 none).isSome = true then (a, 61) else
 if x.2.length ≠ (a.ask e x.1).1.2.2 then (a, 63) else (a.put e ((a.ask e x.1).1.1.set (a.ask e x.1).1.2.1 (some x.2)), 0)
theorem ask_none {a : WA} {e : Ent} {kind : Int} (h : a.row e = none) : a.ask e kind = (([], 0, 0), 41) := by unfold WA.ask; rw [h]
theorem ask_kind {a : WA} {e : Ent} {kind : Int} {p : PL} (h : a.row e = some p) (hf : fl a.ks kind = none) : a.ask e kind = (([], 0, 0), 60) := by
 unfold WA.ask; rw [h]; dsimp only; rw [hf]
theorem ask_some {a : WA} {e : Ent} {p : PL} {i : Nat} {k : ByteArray × List ByteArray} (h : a.row e = some p) (hk : a.ks[i]? = some k) : a.ask e ((i + 1 : Nat) : Int) = ((p, i, k.2.length), 0) := by
 have hfl : fl a.ks ((i + 1 : Nat) : Int) = some k.2.length := by
  unfold fl
  rw [if_pos (by omega), show (((i + 1 : Nat) : Int) - 1).toNat = i by omega, hk]; rfl
 unfold WA.ask; rw [h]; dsimp only; rw [hfl, show (((i + 1 : Nat) : Int) - 1).toNat = i by omega]
theorem WA.put_ok {a : WA} (h : a.Ok) {e : Ent} (he : (a.row e).isSome = true) {p : PL} (hp : FP.R64 (flat p)) : (a.put e p).Ok := by
 refine ⟨h.pok2, h.most, h.may, fun x => ?_, fun x p' hx => ?_⟩
 ·show (upd1 a.row e (some p) x).isSome = a.pool.is x.1 x.2
  rw [← h.liv x]
  unfold upd1
  split
  ·rename_i hx; rw [hx, he]; rfl
  ·rfl
 ·have hx : upd1 a.row e (some p) x = some p' := hx
  unfold upd1 at hx
  split at hx
  ·obtain rfl := Option.some.inj hx; exact hp
  ·exact h.rng x p' hx
theorem upd_upd (row : Ent → Option PL) (e : Ent) (o o' : Option PL) : upd1 (upd1 row e o) e o' = upd1 row e o' := by
 funext x
 unfold upd1
 split <;> rfl
theorem upd_updI (sets : Ent → Option Int) (e : Ent) (o o' : Option Int) : upd1 (upd1 sets e o) e o' = upd1 sets e o' := by
 funext x
 unfold upd1
 split <;> rfl
theorem gone_few {a : WA} (h : a.Ok) {e : Ent} (he : (a.row e).isSome = true) : ∀ L : List Ent, L.Nodup → (∀ x ∈ L, (upd1 a.row e none x).isSome = true) → L.length < 200 := by
 intro L hnd hL
 have hin : ∀ x ∈ L, x ≠ e ∧ (a.row x).isSome = true := fun x hx => by
  have := hL x hx
  unfold upd1 at this
  split at this
  ·cases this
  ·rename_i hne; exact ⟨hne, this⟩
 have := pool_few h.pok (L := e :: L) (by
  rw [List.nodup_cons]
  exact ⟨fun hm => (hin e hm).1 rfl, hnd⟩) (fun x hx => by
  rw [← h.liv x]
  rcases List.mem_cons.1 hx with rfl | hx
  ·exact he
  ·exact (hin x hx).2)
 simp only [List.length_cons] at this
 omega
section
variable {S : List Nat} {w0 w : World} {its : List Thing}
set_option maxHeartbeats 4000000 in
theorem Add_W (h : Hp S w0 w its) (i j : Nat) (hij : i ≠ j) {b : Nat} {a : WA} {e : Ent} {kind : Int} {sv : Sl} {v : List Int} (hi : its[i]? = some (tW b a)) (hj : its[j]? = some (tSl sv 2 1 iv v)) (k1 : -9223372036854775808 ≤ kind) (k2 : kind ≤ 9223372036854775807) (hvr : FP.R64 v) {K : Int → World → Prop}
  (hK : ∀ w', Hp S w0 w' (its.set i (tW b (a.add e (kind, v)).1)) → K (a.add e (kind, v)).2 w') : c51 (some ⟨b, 0, none⟩) e.1 e.2 kind sv w K := by
 refine c51_of ?_
 unfold f51
 obtain ⟨O, h1, back⟩ := h.f2 hij hi hj rfl rfl
 clear h
 obtain ⟨q, hok, ht, hk, h⟩ := W_open h1
 have hkl : (kinds q.xs).length = q.xs.length := by simp [kinds]
 have hal := hok.len
 have h12 : q.xs.length ≤ 12 := by rw [hk] at hkl; omega
 have h4k := hok.four
 have h4 : ∀ x ∈ q.xs, x.2.2.length ≤ 4 := fun x hx => h4k (x.1, x.2.2) (by rw [← hk]; exact List.mem_map.2 ⟨x, hx, rfl⟩)
 have fin : ∀ {w' : World} {a' : WA}, Hp O w w' [tW b a', tSl sv 2 1 iv v] → Hp S w0 w' (its.set i (tW b a')) := fun {w' a'} h => by
  have := back (rest := []) rfl rfl rfl h
  rw [List.append_nil] at this
  have e : (its.set i (tW b a')).set j (tSl sv 2 1 iv v) = its.set i (tW b a') := Hp.set_same (by rw [List.getElem?_set_ne hij]; exact hj)
  rwa [e] at this
 have hvl := h.len (s := sv) 8 rfl
 refine h.nw (c := [_, _]) fun eb w1 h => ?_
 have h := h.up
 refine h.nw (c := [_, _]) fun pb w2 h => ?_
 have h := h.up
 refine h.ld0 (k := .i .i64) (x := e.1) 9 rfl rfl ?_
 refine h.ld (n := 1) (k := .i .i64) (x := e.2) 9 rfl rfl ?_
 refine h.ld0 (k := .i .i64) (x := kind) 8 rfl rfl ?_
 have same : ∀ {w3 : World}, Hp O w w3 (q.all b a.m tEmp ++ (tBlk pb 62 [.int .i64 kind, .slice sv.a sv.len sv.cap] :: tBlk eb 33 [.int .i64 e.1, .int .i64 e.2] :: [tSl sv 2 1 iv v])) → Hp S w0 w3 (its.set i (tW b a)) := fun {w3} h => by
  have h : Hp O w w3 (q.all b a.m tEmp ++ [tBlk pb 62 [.int .i64 kind, .slice sv.a sv.len sv.cap], tBlk eb 33 [.int .i64 e.1, .int .i64 e.2]] ++ [tSl sv 2 1 iv v]) := h
  exact fin (W_shut (rest := [_]) hok ht hk rfl rfl h.cutMid)
 refine asked_W h hok ht hk k1 k2 fun w3 h => ⟨fun hr => ?_, fun p hr hf => ?_, fun p r k hr hkind hkr => ?_⟩
 ·have hg : a.add e (kind, v) = (a, 41) := by unfold WA.add; rw [ask_none hr, if_pos (by decide)]
  rw [hg] at hK
  exact ifT rfl (hK w3 (same h))
 ·have hg : a.add e (kind, v) = (a, 60) := by unfold WA.add; rw [ask_kind hr hf, if_pos (by decide)]
  rw [hg] at hK
  exact ifT rfl (hK w3 (same h))
 ·subst hkind
  have hask := ask_some (a := a) (e := e) hr hkr
  refine ifF (by simp) ?_
  have hfit := ht.fit e p hr
  have hrl : r < p.length := by rw [hfit.1]; exact (List.getElem?_eq_some_iff.1 hkr).1
  have hp12 : p.length ≤ 12 := by rw [hfit.1]; omega
  have hs1 := setI_lt hp12
  have hs0 := setI_nn p
  by_cases hh : (p.getD r none).isSome = true
  ·have hg : a.add e (((r + 1 : Nat) : Int), v) = (a, 61) := by unfold WA.add; dsimp only; rw [hask, if_neg (by simp), if_pos hh]
   rw [hg] at hK
   exact ifT hh (hK w3 (same h))
  ·refine ifF hh ?_
   refine h.ld (n := 1) (k := .sl) (x := sv) 8 rfl rfl ?_
   by_cases hn : v.length = k.2.length
   ·refine ifF (by simp; omega) ?_
    have hg : a.add e (((r + 1 : Nat) : Int), v) = (a.put e (p.set r (some v)), 0) := by
     unfold WA.add; dsimp only; rw [hask, if_neg (by simp), if_neg hh, if_neg (by simpa using hn)]
    rw [hg] at hK
    have his : (a.row e).isSome = true := by rw [hr]; rfl
    have hok' := WA.put_ok hok his (flat_rng (hok.rng e p hr) r hvr)
    refine h.dr fun w4 h => ?_
    refine h.ld0 (k := .i .i64) (x := e.1) 9 rfl rfl ?_
    refine h.ld (n := 1) (k := .i .i64) (x := e.2) 9 rfl rfl ?_
    refine h.ld0 (k := .i .i64) (x := ((r + 1 : Nat) : Int)) 8 rfl rfl ?_
    refine h.ld (n := 1) (k := .sl) (x := sv) 8 rfl rfl ?_
    refine leave_W h (row := a.row) (p := p) (by rw [hk]; exact ht) hr fun s T' w5 ht' h => ?_
    have h := h.up
    refine ⟨h.cel (n := 1) 9 rfl rfl, h.cel0 9 rfl rfl, ?_⟩
    refine at_spec h 0 2 3 (cells := [_, _, _]) rfl rfl rfl h12 h4 hs0 (by omega) (q := r) (by show r ≤ q.xs.length; rw [hfit.1, ← hk, hkl] at hrl; omega) ?_
    refine ⟨h.cel (n := 1) 9 rfl rfl, ?_⟩
    show c68 _ ((atF (kinds q.xs) (setI p) r : Nat) : Int) _ _ _
    rw [hk]
    have hno : p.getD r none = none := by simpa using hh
    have hat := hfit.at (q := r) (by omega)
    have hall := hfit.all
    have hall4 := atF_le h4k (setI p) a.ks.length
    have hv4 := h4k _ (List.mem_of_getElem? hkr)
    have hle : atF a.ks (setI p) r ≤ (flat p).length := by
     have hpr : p[r]? = some none := by
      have : p[r]? = some p[r] := by simp [hrl]
      rw [this]; rw [List.getD_eq_getElem?_getD, this] at hno; simpa using hno
     rw [hat, flat_split hpr]; simp
    refine Insert_spec h 8 11 (by decide) (s := s) (v := sv) (l := flat p) (xs := v) rfl rfl hle (by omega) fun s' w6 h => ?_
    rw [← hfit.ins hrl hno v] at h
    refine h.dr fun w7 h => ?_
    refine h.ld0 (k := .i .i64) (x := e.1) 10 rfl rfl ?_
    refine h.ld (n := 1) (k := .i .i64) (x := e.2) 10 rfl rfl ?_
    refine h.ld0 (k := .i .i64) (x := ((r + 1 : Nat) : Int)) 9 rfl rfl ?_
    refine ⟨by omega, ?_⟩
    rw [setI_put hp12 hrl v]
    have h : Hp O w w7 (({ q with T := T' } : WH).all b { a.m with sets := upd1 a.m.sets e none } tEmp ++ (tSl s' 2 1 iv (flat (p.set r (some v))) :: [tBlk pb 62 [.int .i64 ((r + 1 : Nat) : Int), .slice sv.a sv.len sv.cap], tBlk eb 33 [.int .i64 e.1, .int .i64 e.2], tSl sv 2 1 iv v])) := h
    have h := all_swap h
    have hfit' : PL.fit a.ks (p.set r (some v)) := hfit.set hkr hn
    refine enter_W h (row := upd1 a.row e none) (e := e) (p := p.set r (some v)) ht' (by show mayOk (kinds q.xs); rw [hk]; exact hok.may) (by unfold upd1; rw [if_pos rfl]) (by show PL.fit (kinds q.xs) _; rw [hk]; exact hfit') (gone_few hok his) Hp.rdSl fun T2 w8 ht2 h => ?_
    have h : Hp O w w8 (({ q with T := T2 } : WH).all b { a.m with sets := upd1 (upd1 a.m.sets e none) e (some (setI (p.set r (some v)))) } (tSl s' 2 1 iv (flat (p.set r (some v)))) ++ [tEmp, tBlk pb 62 [.int .i64 ((r + 1 : Nat) : Int), .slice sv.a sv.len sv.cap], tBlk eb 33 [.int .i64 e.1, .int .i64 e.2]] ++ [tSl sv 2 1 iv v]) := h
    rw [upd_upd] at ht2
    refine hK w8 (fin (W_shut (rest := [_]) (m := { a.m with sets := upd1 (upd1 a.m.sets e none) e (some (setI (p.set r (some v)))) }) (q := { q with T := T2 }) hok' ?_ hk rfl ?_ h.cutMid))
    ·show Tabs a.ks (upd1 a.row e (some (p.set r (some v)))) (fun x => (upd1 a.row e (some (p.set r (some v))) x).map setI) _
     rw [upd_sets, ← hk]
     have : upd1 (upd1 a.m.sets e none) e (some (setI (p.set r (some v)))) = upd1 (fun x => (a.row x).map setI) e ((some (p.set r (some v))).map setI) := by rw [upd_updI]; rfl
     rw [← this]
     exact ht2
    ·show upd1 (upd1 a.m.sets e none) e _ = _
     rw [upd_updI]
     exact (upd_sets a.row e (some (p.set r (some v)))).symm
   ·have hg : a.add e (((r + 1 : Nat) : Int), v) = (a, 63) := by
     unfold WA.add; dsimp only; rw [hask, if_neg (by simp), if_neg hh, if_pos hn]
    rw [hg] at hK
    exact ifT (by simp; omega) (hK w3 (same h))
end
section
variable {S : List Nat} {w0 w : World} {its : List Thing}
theorem clear_raw {P : Program} {w : World} {b : Nat} {e : TypeId} {c : List Value} (hb : Blk w b e c) {off m cap : Nat} {t ty : TypeId} {inf : TypeInfo} {z : Value} {K : Value → World → Prop}
  (ht : P.underlying t = some (.slice e)) (hinf : P.info? e = some inf) (hz : inf.zero = some z) (hzc : z.cells = #[z]) (h1 : z.oneCell' = true) (hm : 0 < m) (hroom : off + m ≤ c.length)
  (hK : ∀ v w', Blk w' b e (c.take off ++ List.replicate m z ++ c.drop (off + m)) → Fr [b] w w' → K v w') :
  Run .v P (Builtin.clear_ #[t] ty #[.slice (some ⟨b, off, none⟩) m cap]) w K := by
 have hzl : (Builtin.zeroCells z.cells m).toList = List.replicate m z := by
  rw [hzc]
  simp [Builtin.zeroCells]
  apply List.ext_getElem
  ·simp
  ·intro i h1 h2
   simp [Nat.mod_one]
 have hst := run_storeCells_at P b off e (List.replicate m z) 0 c.toArray w hb (by simp only [List.size_toArray, List.length_replicate]; omega) (fun v hv => by rw [List.eq_of_mem_replicate hv]; exact h1)
 have hv : ∀ w, (zeroValue e).run P w = .ok z w := fun w => by simp [zeroValue, typeInfo, hinf, hz]
 refine ⟨.tuple #[], w.setRow b (c.take off ++ List.replicate m z ++ c.drop (off + (List.replicate m z).length)).toArray, ?_, hK _ _ ?_ ⟨rfl, rfl, rfl, by simp, fun q _ hq => setRow_other w b q _ (fun e => hq (by simp [e]))⟩⟩
 ·simp only [Nat.add_zero] at hst
  obtain ⟨m', rfl⟩ : ∃ m', m = m' + 1 := ⟨m - 1, by omega⟩
  simp [Builtin.clear_, run_underlying ht, hv, hzl, hst, Kd.inj]
 ·have := setRow_heap w b c.toArray (c.take off ++ List.replicate m z ++ c.drop (off + (List.replicate m z).length)).toArray e _ hb
  rw [List.length_replicate] at this
  rw [List.length_replicate]
  exact this
set_option maxHeartbeats 2000000 in
theorem Delete_spec (h : Hp S w0 w its) (idx : Nat) {s : Sl} {l : List Int} (hi : its[idx]? = some (tSl s 2 1 iv l)) {i j : Nat} (hij : i ≤ j) (hj : j ≤ l.length) (hl : l.length ≤ 1000000) {K : Sl → World → Prop}
  (hK : ∀ s' w', Hp S w0 w' (its.set idx (tSl s' 2 1 iv (l.take i ++ l.drop j))) → K s' w') : c75 s (i : Int) (j : Int) w K := by
 refine c75_of ?_
 unfold f75
 obtain ⟨inf, q1, q2, q3, q4⟩ := FT.inf2
 have hsl := h.len (s := s) idx (by rw [hi]; rfl)
 have hsc := h.cap (s := s) idx (by rw [hi]; rfl)
 refine ⟨by omega, by omega, by omega, by simp only []; omega, ?_⟩
 by_cases hz : i = j
 ·refine ifT (by simp [hz]) (hK s w ?_)
  subst hz
  rw [List.take_append_drop, Hp.set_same hi]; exact h
 refine ifF (by simp; omega) ?_
 obtain ⟨O, hO, back⟩ := h.step hi rfl
 obtain ⟨b, off, c, ha, ho, hbk, _, hoff, htk⟩ : ∃ b off c, s.a = some ⟨b, off, none⟩ ∧ O = [b] ∧ Blk w b 2 c ∧ s.len ≤ s.cap ∧ off + s.cap * 1 ≤ c.length ∧ (c.drop off).take (s.len * 1) = l.flatMap iv := by
  rcases hO.2 with ⟨_, h0, _⟩ | h
  ·omega
  ·exact h
 subst ho
 rw [Nat.mul_one] at hoff htk
 refine Go.Den.dr fun w1 hf1 _ hb1 => ?_
 have hbk1 := hb1 _ _ _ hbk
 have hS1 : SlF w1 s 2 1 iv l [b] := ⟨hsl, .inr ⟨b, off, c, ha, rfl, hbk1, hsc, by rw [Nat.mul_one]; exact hoff, by rw [Nat.mul_one]; exact htk⟩⟩
 have hS3 : SlF w1 ⟨some ⟨b, off, none⟩, i, s.cap⟩ 2 1 iv (l.take i) [b] := by
  refine ⟨by rw [List.length_take]; show min i l.length = i; omega, .inr ⟨b, off, c, rfl, rfl, hbk1, by show i ≤ s.cap; omega, by show off + s.cap * 1 ≤ _; omega, ?_⟩⟩
  show (c.drop off).take (i * 1) = _
  rw [Nat.mul_one, ← fm_take iv_len, ← htk, List.take_take, Nat.mul_one, Nat.min_eq_left (by omega)]
 refine Cut_mk ha (by omega) (by omega) (by omega) (Int.le_refl _) (by simp; omega) ?_
 have t0 : (0 : Int).toNat = 0 := rfl
 have t1 : ((i : Nat) : Int).toNat = i := Int.toNat_natCast _
 have t2 : ((s.cap : Nat) : Int).toNat = s.cap := Int.toNat_natCast _
 have t3 : ((j : Nat) : Int).toNat = j := Int.toNat_natCast _
 have t4 : ((s.len : Nat) : Int).toNat = s.len := Int.toNat_natCast _
 simp only [t0, t1, t2, Nat.add_zero, Nat.sub_zero]
 refine ⟨by omega, by omega, by omega, by simp only []; omega, ?_⟩
 simp only [t2, t3, t4, ha]
 have hcell : ∀ x : Addr, (s.len - j ≠ 0 → x = ⟨b, off + j, none⟩) → ∀ p u, ((l.drop j).flatMap iv)[p]? = some u → w1.cell? (x.add p) = some u := by
  intro x hx p u hp
  have hpl := (List.getElem?_eq_some_iff.1 hp).1
  rw [iv_fml, List.length_drop] at hpl
  rw [hx (by omega), Addr.add_none, hbk1.cell]
  have : c[off + j + p]? = (l.flatMap iv)[j + p]? := by
   rw [← htk, List.getElem?_take, if_pos (by omega), List.getElem?_drop]; congr 1; omega
  rw [this]
  have hjd : (l.drop j).flatMap iv = (l.flatMap iv).drop j := by
   have := fm_drop iv_len l j
   rw [Nat.mul_one] at this; exact this.symm
  rw [hjd, List.getElem?_drop] at hp
  exact hp
 have main : ∀ x : Addr, (s.len - j ≠ 0 → x = ⟨b, off + j, none⟩) → Run .sl Try.prog (Builtin.append_ #[34, 34] 34 #[.slice (some ⟨b, off, none⟩) i s.cap, .slice (some x) (s.len - j) (s.cap - j)]) w1 fun (s5 : Sl) (w : World) =>
   Cut ⟨s5.a, s5.len, s5.cap⟩ (s5.len : Int) (s.len : Int) (s5.cap : Int) 1 fun (s6 : Sl) =>
   Run .v Try.prog (Builtin.clear_ #[34] 0 #[.slice s6.a s6.len s6.cap]) w fun (n_ : Value) (w : World) => K s5 w := by
  intro x hx
  refine SlF.app_in (s := ⟨some ⟨b, off, none⟩, i, s.cap⟩) (m := s.len - j) (news := l.drop j) iv_len FT.und34 q1 q3 hS3 (by rw [List.length_drop]; omega) (hcell x hx) (fun u hu => by
   obtain ⟨y, _, hy⟩ := List.mem_flatMap.1 hu
   simp only [iv, List.mem_singleton] at hy
   subst hy; rfl) (by simp) (by simp only []; omega) fun w2 hS5 hf2 => ?_
  simp only []
  obtain ⟨c2, hbk2, hoff2, htk2⟩ : ∃ c2, Blk w2 b 2 c2 ∧ off + s.cap ≤ c2.length ∧ (c2.drop off).take (i + (s.len - j)) = (l.take i ++ l.drop j).flatMap iv := by
   rcases hS5.2 with ⟨h0, _⟩ | ⟨b', off', c', h0, ho, g1, g2, g3, g4⟩
   ·cases h0
   ·injection h0 with h0
    injection h0 with h0 h0'
    subst h0 h0'
    exact ⟨c', g1, by simpa using g3, by simpa using g4⟩
  refine Cut_mk (b := b) (off := off) rfl (by omega) (by omega) (by omega) (Int.le_refl _) (by simp only [Int.toNat_natCast]; omega) ?_
  have t5 : ((i + (s.len - j) : Nat) : Int).toNat = i + (s.len - j) := Int.toNat_natCast _
  simp only [t4, t5]
  refine clear_raw hbk2 FT.und34 q1 q2 rfl rfl (by omega) (by omega) fun v w3 hbk3 hf3 => ?_
  have hfw : Fr [b] w w3 := ((hf1.mono (S' := [b]) (by simp)).trans hf2 (fun k hk => .inl hk)).trans hf3 (fun k hk => .inl hk)
  refine hK _ w3 (back hfw (t' := tSl ⟨some ⟨b, off, none⟩, i + (s.len - j), s.cap⟩ 2 1 iv (l.take i ++ l.drop j)) (O' := [b]) ?_ (fun k hk => .inl hk) rfl)
  refine ⟨hS5.1, .inr ⟨b, off, _, rfl, rfl, hbk3, by show i + (s.len - j) ≤ s.cap; omega, ?_, ?_⟩⟩
  ·show off + s.cap * 1 ≤ _
   simp only [List.length_append, List.length_take, List.length_replicate, List.length_drop]
   omega
  ·show List.take ((i + (s.len - j)) * 1) _ = _
   rw [Nat.mul_one, ← htk2, List.append_assoc, List.drop_append_of_le_length (by simp; omega), List.take_append_of_le_length (by simp; omega), List.drop_take]
   rw [show off + (i + (s.len - j)) - off = i + (s.len - j) by omega, List.take_take, Nat.min_self]
 by_cases hcj : s.cap = j
 ·rw [if_pos hcj]
  exact main ⟨b, off, none⟩ (fun h0 => by omega)
 ·rw [if_neg hcj]
  simp only [Option.map_some, Nat.mul_one, Addr.add_none]
  exact main ⟨b, off + j, none⟩ (fun _ => rfl)
def WA.remove (a : WA) (e : Ent) (kind : Int) : WA × Int :=
 if (a.ask e kind).2 ≠ 0 then (a, (a.ask e kind).2) else
 if (a.ask e kind).1.1.getD (a.ask e kind).1.2.1 none = none then (a, 62) else (a.put e ((a.ask e kind).1.1.set (a.ask e kind).1.2.1 none), 0)
set_option maxHeartbeats 4000000 in
theorem Remove_W (h : Hp S w0 w its) (i : Nat) {b : Nat} {a : WA} {e : Ent} {kind : Int} (hi : its[i]? = some (tW b a)) (k1 : -9223372036854775808 ≤ kind) (k2 : kind ≤ 9223372036854775807) {K : Int → World → Prop}
  (hK : ∀ w', Hp S w0 w' (its.set i (tW b (a.remove e kind).1)) → K (a.remove e kind).2 w') : c52 (some ⟨b, 0, none⟩) e.1 e.2 kind w K := by
 refine c52_of ?_
 unfold f52
 obtain ⟨O, h1, back⟩ := h.f1 hi rfl
 clear h
 obtain ⟨q, hok, ht, hk, h⟩ := W_open h1
 have hkl : (kinds q.xs).length = q.xs.length := by simp [kinds]
 have hal := hok.len
 have h12 : q.xs.length ≤ 12 := by rw [hk] at hkl; omega
 have h4k := hok.four
 have h4 : ∀ x ∈ q.xs, x.2.2.length ≤ 4 := fun x hx => h4k (x.1, x.2.2) (by rw [← hk]; exact List.mem_map.2 ⟨x, hx, rfl⟩)
 have fin : ∀ {w' : World} {a' : WA}, Hp O w w' [tW b a'] → Hp S w0 w' (its.set i (tW b a')) := fun {w' a'} h => by
  have := back (rest := []) rfl rfl h
  rwa [List.append_nil] at this
 refine h.nw (c := [_, _]) fun eb w1 h => ?_
 have h := h.up
 refine h.ld0 (k := .i .i64) (x := e.1) 8 rfl rfl ?_
 refine h.ld (n := 1) (k := .i .i64) (x := e.2) 8 rfl rfl ?_
 have same : ∀ {w3 : World}, Hp O w w3 (q.all b a.m tEmp ++ [tBlk eb 33 [.int .i64 e.1, .int .i64 e.2]]) → Hp S w0 w3 (its.set i (tW b a)) := fun {w3} h =>
  fin (W_shut (rest := []) hok ht hk rfl rfl (by rw [List.append_nil]; exact h.front))
 refine asked_W h hok ht hk k1 k2 fun w3 h => ⟨fun hr => ?_, fun p hr hf => ?_, fun p r k hr hkind hkr => ?_⟩
 ·have hg : a.remove e kind = (a, 41) := by unfold WA.remove; rw [ask_none hr, if_pos (by decide)]
  rw [hg] at hK
  exact ifT rfl (hK w3 (same h))
 ·have hg : a.remove e kind = (a, 60) := by unfold WA.remove; rw [ask_kind hr hf, if_pos (by decide)]
  rw [hg] at hK
  exact ifT rfl (hK w3 (same h))
 ·subst hkind
  have hask := ask_some (a := a) (e := e) hr hkr
  refine ifF (by simp) ?_
  have hfit := ht.fit e p hr
  have hrl : r < p.length := by rw [hfit.1]; exact (List.getElem?_eq_some_iff.1 hkr).1
  have hp12 : p.length ≤ 12 := by rw [hfit.1]; omega
  have hs1 := setI_lt hp12
  have hs0 := setI_nn p
  cases hh : p.getD r none with
  | none =>
   have hg : a.remove e ((r + 1 : Nat) : Int) = (a, 62) := by unfold WA.remove; rw [hask, if_neg (by simp), if_pos hh]
   rw [hg] at hK
   exact ifT rfl (hK w3 (same h))
  | some v =>
   refine ifF (by simp) ?_
   have hpr := getD_some hh
   have hg : a.remove e ((r + 1 : Nat) : Int) = (a.put e (p.set r none), 0) := by
    unfold WA.remove; rw [hask, if_neg (by simp), if_neg (by rw [hh]; simp)]
   rw [hg] at hK
   have his : (a.row e).isSome = true := by rw [hr]; rfl
   have hok' := WA.put_ok hok his (flat_rngOff (hok.rng e p hr) r)
   refine at_spec h 0 2 3 (cells := [_, _, _]) rfl rfl rfl h12 h4 hs0 (by omega) (q := r) (by rw [hfit.1, ← hk, hkl] at hrl; omega) ?_
   rw [hk]
   refine h.ld0 (k := .i .i64) (x := e.1) 8 rfl rfl ?_
   refine h.ld (n := 1) (k := .i .i64) (x := e.2) 8 rfl rfl ?_
   refine leave_W h (row := a.row) (p := p) (by rw [hk]; exact ht) hr fun s T' w5 ht' h => ?_
   have h := h.up
   have hat := hfit.at (q := r) (by omega)
   have hall := hfit.all
   have hall4 := atF_le h4k (setI p) a.ks.length
   have hat4 := atF_le h4k (setI p) r
   have hvl := hfit.2 r v k hpr hkr
   have hv4 := h4k _ (List.mem_of_getElem? hkr)
   have hsum : atF a.ks (setI p) r + v.length ≤ (flat p).length := by rw [flat_split hpr, hat]; simp
   have hw : IntKind.i64.wrap (((atF a.ks (setI p) r : Nat) : Int) + (k.2.length : Int)) = ((atF a.ks (setI p) r + v.length : Nat) : Int) := by rw [wr64 (by omega) (by omega)]; omega
   rw [hw]
   refine Delete_spec h 8 (s := s) (l := flat p) rfl (Nat.le_add_right _ _) hsum (by omega) fun s' w6 h => ?_
   rw [← hfit.cut hpr] at h
   refine h.dr fun w7 h => ?_
   refine h.ld0 (k := .i .i64) (x := e.1) 9 rfl rfl ?_
   refine h.ld (n := 1) (k := .i .i64) (x := e.2) 9 rfl rfl ?_
   refine ⟨by omega, ?_⟩
   rw [setI_del hp12 hrl]
   have h : Hp O w w7 (({ q with T := T' } : WH).all b { a.m with sets := upd1 a.m.sets e none } tEmp ++ (tSl s' 2 1 iv (flat (p.set r none)) :: [tBlk eb 33 [.int .i64 e.1, .int .i64 e.2]])) := h
   have h := all_swap h
   have hfit' : PL.fit a.ks (p.set r none) := hfit.off r
   refine enter_W h (row := upd1 a.row e none) (e := e) (p := p.set r none) ht' (by show mayOk (kinds q.xs); rw [hk]; exact hok.may) (by unfold upd1; rw [if_pos rfl]) (by show PL.fit (kinds q.xs) _; rw [hk]; exact hfit') (gone_few hok his) Hp.rdSl fun T2 w8 ht2 h => ?_
   have h : Hp O w w8 (({ q with T := T2 } : WH).all b { a.m with sets := upd1 (upd1 a.m.sets e none) e (some (setI (p.set r none))) } (tSl s' 2 1 iv (flat (p.set r none))) ++ [tEmp, tBlk eb 33 [.int .i64 e.1, .int .i64 e.2]]) := h
   rw [upd_upd] at ht2
   refine hK w8 (fin (W_shut (rest := []) (m := { a.m with sets := upd1 (upd1 a.m.sets e none) e (some (setI (p.set r none))) }) (q := { q with T := T2 }) hok' ?_ hk rfl ?_ (by rw [List.append_nil]; exact h.front)))
   ·show Tabs a.ks (upd1 a.row e (some (p.set r none))) (fun x => (upd1 a.row e (some (p.set r none)) x).map setI) _
    rw [upd_sets, ← hk]
    have : upd1 (upd1 a.m.sets e none) e (some (setI (p.set r none))) = upd1 (fun x => (a.row x).map setI) e ((some (p.set r none)).map setI) := by rw [upd_updI]; rfl
    rw [← this]
    exact ht2
   ·show upd1 (upd1 a.m.sets e none) e _ = _
    rw [upd_updI]
    exact (upd_sets a.row e (some (p.set r none))).symm
end
def WA.set (a : WA) (e : Ent) (x : Part) : WA × Int :=
 if (a.ask e x.1).2 ≠ 0 then (a, (a.ask e x.1).2) else
 if (a.ask e x.1).1.1.getD (a.ask e x.1).1.2.1 none = none then (a, 62) else
 if x.2.length ≠ (a.ask e x.1).1.2.2 then (a, 63) else (a.put e ((a.ask e x.1).1.1.set (a.ask e x.1).1.2.1 (some x.2)), 0)
section
variable {S : List Nat} {w0 w : World} {its : List Thing}
end
open FP (putU zig encZ R64)
def kvis (x : KS) : ByteArray × List ByteArray := (x.1, x.2.2)
def tKinds (s : Sl) (l : KD) : Thing := tNest 87 2 kdv tF kvis s l
def WA.new (ks : KD) : WA := ⟨ks, ⟨200, [], [], []⟩, fun _ => none⟩
theorem WA.new_ok {ks : KD} (h : mayOk ks) : (WA.new ks).Ok := by
 refine ⟨FI.ok2_new (by decide) (by decide), rfl, h, fun e => ?_, fun e p hp => by cases hp⟩
 show false = PoolM.is ⟨200, [], [], []⟩ e.1 e.2
 unfold PoolM.is PoolM.lives
 simp
theorem words_of {L : List ByteArray} (h : (L.all fun x => decide (wordOk (strL x))) = true) (hn : L.Nodup) : wordsOk L := fun i hi => by
 refine ⟨of_decide_eq_true (List.all_eq_true.1 h _ (List.getElem_mem hi)), fun hm => ?_⟩
 obtain ⟨j, hj, he⟩ := List.mem_iff_getElem.1 hm
 rw [List.getElem_take] at he
 have := (List.getElem?_inj (i := j) (j := i) (by simp at hj; omega) hn).1 (by simp only [List.getElem?_eq_getElem (show j < L.length by simp at hj; omega), List.getElem?_eq_getElem hi, he])
 simp at hj; omega
section
variable {S : List Nat} {w0 w : World} {its : List Thing}
theorem New_W (h : Hp S w0 w its) (i : Nat) {s : Sl} {l : KD} (hi : its[i]? = some (tKinds s l)) (hl : l.length ≤ 1000000) (hsz : ∀ x ∈ l, x.1.size ≤ 1000000000000 ∧ ∀ y ∈ x.2, y.size ≤ 1000000000000) {K : Option Addr → Int → World → Prop}
  (hok : mayOk l → ∀ b w', Hp S w0 w' (its ++ [tW b (WA.new l)]) → K (some ⟨b, 0, none⟩) 0 w') (hno : ¬ mayOk l → ∀ w', Hp S w0 w' its → K none 65 w') : c11 s w K := by
 have hil := (List.getElem?_eq_some_iff.1 hi).1
 obtain ⟨xs, hxs, h⟩ := h.nest_open hi
 have hk : kinds xs = l := hxs
 have hxl : xs.length = l.length := by rw [← hxs, List.length_map]
 have e1 : (its.set i (tSl s 87 2 kdv xs) ++ [tAll (xs.map tF)])[i]? = some (tSl s 87 2 kdv xs) := by
  rw [List.getElem?_append_left (by simpa using hil), List.getElem?_set_self hil]
 have e2 : (its.set i (tSl s 87 2 kdv xs) ++ [tAll (xs.map tF)])[its.length]? = some (tAll (xs.map tF)) := by
  rw [List.getElem?_append_right (by simp)]; simp
 have back : ∀ {w' : World} {more : List Thing}, Hp S w0 w' (its.set i (tSl s 87 2 kdv xs) ++ [tAll (xs.map tF)] ++ more) → Hp S w0 w' (its ++ more) := fun {w' more} h => by
  have h := h.nest_close (i := i) (j := its.length) (e := 87) (n := 2) (cells := kdv) (sub := tF) (vis := kvis) (s := s) (xs := xs) (l := l) (by omega) (by rw [List.getElem?_append_left (by simp; omega)]; exact e1) (by rw [List.getElem?_append_left (by simp)]; exact e2) hxs
  have e3 : ((its.set i (tSl s 87 2 kdv xs) ++ [tAll (xs.map tF)] ++ more).set i (tNest 87 2 kdv tF kvis s l)).set its.length tEmp = its ++ [tEmp] ++ more := by
   rw [List.append_assoc, List.set_append_left _ _ (by simpa using hil), List.set_set, List.set_append_right _ _ (by simp), Hp.set_same' (x := tNest 87 2 kdv tF kvis s l) hi]
   simp
  rw [e3] at h
  exact h.cutMid
 refine New_spec h i its.length e1 e2 (by omega) (fun x hx => ?_) (fun hm b w' h => ?_) (fun hm w' h => ?_)
 ·have := hsz (x.1, x.2.2) (by rw [← hk]; exact List.mem_map.2 ⟨x, hx, rfl⟩)
  exact this
 ·rw [hk] at hm h
  refine hok hm b w' ?_
  have h := back h
  have h := h.putAnd (i := its.length) (p := (WA.new l).Ok ∧ Tabs l (fun _ => none) (WA.new l).m.sets []) ⟨WA.new_ok hm, Tabs.new l⟩ List.getElem?_concat_length rfl
  rw [set_last] at h
  have h := h.putEx (i := its.length) (f := fun T : List (Int × TabM) => tAnd ((WA.new l).Ok ∧ Tabs (WA.new l).ks (WA.new l).row (WA.new l).m.sets T) (tWorld b ⟨(WA.new l).ks, (WA.new l).pool, (WA.new l).m.sets, T⟩)) [] List.getElem?_concat_length rfl
  rw [set_last] at h
  exact h
 ·rw [hk] at hm
  refine hno hm w' ?_
  have h : Hp S w0 w' (its.set i (tSl s 87 2 kdv xs) ++ [tAll (xs.map tF)] ++ []) := by rw [List.append_nil]; exact h
  have := back h
  rwa [List.append_nil] at this
end
def WA.who (a : WA) (s : Int) : List Ent := a.all.filter fun e => decide ((a.row e).map setI = some s)
section
variable {S : List Nat} {w0 w : World} {its : List Thing}
end
def RdP (w : World) (s : Sl) (l : List Part) : Prop := ∃ xs : List PV, xs.map pvis = l ∧ (∃ o, SlR w s 2 pdv xs o) ∧ ∀ x ∈ xs, ∃ o, SlR w x.2.1 1 iv x.2.2 o
theorem SlR.keep {α : Type} {f : α → List Value} {n : Nat} {w w' : World} {s : Sl} {l : List α} (h : ∃ o, SlR w s n f l o) (hf : Fr [] w w') : ∃ o, SlR w' s n f l o := by
 obtain ⟨o, h⟩ := h
 exact ⟨o, h.fr hf (by simp)⟩
theorem RdP.keep {w w' : World} {s : Sl} {l : List Part} (h : RdP w s l) (hf : Fr [] w w') : RdP w' s l := by
 obtain ⟨xs, h1, h2, h3⟩ := h
 exact ⟨xs, h1, SlR.keep h2 hf, fun x hx => SlR.keep (h3 x hx) hf⟩
theorem tAll_see {ts : List Thing} {t : Thing} {w : World} {O : List Nat} (h : (tAll ts).holds w O) (hm : t ∈ ts) : ∃ O', t.holds w O' := by
 obtain ⟨k, hk⟩ := List.getElem?_of_mem hm
 obtain ⟨O1, _, h1, _⟩ := tAll_pick hk h
 exact ⟨O1, h1⟩
theorem rdP_of {w : World} {s : Sl} {l : List Part} {O : List Nat} (h : (tParts s l).holds w O) : RdP w s l := by
 obtain ⟨xs, h1, O1, O2, h2, h3, _⟩ := h
 refine ⟨xs, h1, ⟨_, SlF.toR h2⟩, fun x hx => ?_⟩
 obtain ⟨O', h4⟩ := tAll_see h3 (List.mem_map.2 ⟨x, hx, rfl⟩)
 exact ⟨O', SlF.toR h4⟩
section
variable {S : List Nat} {w0 w : World} {its : List Thing}
end
def tRP (s : Sl) (xs : List PV) : Thing :=
  { holds := fun w O => (∀ k ∈ O, k < w.heap.size) ∧ (∃ o, SlR w s 2 pdv xs o ∧ ∀ k ∈ o, k ∈ O) ∧ ∀ x ∈ xs, ∃ o, SlR w x.2.1 1 iv x.2.2 o ∧ ∀ k ∈ o, k ∈ O
    fr := fun {S w w' O} h hf hn => ⟨fun k hk => by have := h.1 k hk; have := hf.size; omega, by
      obtain ⟨_, ⟨o, h1, h2⟩, h3⟩ := h
      refine ⟨⟨o, h1.fr hf (fun k hk => hn k (h2 k hk)), h2⟩, fun x hx => ?_⟩
      obtain ⟨o, h4, h5⟩ := h3 x hx
      exact ⟨o, h4.fr hf (fun k hk => hn k (h5 k hk)), h5⟩⟩
    lt := fun h => h.1 }
theorem rp_reads {u : Thing} {s : Sl} {xs : List PV} (hu : u.holds = (tRP s xs).holds) : Hp.Reads u s 2 pdv xs := ⟨fun {w O} h => by
 rw [hu] at h
 obtain ⟨_, ⟨o, h1, _⟩, _⟩ := h
 exact ⟨o, h1⟩⟩
theorem rp_readsV {u : Thing} {s : Sl} {xs : List PV} (hu : u.holds = (tRP s xs).holds) {x : PV} (hx : x ∈ xs) : Hp.Reads u x.2.1 1 iv x.2.2 := ⟨fun {w O} h => by
 rw [hu] at h
 obtain ⟨_, _, h2⟩ := h
 obtain ⟨o, h3, _⟩ := h2 x hx
 exact ⟨o, h3⟩⟩
theorem RdP.thing {w : World} {s : Sl} {l : List Part} (h : RdP w s l) : ∃ (xs : List PV) (O : List Nat), xs.map pvis = l ∧ (tRP s xs).holds w O := by
 obtain ⟨xs, h1, ⟨o, h2⟩, h3⟩ := h
 refine ⟨xs, List.range w.heap.size, h1, fun k hk => List.mem_range.1 hk, ⟨o, h2, fun k hk => List.mem_range.2 (h2.lt k hk)⟩, fun x hx => ?_⟩
 obtain ⟨o, h4⟩ := h3 x hx
 exact ⟨o, h4, fun k hk => List.mem_range.2 (h4.lt k hk)⟩
theorem RdP.len {w : World} {s : Sl} {l : List Part} (h : RdP w s l) : l.length = s.len := by
 obtain ⟨xs, h1, ⟨o, h2⟩, _⟩ := h
 rw [← h1, List.length_map]; exact h2.1
section
variable {S : List Nat} {w0 w : World} {its : List Thing}
theorem copiedPart_spec {w : World} {kind : Int} {s : Sl} {L : List Int} (hr : ∃ o, SlR w s 1 iv L o) (hl : L.length ≤ 1000000) {K : Int → Sl → World → Prop} (hK : ∀ r w', Hp [] w w' [tSl r 2 1 iv L] → K kind r w') : c43 kind s w K := by
 refine c43_of ?_
 unfold f43
 obtain ⟨o, hR⟩ := hr
 have h1 : Hp [] w w [(tRd s 1 iv L).ro] := (Hp.init w).addRo hR (by simp)
 refine h1.nw fun b1 w1 h => ?_
 refine h.nw fun b2 w2 h => ?_
 refine h.ld 1 (n := 1) (k := .sl) (x := s) rfl rfl ?_
 refine CloneR_spec h 0 (u := (tRd s 1 iv L).ro) rfl ⟨fun {w O} h => ⟨O, h⟩⟩ hl fun r w3 h => ?_
 refine h.st 1 (n := 1) rfl (by simp) rfl fun w4 h => ?_
 refine h.ld0 1 (k := .i .i64) (x := kind) rfl rfl ?_
 refine h.ld 1 (n := 1) (k := .sl) (x := r) rfl rfl ?_
 refine h.st0 2 rfl (by simp) rfl fun w5 h => ?_
 refine h.st 2 (n := 1) rfl (by simp) rfl fun w6 h => ?_
 refine h.ld0 2 (k := .i .i64) (x := kind) rfl rfl ?_
 refine h.ld 2 (n := 1) (k := .sl) (x := r) rfl rfl ?_
 exact hK r w6 (h.selL [3] (by decide) rfl)
set_option maxHeartbeats 4000000 in
theorem parts_copied {w : World} {s : Sl} {l : List Part} (hr : RdP w s l) (hl : l.length ≤ 1000000) (hv : ∀ x ∈ l, x.2.length ≤ 1000000) {K : Sl → World → Prop} (hK : ∀ r w', Hp [] w w' [tParts r l] → K r w') : c42 s (.func (.func 43) #[] #[]) w K := by
 refine c42_of ?_
 unfold f42
 obtain ⟨inf, i1, i2, i3, i4⟩ := inf40
 obtain ⟨ys, O, rfl, hO⟩ := hr.thing
 have hsl := hr.len
 rw [List.length_map] at hsl hl
 have hu : (tRP s ys).ro.holds = (tRP s ys).holds := rfl
 have g : Hp [] w w ([(tRP s ys).ro] ++ [tParts ⟨none, 0, 0⟩ []]) := ((Hp.init w).addRo hO (by simp)).nest_nil 62 2 pdv tV pvis
 refine ⟨fun out t mm w' => ∃ k : Nat, t = k ∧ k ≤ ys.length ∧ mm = ys.length - k ∧ Hp [] w w' [(tRP s ys).ro, tParts out ((ys.take k).map pvis)], ⟨ys.length, 0, rfl, by omega, rfl, g⟩, ?_⟩
 clear g
 rintro out t mm w2 ⟨k, rfl, hk, rfl, g⟩
 by_cases hlt : k < ys.length
 ·refine ifT (by rw [decide_eq_true_iff]; omega) ?_
  have hy : ys[k]? = some ys[k] := List.getElem?_eq_getElem hlt
  have hym : ys[k] ∈ ys := List.getElem_mem hlt
  have hyv : ys[k].2.2.length ≤ 1000000 := hv (pvis ys[k]) (List.mem_map_of_mem hym)
  have htk : ys.take (k + 1) = ys.take k ++ [ys[k]] := by rw [List.take_succ_eq_append_getElem hlt]
  generalize ys[k] = y at hy hym hyv htk
  refine g.ixk 0 (u := (tRP s ys).ro) rfl (rp_reads hu) (by omega) (by simpa using hlt) fun a ha => ?_
  rw [Int.toNat_natCast]
  refine g.ldk0 (k := .i .i64) (v := y.1) 0 (u := (tRP s ys).ro) rfl (rp_reads hu) ha pdv_len hy rfl ?_
  refine g.ldk (m := 1) (k := .sl) (v := y.2.1) 0 (u := (tRP s ys).ro) rfl (rp_reads hu) ha pdv_len hy rfl ?_
  refine g.nw fun b w3 g => ?_
  refine g.st0 2 rfl (by simp) rfl fun w4 g => ?_
  refine g.st 2 (n := 1) rfl (by simp) rfl fun w5 g => ?_
  refine g.ld0 2 (k := .i .i64) (x := y.1) rfl rfl ?_
  refine g.ld 2 (n := 1) (k := .sl) (x := y.2.1) rfl rfl ?_
  have hvr : ∃ o, SlR w5 y.2.1 1 iv y.2.2 o := by
   obtain ⟨O', hO'⟩ := g.see (i := 0) rfl
   exact (rp_readsV hu hym).rd hO'
  refine ⟨43, #[], #[], rfl, ⟨_, Try.func43, by kernel_rfl⟩, ?_⟩
  refine copiedPart_spec hvr hyv fun r w6 p => ?_
  have g := g.r0 rfl p
  have hol := (g.nest_see (s := out) 1 rfl).1
  rw [List.length_map, List.length_take] at hol
  refine g.nest_app 1 3 (by omega) ((y.1, r, y.2.2) : PV) rfl rfl rfl pdv_len und36 i1 i3 i2 rfl rfl (by simp [pdv, Value.oneCell']) (by rw [i4]; omega) (by omega) fun out2 w7 g _ => ?_
  refine ⟨ys.length - (k + 1), by omega, k + 1, by rw [wr64 (by omega) (by omega)]; omega, by omega, rfl, ?_⟩
  rw [htk, List.map_append]
  exact g.selL [0, 1] (by decide) rfl
 ·refine ifF (by rw [decide_eq_true_iff]; omega) ?_
  obtain rfl : k = ys.length := by omega
  rw [List.take_length] at g
  exact hK out w2 (g.selL [1] (by decide) rfl)
end
section
variable {S : List Nat} {w0 w : World} {its : List Thing}
set_option maxHeartbeats 4000000 in
theorem bcopied_spec {w : World} {op e1 e2 kd : Int} {s p : Sl} {V : List Int} {P : List Part} (hr : ∃ o, SlR w s 1 iv V o) (hp : RdP w p P) (hl : V.length ≤ 1000000) (hlP : P.length ≤ 1000000) (hvP : ∀ x ∈ P, x.2.length ≤ 1000000) {K : Int → Int → Int → Int → Sl → Sl → World → Prop}
  (hK : ∀ r q w', Hp [] w w' [tSl r 2 1 iv V, tParts q P] → K op e1 e2 kd r q w') : c19 op e1 e2 kd s p w K := by
 refine c19_of ?_
 unfold f19
 obtain ⟨o, hR⟩ := hr
 have h1 : Hp [] w w [(tRd s 1 iv V).ro] := (Hp.init w).addRo hR (by simp)
 refine h1.nw fun b1 w1 h => ?_
 refine h.nw fun b2 w2 h => ?_
 refine h.ld 1 (n := 4) (k := .sl) (x := s) rfl rfl ?_
 refine CloneR_spec h 0 (u := (tRd s 1 iv V).ro) rfl ⟨fun {w O} h => ⟨O, h⟩⟩ hl fun r w3 h => ?_
 refine h.st 1 (n := 4) rfl (by simp) rfl fun w4 h => ?_
 refine h.ld 1 (n := 5) (k := .sl) (x := p) rfl rfl ?_
 refine parts_copied (hp.keep h.1) hlP hvP fun q w5 p' => ?_
 have h := h.r0 rfl p'
 refine h.st 1 (n := 5) rfl (by simp) rfl fun w6 h => ?_
 refine h.ld0 1 (k := .i .i64) (x := op) rfl rfl ?_
 refine h.ld 1 (n := 1) (k := .i .i64) (x := e1) rfl rfl ?_
 refine h.ld 1 (n := 2) (k := .i .i64) (x := e2) rfl rfl ?_
 refine h.ld 1 (n := 3) (k := .i .i64) (x := kd) rfl rfl ?_
 refine h.ld 1 (n := 4) (k := .sl) (x := r) rfl rfl ?_
 refine h.ld 1 (n := 5) (k := .sl) (x := q) rfl rfl ?_
 refine h.st0 2 rfl (by simp) rfl fun w7 h => ?_
 refine h.st 2 (n := 1) rfl (by simp) rfl fun w7 h => ?_
 refine h.st 2 (n := 2) rfl (by simp) rfl fun w7 h => ?_
 refine h.st 2 (n := 3) rfl (by simp) rfl fun w7 h => ?_
 refine h.st 2 (n := 4) rfl (by simp) rfl fun w7 h => ?_
 refine h.st 2 (n := 5) rfl (by simp) rfl fun w7 h => ?_
 refine h.ld0 2 (k := .i .i64) (x := op) rfl rfl ?_
 refine h.ld 2 (n := 1) (k := .i .i64) (x := e1) rfl rfl ?_
 refine h.ld 2 (n := 2) (k := .i .i64) (x := e2) rfl rfl ?_
 refine h.ld 2 (n := 3) (k := .i .i64) (x := kd) rfl rfl ?_
 refine h.ld 2 (n := 4) (k := .sl) (x := r) rfl rfl ?_
 refine h.ld 2 (n := 5) (k := .sl) (x := q) rfl rfl ?_
 exact hK r q w7 (h.selL [3, 4] (by decide) rfl)
set_option maxHeartbeats 4000000 in
theorem all2_spec {w : World} {sy ix op e1 e2 kd : Int} {s p : Sl} {V : List Int} {P : List Part} (hr : ∃ o, SlR w s 1 iv V o) (hp : RdP w p P) (hl : V.length ≤ 1000000) (hlP : P.length ≤ 1000000) (hvP : ∀ x ∈ P, x.2.length ≤ 1000000) {K : Int → Int → Int → Int → Sl → Sl → World → Prop}
  (hK : ∀ r q w', Hp [] w w' [tSl r 2 1 iv V, tParts q P] → K op e1 e2 kd r q w') : c26 sy ix op e1 e2 kd s p w K := by
 refine c26_of ?_
 unfold f26
 refine (Hp.init (S := []) w).nw fun b1 w1 h => ?_
 refine h.nw fun b2 w2 h => ?_
 refine h.ld 0 (n := 2) (k := .i .i64) (x := op) rfl rfl ?_
 refine h.lda 0 (n := 2) (m := 1) (k := .i .i64) (x := e1) rfl rfl ?_
 refine h.lda 0 (n := 2) (m := 2) (k := .i .i64) (x := e2) rfl rfl ?_
 refine h.lda 0 (n := 2) (m := 3) (k := .i .i64) (x := kd) rfl rfl ?_
 refine h.lda 0 (n := 2) (m := 4) (k := .sl) (x := s) rfl rfl ?_
 refine h.lda 0 (n := 2) (m := 5) (k := .sl) (x := p) rfl rfl ?_
 refine bcopied_spec (SlR.keep hr h.1) (hp.keep h.1) hl hlP hvP fun r q w3 p' => ?_
 have h := h.r0 rfl p'
 refine h.st0 1 rfl (by simp) rfl fun w7 h => ?_
 refine h.st 1 (n := 1) rfl (by simp) rfl fun w7 h => ?_
 refine h.st 1 (n := 2) rfl (by simp) rfl fun w7 h => ?_
 refine h.st 1 (n := 3) rfl (by simp) rfl fun w7 h => ?_
 refine h.st 1 (n := 4) rfl (by simp) rfl fun w7 h => ?_
 refine h.st 1 (n := 5) rfl (by simp) rfl fun w7 h => ?_
 refine h.ld0 1 (k := .i .i64) (x := op) rfl rfl ?_
 refine h.ld 1 (n := 1) (k := .i .i64) (x := e1) rfl rfl ?_
 refine h.ld 1 (n := 2) (k := .i .i64) (x := e2) rfl rfl ?_
 refine h.ld 1 (n := 3) (k := .i .i64) (x := kd) rfl rfl ?_
 refine h.ld 1 (n := 4) (k := .sl) (x := r) rfl rfl ?_
 refine h.ld 1 (n := 5) (k := .sl) (x := q) rfl rfl ?_
 exact hK r q w7 (h.selL [2, 3] (by decide) rfl)
end
open FS (ER erv ltE erv_len)
structure Cmd where
 op : Int
 e1 : Int
 e2 : Int
 kd : Int
 V : List Int
 P : List Part
structure EV where
 sy : Int
 ix : Int
 c : Cmd
 s : Sl
 p : Sl
def EV.r (x : EV) : ER := ⟨x.sy, x.ix, x.c.op, x.c.e1, x.c.e2, x.c.kd, x.s, x.p⟩
abbrev BE := Int × Int × Cmd
def EV.m (x : EV) : BE := (x.sy, x.ix, x.c)
abbrev evc (x : EV) : List Value := erv x.r
def tEV (x : EV) : Thing := tStar (tSl x.s 2 1 iv x.c.V) (tParts x.p x.c.P)
def tEnts (s : Sl) (l : List BE) : Thing := tNest 69 8 evc tEV EV.m s l
def tBuf (b : Nat) (l : List BE) : Thing := tEx fun s : Sl => tStar (tBlk b 66 [.slice s.a s.len s.cap]) (tEnts s l)
theorem und64 : Try.prog.underlying 64 = some (.slice 69) := by kernel_rfl
theorem inf69 : ∃ inf : TypeInfo, Try.prog.info? 69 = some inf ∧ inf.zero = some (.agg #[.int .i64 0, .int .i64 0, .int .i64 0, .int .i64 0, .int .i64 0, .int .i64 0, .slice none 0 0, .slice none 0 0]) ∧ inf.size = 8 ∧ inf.bytes = 96 := infoP (by kernel_rfl)
section
variable {S : List Nat} {w0 w : World} {its : List Thing}
theorem buf_open {b : Nat} {L : List BE} {rest : List Thing} (h : Hp S w0 w (tBuf b L :: rest)) : ∃ s : Sl, Hp S w0 w (tBlk b 66 [.slice s.a s.len s.cap] :: tEnts s L :: rest) := by
 obtain ⟨s, h⟩ := h.openEx (i := 0) rfl (fun _ => rfl)
 have h := h.split (i := 0) rfl rfl rfl
 exact ⟨s, h.up (A := [tBlk b 66 [.slice s.a s.len s.cap]]) (B := rest)⟩
theorem buf_shut {b : Nat} {s : Sl} {L : List BE} {rest : List Thing} (h : Hp S w0 w (tBlk b 66 [.slice s.a s.len s.cap] :: tEnts s L :: rest)) : Hp S w0 w (tBuf b L :: rest) := by
 have h := h.joinStar (i := 0) (j := 1) (by omega) rfl rfl rfl rfl
 have h := h.putEx (i := 0) (f := fun s : Sl => tStar (tBlk b 66 [.slice s.a s.len s.cap]) (tEnts s L)) s rfl rfl
 exact h.cutMid (A := [tBuf b L]) (B := [tEmp]) (C := rest)
theorem BNew_spec (h : Hp S w0 w its) {K : Option Addr → World → Prop} (hK : ∀ b w', Hp S w0 w' (tBuf b [] :: its) → K (some ⟨b, 0, none⟩) w') : c7 w K := by
 refine c7_of ?_
 unfold f7
 refine h.nw fun b w1 h => ?_
 have h := h.up (A := []) (B := its)
 have h := h.nest_nil 69 8 evc tEV EV.m
 have h := h.up (A := [tBlk b 66 [.slice none 0 0]]) (B := its)
 exact hK b w1 (buf_shut (s := ⟨none, 0, 0⟩) h)
set_option maxHeartbeats 4000000 in
theorem Put_spec {b : Nat} {L : List BE} {rest : List Thing} (h : Hp S w0 w (tBuf b L :: rest)) (i j : Nat) {u v : Thing} {sy eI eG op e1 e2 kd : Int} {s p : Sl} {V : List Int} {P : List Part}
  (hi : rest[i]? = some u) (hu : ∀ {w O}, u.holds w O → ∃ o, SlR w s 1 iv V o) (hj : rest[j]? = some v) (hv : ∀ {w O}, v.holds w O → RdP w p P)
  (hl : V.length ≤ 1000000) (hlP : P.length ≤ 1000000) (hvP : ∀ x ∈ P, x.2.length ≤ 1000000) {K : Int → World → Prop}
  (hfull : 100000 ≤ L.length → ∀ w', Hp S w0 w' (tBuf b L :: rest) → K 40 w')
  (hput : L.length < 100000 → ∀ w', Hp S w0 w' (tBuf b (L ++ [(sy, eI, ⟨op, e1, e2, kd, V, P⟩)]) :: rest) → K 0 w') : c8 (some ⟨b, 0, none⟩) sy eI eG op e1 e2 kd s p w K := by
 refine c8_of ?_
 unfold f8
 obtain ⟨inf, i1, i2, i3, i4⟩ := inf69
 obtain ⟨l, h⟩ := buf_open h
 refine h.nw fun be w1 h => ?_
 have h := h.up (A := [tBlk b 66 [.slice l.a l.len l.cap], tEnts l L]) (B := rest)
 refine h.nw fun bc w2 h => ?_
 have h := h.up (A := [tBlk b 66 [.slice l.a l.len l.cap], tEnts l L, tBlk be 33 [.int .i64 eI, .int .i64 eG]]) (B := rest)
 rw [NN_some]
 refine h.ld0 0 (k := .sl) (x := l) rfl rfl ?_
 have hol := (h.nest_see (s := l) 1 rfl).1
 by_cases hf : 100000 ≤ L.length
 ·refine ifT (by rw [decide_eq_true_iff]; omega) (hfull hf w2 (buf_shut (s := l) ?_))
  exact h.cutMid (A := [tBlk b 66 [.slice l.a l.len l.cap], tEnts l L]) (B := [tBlk be 33 [.int .i64 eI, .int .i64 eG], tBlk bc 37 [.int .i64 op, .int .i64 e1, .int .i64 e2, .int .i64 kd, .slice s.a s.len s.cap, .slice p.a p.len p.cap]]) (C := rest)
 ·refine ifF (by rw [decide_eq_true_iff]; omega) ?_
  refine h.dr fun w3 h => ?_
  rw [NN_some]
  refine h.ld0 0 (k := .sl) (x := l) rfl rfl ?_
  refine h.ld0 2 (k := .i .i64) (x := eI) rfl rfl ?_
  refine h.ld0 3 (k := .i .i64) (x := op) rfl rfl ?_
  refine h.ld 3 (n := 1) (k := .i .i64) (x := e1) rfl rfl ?_
  refine h.ld 3 (n := 2) (k := .i .i64) (x := e2) rfl rfl ?_
  refine h.ld 3 (n := 3) (k := .i .i64) (x := kd) rfl rfl ?_
  refine h.ld 3 (n := 4) (k := .sl) (x := s) rfl rfl ?_
  refine h.ld 3 (n := 5) (k := .sl) (x := p) rfl rfl ?_
  have hr : ∃ o, SlR w3 s 1 iv V o := by
   obtain ⟨O', hO'⟩ := h.see (i := i + 4) (t := u) hi
   exact hu hO'
  have hp : RdP w3 p P := by
   obtain ⟨O', hO'⟩ := h.see (i := j + 4) (t := v) hj
   exact hv hO'
  refine bcopied_spec hr hp hl hlP hvP fun r q w4 p' => ?_
  have h := h.r0 rfl p'
  refine ⟨?_, ?_, ?_⟩
  ·obtain ⟨_, hc, rfl⟩ := h.ld0 2 (k := .i .i64) (x := eI) (K := fun z => z = eI) rfl rfl rfl
   exact hc
  ·obtain ⟨_, hc, rfl⟩ := h.ld0 0 (k := .sl) (x := l) (K := fun z => z = l) rfl rfl rfl
   exact hc
  generalize tBlk be 33 [.int .i64 eI, .int .i64 eG] = tb1 at h
  generalize tBlk bc 37 [.int .i64 op, .int .i64 e1, .int .i64 e2, .int .i64 kd, .slice s.a s.len s.cap, .slice p.a p.len p.cap] = tb2 at h
  have h : Hp S w0 w4 ([tBlk b 66 [.slice l.a l.len l.cap], tEnts l L, tb1, tb2] ++ (rest ++ [tSl r 2 1 iv V]) ++ [tParts q P]) := by
   have e : [tBlk b 66 [.slice l.a l.len l.cap], tEnts l L, tb1, tb2] ++ (rest ++ [tSl r 2 1 iv V]) ++ [tParts q P] = ([tBlk b 66 [.slice l.a l.len l.cap], tEnts l L, tb1] ++ tb2 :: rest) ++ [tSl r 2 1 iv V, tParts q P] := by simp
   rw [e]; exact h
  have h := h.up
  have h : Hp S w0 w4 ([tBlk b 66 [.slice l.a l.len l.cap], tEnts l L, tb1, tb2, tParts q P] ++ rest ++ [tSl r 2 1 iv V]) := by
   have e : [tBlk b 66 [.slice l.a l.len l.cap], tEnts l L, tb1, tb2, tParts q P] ++ rest ++ [tSl r 2 1 iv V] = [tBlk b 66 [.slice l.a l.len l.cap], tEnts l L, tb1, tb2] ++ tParts q P :: (rest ++ [tSl r 2 1 iv V]) := by simp
   rw [e]; exact h
  have h := h.up
  have h := h.joinStar (i := 5) (j := 4) (a := tSl r 2 1 iv V) (b := tParts q P) (by omega) rfl rfl rfl rfl
  refine h.nest_app 1 5 (by omega) (⟨sy, eI, ⟨op, e1, e2, kd, V, P⟩, r, q⟩ : EV) rfl rfl rfl (fun _ => rfl) und64 i1 i3 i2 rfl rfl (by simp [evc, erv, EV.r, Value.oneCell']) (by rw [i4]; omega) (by omega) fun l2 w5 h _ => ?_
  rw [NN_some]
  refine h.st0 0 rfl (by simp) rfl fun w6 h => ?_
  refine hput (by omega) w6 (buf_shut (s := l2) ?_)
  exact h.cutMid (A := [tBlk b 66 [.slice l2.a l2.len l2.cap], tEnts l2 (L ++ [(sy, eI, ⟨op, e1, e2, kd, V, P⟩)])]) (B := [tb1, tb2, tEmp, tEmp]) (C := rest)
end
end Go.Proofs.Ythmbjlpgbkkjjaa.FW
end

section
namespace Go.Proofs.Ythmbjlpgbkkjjaa.FS
variable {α β : Type}
def insF (f : α → β) (lt : β → β → Bool) (x : α) : List α → List α
 | [] => [x]
 | y :: l => if lt (f y) (f x) = true then y :: insF f lt x l else x :: y :: l
def sortF (f : α → β) (lt : β → β → Bool) : List α → List α
 | [] => []
 | x :: l => insF f lt x (sortF f lt l)
theorem insF_mem {f : α → β} {lt : β → β → Bool} {x z : α} : ∀ {l : List α}, z ∈ insF f lt x l ↔ z = x ∨ z ∈ l
 | [] => by simp [insF]
 | y :: l => by
  unfold insF
  split
  ·rw [List.mem_cons, insF_mem, List.mem_cons]
   constructor
   ·rintro (h | h | h)
    ·exact .inr (.inl h)
    ·exact .inl h
    ·exact .inr (.inr h)
   ·rintro (h | h | h)
    ·exact .inr (.inl h)
    ·exact .inl h
    ·exact .inr (.inr h)
  ·rw [List.mem_cons]
theorem sortF_mem {f : α → β} {lt : β → β → Bool} {z : α} : ∀ {l : List α}, z ∈ sortF f lt l ↔ z ∈ l
 | [] => Iff.rfl
 | x :: l => by
  unfold sortF
  rw [insF_mem, sortF_mem, List.mem_cons]
theorem insF_len {f : α → β} {lt : β → β → Bool} {x : α} : ∀ {l : List α}, (insF f lt x l).length = l.length + 1
 | [] => rfl
 | y :: l => by
  unfold insF
  split
  ·rw [List.length_cons, insF_len, List.length_cons]
  ·rfl
theorem sortF_len {f : α → β} {lt : β → β → Bool} : ∀ {l : List α}, (sortF f lt l).length = l.length
 | [] => rfl
 | x :: l => by
  unfold sortF
  rw [insF_len, sortF_len, List.length_cons]
theorem insF_filter {f : α → β} {lt : β → β → Bool} (hs : Swo lt) (k : β) {x : α} : ∀ {l : List α}, ((insF f lt x l).map f).filter (alike lt k) = ((x :: l).map f).filter (alike lt k)
 | [] => rfl
 | y :: l => by
  unfold insF
  split
  ·rename_i h
   have ih := insF_filter (f := f) hs k (x := x) (l := l)
   rw [List.map_cons, List.map_cons, List.map_cons]
   rw [List.map_cons] at ih
   by_cases h1 : alike lt k (f x) = true
   ·by_cases h2 : alike lt k (f y) = true
    ·have h3 := alike_iff.1 h1
     have h4 := alike_iff.1 h2
     have := hs.trans (x := f x) (y := k) (z := f y) h3.1 h4.2
     rw [h] at this; cases this
    ·rw [List.filter_cons_of_neg h2, ih, List.filter_cons_of_pos h1, List.filter_cons_of_pos h1, List.filter_cons_of_neg h2]
   ·by_cases h2 : alike lt k (f y) = true
    ·rw [List.filter_cons_of_pos h2, ih, List.filter_cons_of_neg h1, List.filter_cons_of_neg h1, List.filter_cons_of_pos h2]
    ·rw [List.filter_cons_of_neg h2, ih, List.filter_cons_of_neg h1, List.filter_cons_of_neg h1, List.filter_cons_of_neg h2]
  ·rfl
theorem sortF_same {f : α → β} {lt : β → β → Bool} (hs : Swo lt) {l : List α} : Same lt (l.map f) ((sortF f lt l).map f) := by
  refine ⟨by rw [List.length_map, List.length_map, sortF_len], fun k => ?_⟩
  induction l with
  | nil => rfl
  | cons x l ih =>
   unfold sortF
   rw [insF_filter hs k, List.map_cons, List.map_cons, List.filter_cons, List.filter_cons, ih]
theorem insF_srt {f : α → β} {lt : β → β → Bool} (hs : Swo lt) {x : α} : ∀ {l : List α}, Srt lt (l.map f) → Srt lt ((insF f lt x l).map f)
 | [], _ => List.pairwise_singleton _ _
 | y :: l, h => by
  obtain ⟨h1, h2⟩ := List.pairwise_cons.1 h
  unfold insF
  split
  ·rename_i hyx
   refine List.pairwise_cons.2 ⟨fun b hb => ?_, insF_srt hs h2⟩
   obtain ⟨z, hz, rfl⟩ := List.mem_map.1 hb
   rcases insF_mem.1 hz with rfl | hz
   ·exact hs.asymm hyx
   ·exact h1 _ (List.mem_map_of_mem hz)
  ·rename_i hyx
   have hyx : lt (f y) (f x) = false := by simpa using hyx
   refine List.pairwise_cons.2 ⟨fun b hb => ?_, h⟩
   rcases List.mem_cons.1 hb with rfl | hb
   ·exact hyx
   ·exact hs.trans hyx (h1 b hb)
theorem sortF_srt {f : α → β} {lt : β → β → Bool} (hs : Swo lt) : ∀ {l : List α}, Srt lt ((sortF f lt l).map f)
 | [] => List.Pairwise.nil
 | x :: l => insF_srt hs (sortF_srt hs)
theorem sortF_uniq {f : α → β} {lt : β → β → Bool} (hs : Swo lt) {l : List α} {m : List β} (h1 : Srt lt m) (h2 : Same lt (l.map f) m) : m = (sortF f lt l).map f :=
 srt_uniq hs h1 (sortF_srt hs) (h2.symm.trans (sortF_same hs))
end Go.Proofs.Ythmbjlpgbkkjjaa.FS
end

section
namespace Go.Proofs.Ythmbjlpgbkkjjaa.FW
open F
open Go Go.Den Go.Proofs
open FS (ER erv ltE swoE erv_len sort_spec cmpOk sortF sortF_uniq sortF_mem sortF_len)
open FI (PoolM tPool)
open FT (TabM tTab Ent entV ent ent_len atI keyEnt iv iv_len)
structure CV where
 c : Cmd
 s : Sl
 p : Sl
abbrev cdv (x : CV) : List Value := [.int .i64 x.c.op, .int .i64 x.c.e1, .int .i64 x.c.e2, .int .i64 x.c.kd, .slice x.s.a x.s.len x.s.cap, .slice x.p.a x.p.len x.p.cap]
def tCV (x : CV) : Thing := tStar (tSl x.s 2 1 iv x.c.V) (tParts x.p x.c.P)
def tCmds (s : Sl) (l : List Cmd) : Thing := tNest 37 6 cdv tCV CV.c s l
theorem und38 : Try.prog.underlying 38 = some (.slice 37) := by kernel_rfl
theorem inf37 : ∃ inf : TypeInfo, Try.prog.info? 37 = some inf ∧ inf.zero = some (.agg #[.int .i64 0, .int .i64 0, .int .i64 0, .int .i64 0, .slice none 0 0, .slice none 0 0]) ∧ inf.size = 6 ∧ inf.bytes = 80 := infoP (by kernel_rfl)
def RdL (w : World) (x : EV) : Prop := (∃ o, SlR w x.s 1 iv x.c.V o) ∧ RdP w x.p x.c.P
theorem RdL.keep {w w' : World} {x : EV} (h : RdL w x) (hf : Fr [] w w') : RdL w' x := ⟨SlR.keep h.1 hf, h.2.keep hf⟩
def Cmd.Small (c : Cmd) : Prop := c.V.length ≤ 1000000 ∧ c.P.length ≤ 1000000 ∧ ∀ x ∈ c.P, x.2.length ≤ 1000000
theorem buf_see {w : World} {b : Nat} {L : List BE} {O : List Nat} (h : (tBuf b L).holds w O) : ∃ (s : Sl) (xs : List EV), xs.map EV.m = L ∧ (∃ O, (tBlk b 66 [.slice s.a s.len s.cap]).holds w O) ∧ (∃ o, SlR w s 8 erv (xs.map EV.r) o) ∧ ∀ x ∈ xs, RdL w x := by
 obtain ⟨s, O1, O2, h1, ⟨xs, hx, P1, P2, h2, h3, _⟩, _⟩ := h
 refine ⟨s, xs, hx, ⟨O1, h1⟩, ?_, fun x hx => ?_⟩
 ·obtain ⟨q1, q2⟩ := SlF.toR h2
  refine ⟨P1, by rw [List.length_map]; exact q1, ?_⟩
  have e : (xs.map EV.r).flatMap erv = xs.flatMap evc := by rw [List.flatMap_map]
  rw [e]; exact q2
 ·obtain ⟨O', R1, R2, h4, h5, _⟩ := tAll_see h3 (List.mem_map.2 ⟨x, hx, rfl⟩)
  exact ⟨⟨_, SlF.toR h4⟩, rdP_of h5⟩
section
variable {S : List Nat} {w0 w : World} {its : List Thing}
theorem cloneE_spec (h : Hp S w0 w its) (i : Nat) {u : Thing} {s : Sl} {L : List ER} (hi : its[i]? = some u) (hu : Hp.Reads u s 8 erv L) (hl : L.length ≤ 1000000) {K : Sl → World → Prop} (hK : ∀ r w', Hp S w0 w' (its ++ [tSl r 69 8 erv L]) → K r w') : c20 s w K := by
 refine c20_of ?_
 unfold f20
 obtain ⟨inf, q1, q2, q3, q4⟩ := inf69
 have hlt := (List.getElem?_eq_some_iff.1 hi).1
 have hsl := h.lenU i (by rw [hi]; rfl) hu
 by_cases hn : s.a.isNone = true
 ·refine ifT hn (hK _ _ ?_)
  have : L = [] := by
   obtain ⟨O, hO⟩ := h.see hi
   obtain ⟨o, hR⟩ := hu.rd hO
   exact hR.isNil (by simpa using hn)
  rw [this]; exact h.nil 69 8 erv
 ·refine ifF hn ?_
  refine h.nw (c := []) fun b w1 h => ?_
  have h := h.blkSl (i := its.length) (m := 0) (l := ([] : List ER)) (f := erv) (n := 8) List.getElem?_concat_length rfl rfl erv_len
  rw [set_last] at h
  refine h.appS its.length i (s := ⟨some ⟨b, 0, none⟩, 0, 0⟩) (s2 := s) List.getElem?_concat_length (by rw [List.getElem?_append_left hlt]; exact hi) hu erv_len und64 q1 q3 q2 rfl (by simp [erv, Value.oneCell']) (by rw [q4]; show (0 + s.len) * 96 ≤ _; omega) (by show 0 + s.len ≤ _; omega) fun r w2 h _ _ => ?_
  rw [set_last] at h
  exact hK r w2 h
set_option maxHeartbeats 4000000 in
theorem each_spec {w w1 : World} {l : Sl} {xs : List EV} (h : Hp [] w w1 [tSl l 69 8 erv (xs.map EV.r)]) (hx : ∀ x ∈ xs, RdL w x) (hl : xs.length ≤ 1000000) (hs : ∀ x ∈ xs, x.c.Small) {K : Sl → World → Prop} (hK : ∀ r w', Hp [] w w' [tCmds r (xs.map EV.c)] → K r w') : c25 l (.func (.func 26) #[] #[]) w1 K := by
 refine c25_of ?_
 unfold f25
 obtain ⟨inf, i1, i2, i3, i4⟩ := inf37
 have hsl := h.len (s := l) (e := 69) (n := 8) (f := erv) (l := xs.map EV.r) 0 rfl
 rw [List.length_map] at hsl
 have h : Hp [] w w1 ([tSl l 69 8 erv (xs.map EV.r)] ++ [tCmds ⟨none, 0, 0⟩ []]) := h.nest_nil 37 6 cdv tCV CV.c
 refine ⟨fun out t mm w' => ∃ k : Nat, t = k ∧ k ≤ xs.length ∧ mm = xs.length - k ∧ Hp [] w w' [tSl l 69 8 erv (xs.map EV.r), tCmds out ((xs.take k).map EV.c)], ⟨xs.length, 0, rfl, by omega, rfl, h⟩, ?_⟩
 clear h
 rintro out t mm w2 ⟨k, rfl, hk, rfl, g⟩
 by_cases hlt : k < xs.length
 ·refine ifT (by rw [decide_eq_true_iff]; omega) ?_
  have hy : (xs.map EV.r)[k]? = some xs[k].r := by rw [List.getElem?_map, List.getElem?_eq_getElem hlt]; rfl
  have hym : xs[k] ∈ xs := List.getElem_mem hlt
  have htk : xs.take (k + 1) = xs.take k ++ [xs[k]] := by rw [List.take_succ_eq_append_getElem hlt]
  generalize xs[k] = y at hy hym htk
  refine FS.rd8 g 0 (x := y.r) rfl (by omega) (by rw [Int.toNat_natCast]; exact hy) ?_
  refine g.nw fun b w3 g => ?_
  refine g.st0 2 rfl (by simp) rfl fun w4 g => ?_
  refine g.st 2 (n := 1) rfl (by simp) rfl fun w4 g => ?_
  refine g.st 2 (n := 2) rfl (by simp) rfl fun w4 g => ?_
  refine g.st 2 (n := 3) rfl (by simp) rfl fun w4 g => ?_
  refine g.st 2 (n := 4) rfl (by simp) rfl fun w4 g => ?_
  refine g.st 2 (n := 5) rfl (by simp) rfl fun w4 g => ?_
  refine g.st 2 (n := 6) rfl (by simp) rfl fun w4 g => ?_
  refine g.st 2 (n := 7) rfl (by simp) rfl fun w5 g => ?_
  refine g.ld0 2 (k := .i .i64) (x := y.sy) rfl rfl ?_
  refine g.ld 2 (n := 1) (k := .i .i64) (x := y.ix) rfl rfl ?_
  refine g.ld 2 (n := 2) (k := .i .i64) (x := y.c.op) rfl rfl ?_
  refine g.ld 2 (n := 3) (k := .i .i64) (x := y.c.e1) rfl rfl ?_
  refine g.ld 2 (n := 4) (k := .i .i64) (x := y.c.e2) rfl rfl ?_
  refine g.ld 2 (n := 5) (k := .i .i64) (x := y.c.kd) rfl rfl ?_
  refine g.ld 2 (n := 6) (k := .sl) (x := y.s) rfl rfl ?_
  refine g.ld 2 (n := 7) (k := .sl) (x := y.p) rfl rfl ?_
  obtain ⟨hr1, hr2⟩ := (hx y hym).keep g.1
  obtain ⟨s1, s2, s3⟩ := hs y hym
  refine ⟨26, #[], #[], rfl, ⟨_, Try.func26, by kernel_rfl⟩, ?_⟩
  refine all2_spec (sy := y.sy) (ix := y.ix) (op := y.c.op) (e1 := y.c.e1) (e2 := y.c.e2) (kd := y.c.kd) hr1 hr2 s1 s2 s3 fun r q w6 p' => ?_
  have g := g.r0 rfl p'
  have hol := (g.nest_see (s := out) 1 rfl).1
  rw [List.length_map, List.length_take] at hol
  have g := g.joinStar (i := 3) (j := 4) (a := tSl r 2 1 iv y.c.V) (b := tParts q y.c.P) (by omega) rfl rfl rfl rfl
  refine g.nest_app 1 3 (by omega) (⟨y.c, r, q⟩ : CV) rfl rfl rfl (fun _ => rfl) und38 i1 i3 i2 rfl rfl (by simp [cdv, Value.oneCell']) (by rw [i4]; omega) (by omega) fun out2 w7 g _ => ?_
  refine ⟨xs.length - (k + 1), by omega, k + 1, by rw [wr64 (by omega) (by omega)]; omega, by omega, rfl, ?_⟩
  rw [htk, List.map_append]
  exact g.selL [0, 1] (by decide) rfl
 ·refine ifF (by rw [decide_eq_true_iff]; omega) ?_
  obtain rfl : k = xs.length := by omega
  rw [List.take_length] at g
  exact hK out w2 (g.selL [1] (by decide) rfl)
end
open FS (insF)
def ltB (x y : BE) : Bool := decide (x.1 < y.1 ∨ x.1 = y.1 ∧ x.2.1 < y.2.1)
def sorted (L : List BE) : List Cmd := (sortF id ltB L).map fun x => x.2.2
theorem insF_map {x : EV} : ∀ {l : List EV}, (insF EV.r ltE x l).map EV.m = insF id ltB x.m (l.map EV.m)
 | [] => rfl
 | y :: l => by
  have e : ltE y.r x.r = ltB (id y.m) (id x.m) := rfl
  unfold insF
  rw [e]
  by_cases h : ltB (id y.m) (id x.m) = true
  ·rw [if_pos h]
   show _ = if ltB (id y.m) (id x.m) = true then _ else _
   rw [if_pos h, List.map_cons, insF_map]
  ·rw [if_neg h]
   show _ = if ltB (id y.m) (id x.m) = true then _ else _
   rw [if_neg h]; rfl
theorem sortF_map : ∀ {l : List EV}, (sortF EV.r ltE l).map EV.m = sortF id ltB (l.map EV.m)
 | [] => rfl
 | x :: l => by
  show (insF EV.r ltE x (sortF EV.r ltE l)).map EV.m = insF id ltB x.m (sortF id ltB (l.map EV.m))
  rw [insF_map, sortF_map]
section
variable {S : List Nat} {w0 w : World} {its : List Thing}
set_option maxHeartbeats 4000000 in
theorem All_spec (h : Hp S w0 w its) (i : Nat) {b : Nat} {L : List BE} (hi : its[i]? = some (tBuf b L)) (hL : L.length ≤ 1000000) (hs : ∀ x ∈ L, x.2.2.Small) {K : Sl → World → Prop} (hK : ∀ s w', Hp S w0 w' (its ++ [tCmds s (sorted L)]) → K s w') : c10 (some ⟨b, 0, none⟩) w K := by
 refine c10_of ?_
 unfold f10
 rw [NN_some]
 obtain ⟨O, hO⟩ := h.see hi
 obtain ⟨s, xs, rfl, ⟨O1, hb⟩, ⟨o, hR⟩, hx⟩ := buf_see hO
 rw [List.length_map] at hL
 have g : Hp [] w w ([(tBlk b 66 [.slice s.a s.len s.cap]).ro] ++ [(tRd s 8 erv (xs.map EV.r)).ro]) := ((Hp.init w).addRo hb (by simp)).addRo hR (by simp)
 refine g.ld0 0 (k := .sl) (x := s) rfl rfl ?_
 refine cloneE_spec g 1 (u := (tRd s 8 erv (xs.map EV.r)).ro) rfl ⟨fun {w O} h => ⟨O, h⟩⟩ (by rw [List.length_map]; omega) fun r w1 g => ?_
 have hrl := g.len (s := r) (e := 69) (n := 8) (f := erv) (l := xs.map EV.r) 2 rfl
 refine sort_spec cmpOk g 2 (l := xs.map EV.r) rfl (by rw [List.length_map]; omega) (by omega) fun l' w2 h1 h2 g => ?_
 obtain rfl := sortF_uniq swoE h1 h2
 have g : Hp [] w w2 [tSl r 69 8 erv ((sortF EV.r ltE xs).map EV.r)] := g.sel1 2 rfl
 refine each_spec (w := w) g (fun x hx' => hx x (sortF_mem.1 hx')) (by rw [sortF_len]; omega) (fun x hx' => hs x.m (List.mem_map_of_mem (sortF_mem.1 hx'))) fun r2 w3 p => ?_
 have e : sorted (xs.map EV.m) = (sortF EV.r ltE xs).map EV.c := by
  unfold sorted
  rw [← sortF_map, List.map_map]; rfl
 rw [e] at hK
 exact hK r2 w3 (h.r0 rfl p)
end
def ksK : KD := [(⟨#[80, 111, 115]⟩, [⟨#[120]⟩, ⟨#[121]⟩]), (⟨#[86, 101, 108]⟩, [⟨#[120]⟩]), (⟨#[77, 97, 114, 107]⟩, [])]
section
variable {S : List Nat} {w0 w : World} {its : List Thing}
theorem ks_spec (h : Hp S w0 w its) {K : Sl → World → Prop} (hK : ∀ s w', Hp S w0 w' (its ++ [tKinds s ksK]) → K s w') : c12 w K := by
 refine c12_of ?_
 unfold f12
 refine h.nwS (l := [(⟨#[120]⟩ : ByteArray), ⟨#[121]⟩]) (f := sv) (n := 1) (c := [_, _]) rfl rfl sv_len fun b1 w1 h => ?_
 refine h.nwS (l := [(⟨#[120]⟩ : ByteArray)]) (f := sv) (n := 1) (c := [_]) rfl rfl sv_len fun b2 w2 h => ?_
 have h := h.nil 9 1 sv
 refine h.nwS (l := [((⟨#[80, 111, 115]⟩, ⟨some ⟨b1, 0, none⟩, 2, 2⟩, [⟨#[120]⟩, ⟨#[121]⟩]) : KS), (⟨#[86, 101, 108]⟩, ⟨some ⟨b2, 0, none⟩, 1, 1⟩, [⟨#[120]⟩]), (⟨#[77, 97, 114, 107]⟩, ⟨none, 0, 0⟩, [])]) (f := kdv) (n := 2) (c := [_, _, _, _, _, _]) rfl rfl kdv_len fun b4 w4 h => ?_
 have h : Hp S w0 w4 (its ++ [tSl ⟨some ⟨b1, 0, none⟩, 2, 2⟩ 9 1 sv [⟨#[120]⟩, ⟨#[121]⟩], tSl ⟨some ⟨b2, 0, none⟩, 1, 1⟩ 9 1 sv [⟨#[120]⟩], tSl ⟨none, 0, 0⟩ 9 1 sv []] ++ [tSl ⟨some ⟨b4, 0, none⟩, 3, 3⟩ 87 2 kdv [((⟨#[80, 111, 115]⟩, ⟨some ⟨b1, 0, none⟩, 2, 2⟩, [⟨#[120]⟩, ⟨#[121]⟩]) : KS), (⟨#[86, 101, 108]⟩, ⟨some ⟨b2, 0, none⟩, 1, 1⟩, [⟨#[120]⟩]), (⟨#[77, 97, 114, 107]⟩, ⟨none, 0, 0⟩, [])]]) := by
  simpa using h
 have h := h.swap2
 rw [List.append_assoc] at h
 exact hK _ w4 (h.nest_make (vis := kvis) (sub := tF) rfl)
end
theorem may_ksK : mayOk ksK := by
 refine ⟨fun x hx => ?_, by decide, by decide, words_of (by decide) (by decide)⟩
 simp only [ksK, List.mem_cons, List.not_mem_nil, or_false] at hx
 rcases hx with rfl | rfl | rfl
 ·exact ⟨by decide, words_of (by decide) (by decide)⟩
 ·exact ⟨by decide, words_of (by decide) (by decide)⟩
 ·exact ⟨by decide, words_of (by decide) (by decide)⟩
def WA.doC (a : WA) (c : Cmd) : WA × List Ent × Int :=
 if c.op = 1 then ((a.spawn c.P).1, [(a.spawn c.P).2.1], (a.spawn c.P).2.2) else
 if c.op = 2 then ((a.despawn (c.e1, c.e2)).1, [], (a.despawn (c.e1, c.e2)).2) else
 if c.op = 3 then ((a.add (c.e1, c.e2) (c.kd, c.V)).1, [], (a.add (c.e1, c.e2) (c.kd, c.V)).2) else
 if c.op = 4 then ((a.remove (c.e1, c.e2) c.kd).1, [], (a.remove (c.e1, c.e2) c.kd).2) else (a, [], 1)
def Cmd.Fit (c : Cmd) : Prop := (-9223372036854775808 ≤ c.kd ∧ c.kd ≤ 9223372036854775807) ∧ FP.R64 c.V ∧ ∀ x ∈ c.P, (-9223372036854775808 ≤ x.1 ∧ x.1 ≤ 9223372036854775807) ∧ FP.R64 x.2
section
variable {S : List Nat} {w0 w : World} {its : List Thing}
set_option maxHeartbeats 4000000 in
theorem does_spec {wb : Nat} {a : WA} {c : Cmd} {s p : Sl} (h : Hp S w0 w its) (i jv jp : Nat) (hiv : i ≠ jv) (hip : i ≠ jp) (hi : its[i]? = some (tW wb a)) (hjv : its[jv]? = some (tSl s 2 1 iv c.V)) (hjp : its[jp]? = some (tParts p c.P)) (hc : c.Small) (hf : c.Fit) {K : Sl → Int → World → Prop}
  (hK : ∀ m w', Hp S w0 w' (its.set i (tW wb (a.doC c).1) ++ [tSl m 33 2 ent (a.doC c).2.1]) → K m (a.doC c).2.2 w') : c30 (some ⟨wb, 0, none⟩) c.op c.e1 c.e2 c.kd s p w K := by
 refine c30_of ?_
 unfold f30
 obtain ⟨s1, s2, s3⟩ := hc
 obtain ⟨⟨k1, k2⟩, hV, hP⟩ := hf
 have li := (List.getElem?_eq_some_iff.1 hi).1
 have lv := (List.getElem?_eq_some_iff.1 hjv).1
 have lp := (List.getElem?_eq_some_iff.1 hjp).1
 refine h.nw fun bc w1 h => ?_
 have gi : (its ++ [tBlk bc 37 [.int .i64 c.op, .int .i64 c.e1, .int .i64 c.e2, .int .i64 c.kd, .slice s.a s.len s.cap, .slice p.a p.len p.cap]])[i]? = some (tW wb a) := by rw [List.getElem?_append_left li]; exact hi
 have gv : (its ++ [tBlk bc 37 [.int .i64 c.op, .int .i64 c.e1, .int .i64 c.e2, .int .i64 c.kd, .slice s.a s.len s.cap, .slice p.a p.len p.cap]])[jv]? = some (tSl s 2 1 iv c.V) := by rw [List.getElem?_append_left lv]; exact hjv
 have gp : (its ++ [tBlk bc 37 [.int .i64 c.op, .int .i64 c.e1, .int .i64 c.e2, .int .i64 c.kd, .slice s.a s.len s.cap, .slice p.a p.len p.cap]])[jp]? = some (tParts p c.P) := by rw [List.getElem?_append_left lp]; exact hjp
 have gc : ((its ++ [tBlk bc 37 [.int .i64 c.op, .int .i64 c.e1, .int .i64 c.e2, .int .i64 c.kd, .slice s.a s.len s.cap, .slice p.a p.len p.cap]])[its.length]?).map Thing.holds = some (tBlk bc 37 [.int .i64 c.op, .int .i64 c.e1, .int .i64 c.e2, .int .i64 c.kd, .slice s.a s.len s.cap, .slice p.a p.len p.cap]).holds := by rw [List.getElem?_concat_length]; rfl
 refine h.ld0 its.length (k := .i .i64) (x := c.op) gc rfl ?_
 have none_ : ∀ {a' : WA} {t : Thing} {w' : World}, Hp S w0 w' ((its ++ [t]).set i (tW wb a')) → Hp S w0 w' (its.set i (tW wb a') ++ [tSl ⟨none, 0, 0⟩ 33 2 ent []]) := fun {a' t w'} h => by
  rw [List.set_append_left _ _ li] at h
  exact (h.front).nil 33 2 ent
 by_cases h1 : c.op = 1
 ·have e : a.doC c = ((a.spawn c.P).1, [(a.spawn c.P).2.1], (a.spawn c.P).2.2) := by unfold WA.doC; rw [if_pos h1]
  rw [e] at hK
  refine ifT (by simp [h1]) ?_
  refine h.ld its.length (n := 5) (k := .sl) (x := p) gc rfl ?_
  refine Spawn_W h i jp hip gi gp (fun x hx => (hP x hx).1) (fun x hx => (hP x hx).2) s2 fun w2 h => ?_
  rw [List.set_append_left _ _ li] at h
  have h := h.front
  generalize its.set i (tW wb (a.spawn c.P).1) = its' at h hK
  refine h.nw fun bx w3 h => ?_
  refine h.st0 its'.length List.getElem?_concat_length (by simp) rfl fun w4 h => ?_
  rw [set_last] at h
  refine h.st its'.length (n := 1) List.getElem?_concat_length (by simp) rfl fun w5 h => ?_
  rw [set_last] at h
  refine h.ld0 its'.length (k := .i .i64) (x := (a.spawn c.P).2.1.1) (by rw [List.getElem?_concat_length]; rfl) rfl ?_
  refine h.ld its'.length (n := 1) (k := .i .i64) (x := (a.spawn c.P).2.1.2) (by rw [List.getElem?_concat_length]; rfl) rfl ?_
  have h := h.front
  refine h.nwS (l := [(a.spawn c.P).2.1]) (f := ent) (n := 2) (m := 1) (c := [_, _]) rfl rfl ent_len fun bm w6 h => ?_
  exact hK _ w6 h
 refine ifF (by simp [h1]) ?_
 by_cases h2 : c.op = 2
 ·have e : a.doC c = ((a.despawn (c.e1, c.e2)).1, [], (a.despawn (c.e1, c.e2)).2) := by unfold WA.doC; rw [if_neg h1, if_pos h2]
  rw [e] at hK
  refine ifT (by simp [h2]) ?_
  refine h.ld its.length (n := 1) (k := .i .i64) (x := c.e1) gc rfl ?_
  refine h.lda its.length (n := 1) (m := 1) (k := .i .i64) (x := c.e2) gc rfl ?_
  exact Despawn_W h i gi (e := (c.e1, c.e2)) fun w2 h => hK _ w2 (none_ h)
 refine ifF (by simp [h2]) ?_
 by_cases h3 : c.op = 3
 ·have e : a.doC c = ((a.add (c.e1, c.e2) (c.kd, c.V)).1, [], (a.add (c.e1, c.e2) (c.kd, c.V)).2) := by unfold WA.doC; rw [if_neg h1, if_neg h2, if_pos h3]
  rw [e] at hK
  refine ifT (by simp [h3]) ?_
  refine h.ld its.length (n := 1) (k := .i .i64) (x := c.e1) gc rfl ?_
  refine h.lda its.length (n := 1) (m := 1) (k := .i .i64) (x := c.e2) gc rfl ?_
  refine h.ld its.length (n := 3) (k := .i .i64) (x := c.kd) gc rfl ?_
  refine h.ld its.length (n := 4) (k := .sl) (x := s) gc rfl ?_
  exact Add_W h i jv hiv (e := (c.e1, c.e2)) gi gv k1 k2 hV fun w2 h => hK _ w2 (none_ h)
 refine ifF (by simp [h3]) ?_
 by_cases h4 : c.op = 4
 ·have e : a.doC c = ((a.remove (c.e1, c.e2) c.kd).1, [], (a.remove (c.e1, c.e2) c.kd).2) := by unfold WA.doC; rw [if_neg h1, if_neg h2, if_neg h3, if_pos h4]
  rw [e] at hK
  refine ifT (by simp [h4]) ?_
  refine h.ld its.length (n := 1) (k := .i .i64) (x := c.e1) gc rfl ?_
  refine h.lda its.length (n := 1) (m := 1) (k := .i .i64) (x := c.e2) gc rfl ?_
  refine h.ld its.length (n := 3) (k := .i .i64) (x := c.kd) gc rfl ?_
  exact Remove_W h i (e := (c.e1, c.e2)) gi k1 k2 fun w2 h => hK _ w2 (none_ h)
 have e : a.doC c = (a, [], 1) := by unfold WA.doC; rw [if_neg h1, if_neg h2, if_neg h3, if_neg h4]
 rw [e] at hK
 refine ifF (by simp [h4]) (hK _ w1 (none_ (t := tBlk bc 37 [.int .i64 c.op, .int .i64 c.e1, .int .i64 c.e2, .int .i64 c.kd, .slice s.a s.len s.cap, .slice p.a p.len p.cap]) ?_))
 rw [Hp.set_same gi]; exact h
end
abbrev ASt := WA × List Ent × Int
def stepC (st : ASt) (k : Nat) (c : Cmd) : ASt :=
 if 2000 ≤ k then (st.1, st.2.1, st.2.2 + 1) else
 if (st.1.doC c).2.2 ≠ 0 then ((st.1.doC c).1, st.2.1, st.2.2 + 1) else ((st.1.doC c).1, st.2.1 ++ (st.1.doC c).2.1, st.2.2)
def WA.app (a : WA) (L : List Cmd) : Nat → ASt
 | 0 => (a, [], 0)
 | k + 1 => match L[k]? with
  | none => WA.app a L k
  | some c => stepC (WA.app a L k) k c
theorem doC_len (a : WA) (c : Cmd) : (a.doC c).2.1.length ≤ 1 := by
 unfold WA.doC
 split
 ·simp
 ·split
  ·simp
  ·split
   ·simp
   ·split <;> simp
theorem app_bound (a : WA) (L : List Cmd) : ∀ k, 0 ≤ (a.app L k).2.2 ∧ (a.app L k).2.2 ≤ k ∧ (a.app L k).2.1.length ≤ k
 | 0 => ⟨by simp [WA.app], by simp [WA.app], by simp [WA.app]⟩
 | k + 1 => by
  obtain ⟨h1, h2, h3⟩ := app_bound a L k
  have h4 : ∀ c, ((a.app L k).1.doC c).2.1.length ≤ 1 := fun c => doC_len _ c
  show 0 ≤ (match L[k]? with | none => WA.app a L k | some c => stepC (WA.app a L k) k c).2.2 ∧ (match L[k]? with | none => WA.app a L k | some c => stepC (WA.app a L k) k c).2.2 ≤ ((k + 1 : Nat) : Int) ∧ (match L[k]? with | none => WA.app a L k | some c => stepC (WA.app a L k) k c).2.1.length ≤ k + 1
  cases L[k]? with
  | none => dsimp only; exact ⟨h1, by omega, by omega⟩
  | some c =>
   have := h4 c
   unfold stepC
   dsimp only
   split
   ·exact ⟨by dsimp only; omega, by dsimp only; omega, by dsimp only; omega⟩
   ·split
    ·exact ⟨by dsimp only; omega, by dsimp only; omega, by dsimp only; omega⟩
    ·exact ⟨by dsimp only; omega, by dsimp only; omega, by dsimp only; rw [List.length_append]; omega⟩
open FT (inf32 und61)
section
variable {S : List Nat} {w0 w : World} {its : List Thing}
set_option maxHeartbeats 8000000 in
theorem Apply_spec {wb b : Nat} {a : WA} {L : List BE} {rest : List Thing} (h : Hp S w0 w (tW wb a :: tBuf b L :: rest)) (hL : L.length ≤ 1000000) (hs : ∀ x ∈ L, x.2.2.Small) (hf : ∀ x ∈ L, x.2.2.Fit) {K : Sl → Int → World → Prop}
  (hK : ∀ m w', Hp S w0 w' (tW wb (a.app (sorted L) L.length).1 :: tBuf b L :: tSl m 33 2 ent (a.app (sorted L) L.length).2.1 :: rest) → K m (a.app (sorted L) L.length).2.2 w') : c14 (some ⟨b, 0, none⟩) (some ⟨wb, 0, none⟩) w K := by
 refine c14_of ?_
 unfold f14
 obtain ⟨inf, i1, i2, i3, i4⟩ := inf32
 refine All_spec h 1 rfl hL hs fun r w1 h => ?_
 have hCl : (sorted L).length = L.length := by unfold sorted; rw [List.length_map, FS.sortF_len]
 have hCm : ∀ c ∈ sorted L, c.Small ∧ c.Fit := fun c hc => by
  obtain ⟨x, hx, rfl⟩ := List.mem_map.1 hc
  have := FS.sortF_mem.1 hx
  exact ⟨hs x this, hf x this⟩
 rw [← hCl] at hK hL
 generalize sorted L = CS at h hK hCm hL
 have h := h.up (A := [tW wb a, tBuf b L]) (B := rest)
 obtain ⟨xs, rfl, h⟩ := h.nest_open (i := 2) rfl
 rw [List.length_map] at hK hL
 have h := h.up (A := [tW wb a, tBuf b L, tSl r 37 6 cdv xs]) (B := rest)
 have hrl := h.len (s := r) (e := 37) (n := 6) (f := cdv) (l := xs) 2 rfl
 have h := (h.nil 33 2 ent).up (A := [tW wb a, tBuf b L, tSl r 37 6 cdv xs, tAll (xs.map tCV)]) (B := rest)
 refine ⟨fun sp rf t mm w' => ∃ k : Nat, t = k ∧ k ≤ xs.length ∧ mm = xs.length - k ∧ rf = (a.app (xs.map CV.c) k).2.2 ∧ Hp S w0 w' ([tW wb (a.app (xs.map CV.c) k).1, tBuf b L, tSl r 37 6 cdv xs, tAll ((xs.drop k).map tCV), tSl sp 33 2 ent (a.app (xs.map CV.c) k).2.1] ++ rest), ⟨xs.length, 0, rfl, by omega, rfl, rfl, h⟩, ?_⟩
 clear h
 rintro sp rf t mm w2 ⟨k, rfl, hk, rfl, rfl, h⟩
 obtain ⟨b1, b2, b3⟩ := app_bound a (xs.map CV.c) k
 by_cases hlt : k < xs.length
 ·refine ifT (by rw [decide_eq_true_iff]; omega) ?_
  have hy : xs[k]? = some xs[k] := List.getElem?_eq_getElem hlt
  have hym : xs[k].c ∈ xs.map CV.c := List.mem_map_of_mem (List.getElem_mem hlt)
  have hdr : xs.drop k = xs[k] :: xs.drop (k + 1) := List.drop_eq_getElem_cons hlt
  have happ : a.app (xs.map CV.c) (k + 1) = stepC (a.app (xs.map CV.c) k) k xs[k].c := by
   show (match (xs.map CV.c)[k]? with | none => _ | some c => _) = _
   rw [List.getElem?_map, hy]; rfl
  generalize xs[k] = y at hy hym hdr happ
  obtain ⟨hsm, hft⟩ := hCm y.c hym
  rw [hdr] at h
  refine h.ixr 2 (s := r) (l := xs) (f := cdv) (n := 6) (e := 37) rfl (by omega) (y := y) (by rw [Int.toNat_natCast]; exact hy) (fun _ => rfl) fun ad hc => ?_
  refine ldR0 (k := .i .i64) (x := y.c.op) (hc 0 (by omega)) rfl ?_
  refine ldR (k := .i .i64) (x := y.c.e1) (hc 1 (by omega)) rfl ?_
  refine ldR (k := .i .i64) (x := y.c.e2) (hc 2 (by omega)) rfl ?_
  refine ldR (k := .i .i64) (x := y.c.kd) (hc 3 (by omega)) rfl ?_
  refine ldR (k := .sl) (x := y.s) (hc 4 (by omega)) rfl ?_
  refine ldR (k := .sl) (x := y.p) (hc 5 (by omega)) rfl ?_
  have h := h.split (i := 3) (a := tCV y) (b := tAll ((xs.drop (k + 1)).map tCV)) rfl rfl (tAll_own _)
  have h := h.up (A := [tW wb (a.app (xs.map CV.c) k).1, tBuf b L, tSl r 37 6 cdv xs]) (B := tCV y :: tSl sp 33 2 ent (a.app (xs.map CV.c) k).2.1 :: rest)
  obtain ⟨its', e⟩ : ∃ its', its' = tW wb (a.app (xs.map CV.c) k).1 :: tBuf b L :: tSl r 37 6 cdv xs :: tAll ((xs.drop (k + 1)).map tCV) :: tCV y :: tSl sp 33 2 ent (a.app (xs.map CV.c) k).2.1 :: rest := ⟨_, rfl⟩
  have h : Hp S w0 w2 its' := by rw [e]; exact h
  refine h.nw fun bc w3 h => ?_
  refine h.st0 its'.length List.getElem?_concat_length (by simp) rfl fun w4 h => ?_
  rw [set_last] at h
  refine h.st its'.length (n := 1) List.getElem?_concat_length (by simp) rfl fun w5 h => ?_
  rw [set_last] at h
  refine h.st its'.length (n := 2) List.getElem?_concat_length (by simp) rfl fun w5 h => ?_
  rw [set_last] at h
  refine h.st its'.length (n := 3) List.getElem?_concat_length (by simp) rfl fun w5 h => ?_
  rw [set_last] at h
  refine h.st its'.length (n := 4) List.getElem?_concat_length (by simp) rfl fun w5 h => ?_
  rw [set_last] at h
  refine h.st its'.length (n := 5) List.getElem?_concat_length (by simp) rfl fun w6 h => ?_
  rw [set_last] at h
  have ek : IntKind.i64.wrap ((k : Int) + 1) = ((k + 1 : Nat) : Int) := by rw [wr64 (by omega) (by omega)]; rfl
  have er : IntKind.i64.wrap ((a.app (xs.map CV.c) k).2.2 + 1) = (a.app (xs.map CV.c) k).2.2 + 1 := wr64 (by omega) (by omega)
  rw [ek, er]
  by_cases h2k : 2000 ≤ k
  ·refine ifT (by rw [decide_eq_true_iff]; omega) ⟨xs.length - (k + 1), by omega, k + 1, rfl, by omega, rfl, ?_, ?_⟩
   ·rw [happ]; unfold stepC; rw [if_pos h2k]
   ·have h := h.front
    rw [e] at h
    rw [happ]; unfold stepC; rw [if_pos h2k]
    exact h.cutMid (A := [tW wb (a.app (xs.map CV.c) k).1, tBuf b L, tSl r 37 6 cdv xs, tAll ((xs.drop (k + 1)).map tCV)]) (B := [tCV y]) (C := tSl sp 33 2 ent (a.app (xs.map CV.c) k).2.1 :: rest)
  ·refine ifF (by rw [decide_eq_true_iff]; omega) ?_
   refine h.ld0 its'.length (k := .i .i64) (x := y.c.op) (by rw [List.getElem?_concat_length]; rfl) rfl ?_
   refine h.ld its'.length (n := 1) (k := .i .i64) (x := y.c.e1) (by rw [List.getElem?_concat_length]; rfl) rfl ?_
   refine h.ld its'.length (n := 2) (k := .i .i64) (x := y.c.e2) (by rw [List.getElem?_concat_length]; rfl) rfl ?_
   refine h.ld its'.length (n := 3) (k := .i .i64) (x := y.c.kd) (by rw [List.getElem?_concat_length]; rfl) rfl ?_
   refine h.ld its'.length (n := 4) (k := .sl) (x := y.s) (by rw [List.getElem?_concat_length]; rfl) rfl ?_
   refine h.ld its'.length (n := 5) (k := .sl) (x := y.p) (by rw [List.getElem?_concat_length]; rfl) rfl ?_
   have h := h.front
   rw [e] at h
   have h := h.split (i := 4) (a := tSl y.s 2 1 iv y.c.V) (b := tParts y.p y.c.P) rfl rfl rfl
   have hsp := h.len (s := sp) (e := 33) (n := 2) (f := ent) (l := (a.app (xs.map CV.c) k).2.1) 5 rfl
   refine does_spec h 0 4 _ (by omega) ?_ rfl rfl List.getElem?_concat_length hsm hft fun m w7 h => ?_
   ·simp
   by_cases hne : ((a.app (xs.map CV.c) k).1.doC y.c).2.2 = 0
   ·refine ifF (by simp [hne]) ?_
    have hm := h.len (s := m) (e := 33) (n := 2) (f := ent) (l := ((a.app (xs.map CV.c) k).1.doC y.c).2.1) _ (by rw [List.getElem?_concat_length]; rfl)
    have := doC_len (a.app (xs.map CV.c) k).1 y.c
    refine h.appS 5 _ (s := sp) (s2 := m) rfl List.getElem?_concat_length ⟨fun hO => ⟨_, SlF.toR hO⟩⟩ ent_len und61 i1 i3 i2 rfl (by simp [ent, Value.oneCell']) (by rw [i4]; omega) (by omega) fun sp2 w8 h _ _ => ?_
    refine ⟨xs.length - (k + 1), by omega, k + 1, rfl, by omega, rfl, ?_, ?_⟩
    ·rw [happ]; unfold stepC; rw [if_neg h2k, if_neg (by simp [hne])]
    ·rw [happ]; unfold stepC; rw [if_neg h2k, if_neg (by simp [hne])]
     have h : Hp S w0 w8 ((tW wb ((a.app (xs.map CV.c) k).1.doC y.c).1 :: tBuf b L :: tSl r 37 6 cdv xs :: tAll ((xs.drop (k + 1)).map tCV) :: tSl y.s 2 1 iv y.c.V :: tSl sp2 33 2 ent ((a.app (xs.map CV.c) k).2.1 ++ ((a.app (xs.map CV.c) k).1.doC y.c).2.1) :: rest) ++ [tParts y.p y.c.P] ++ [tSl m 33 2 ent ((a.app (xs.map CV.c) k).1.doC y.c).2.1]) := h
     have h := h.front.front
     exact h.cutMid (A := [_, _, _, _]) (B := [tSl y.s 2 1 iv y.c.V])
   ·refine ifT (by simp [hne]) ⟨xs.length - (k + 1), by omega, k + 1, rfl, by omega, rfl, ?_, ?_⟩
    ·rw [happ]; unfold stepC; rw [if_neg h2k, if_pos hne]
    ·rw [happ]; unfold stepC; rw [if_neg h2k, if_pos hne]
     have h : Hp S w0 w7 ((tW wb ((a.app (xs.map CV.c) k).1.doC y.c).1 :: tBuf b L :: tSl r 37 6 cdv xs :: tAll ((xs.drop (k + 1)).map tCV) :: tSl y.s 2 1 iv y.c.V :: tSl sp 33 2 ent (a.app (xs.map CV.c) k).2.1 :: rest) ++ [tParts y.p y.c.P] ++ [tSl m 33 2 ent ((a.app (xs.map CV.c) k).1.doC y.c).2.1]) := h
     have h := h.front.front
     exact h.cutMid (A := [_, _, _, _]) (B := [tSl y.s 2 1 iv y.c.V])
 ·refine ifF (by rw [decide_eq_true_iff]; omega) ?_
  obtain rfl : k = xs.length := by omega
  refine hK sp w2 ?_
  exact h.cutMid (A := [tW wb (a.app (xs.map CV.c) xs.length).1, tBuf b L]) (B := [tSl r 37 6 cdv xs, tAll ((xs.drop xs.length).map tCV)]) (C := tSl sp 33 2 ent (a.app (xs.map CV.c) xs.length).2.1 :: rest)
end
def exL : List BE := [(1, 5, ⟨2, 0, 1, 0, [], []⟩), (0, 9, ⟨1, 0, 0, 0, [], [(2, [7])]⟩)]
theorem exS : sorted exL = [⟨1, 0, 0, 0, [], [(2, [7])]⟩, ⟨2, 0, 1, 0, [], []⟩] := rfl
def exA1 : ASt := (WA.new ksK).app [⟨1, 0, 0, 0, [], [(2, [7])]⟩, ⟨2, 0, 1, 0, [], []⟩] 2
theorem exA2 : exA1.2 = ([(0, 1)], 0) := by decide
theorem exA3 : (exA1.1.row (0, 1)).isSome = false := by decide
def exC2 : Cmd := ⟨1, 0, 0, 0, [], [(2, [7])]⟩
def exC1 : Cmd := ⟨2, 0, 1, 0, [], []⟩
theorem exSmall : ∀ x ∈ exL, x.2.2.Small := fun x hx => by
 simp only [exL, List.mem_cons, List.not_mem_nil, or_false] at hx
 rcases hx with rfl | rfl
 ·exact ⟨by simp, by simp, by simp⟩
 ·exact ⟨by simp, by simp, by simp⟩
theorem exFit : ∀ x ∈ exL, x.2.2.Fit := fun x hx => by
 simp only [exL, List.mem_cons, List.not_mem_nil, or_false] at hx
 rcases hx with rfl | rfl
 ·exact ⟨by simp, by simp [FP.R64], by simp⟩
 ·exact ⟨by simp, by simp [FP.R64], by simp [FP.R64]⟩
def whoL (l : List Int) (n : Int) : Int := l.getD (Int.tmod n l.length).toNat 0
section
variable {S : List Nat} {w0 w : World} {its : List Thing}
theorem newKs (h : Hp S w0 w its) {K : Option Addr → Int → World → Prop} (hK : ∀ sk b w', Hp S w0 w' (its ++ [tKinds sk ksK, tW b (WA.new ksK)]) → K (some ⟨b, 0, none⟩) 0 w') : c12 w fun r w => c11 r w K := by
 refine ks_spec h fun sk w1 h => ?_
 refine New_W h its.length (s := sk) (l := ksK) List.getElem?_concat_length (by decide) (fun x hx => ?_) (fun _ b w3 h => ?_) (fun hno => absurd may_ksK hno)
 ·simp only [ksK, List.mem_cons, List.not_mem_nil, or_false] at hx
  rcases hx with rfl | rfl | rfl
  ·exact ⟨by decide, by decide⟩
  ·exact ⟨by decide, by decide⟩
  ·exact ⟨by decide, by decide⟩
 ·rw [List.append_assoc] at h
  exact hK sk b w3 h
theorem who_spec (h : Hp S w0 w its) (i j : Nat) {s x : Sl} {l m : List Int} (hi : (its[i]?).map Thing.holds = some (tRd s 1 iv l).holds) (hj : (its[j]?).map Thing.holds = some (tRd x 1 iv m).holds) {n : Int} (hn : 0 ≤ n) {K : Int → Int → World → Prop} (hK : K (whoL l n) (whoL m n) w) : c13 s x n w K := by
 refine c13_of ?_
 unfold f13
 have hsl := h.lenR (s := s) (n := 1) (f := iv) (l := l) i hi
 have hxl := h.lenR (s := x) (n := 1) (f := iv) (l := m) j hj
 have key : ∀ (l : List Int), 0 < l.length → 0 ≤ Int.tmod n l.length ∧ (Int.tmod n l.length).toNat < l.length ∧ l[(Int.tmod n l.length).toNat]? = some (whoL l n) := fun l hl => by
  have h1 : 0 ≤ Int.tmod n l.length := Int.tmod_nonneg _ hn
  have h2 : Int.tmod n l.length < l.length := Int.tmod_lt_of_pos _ (by omega)
  have h3 : (Int.tmod n l.length).toNat < l.length := by omega
  refine ⟨h1, h3, ?_⟩
  unfold whoL
  rw [List.getD_eq_getElem?_getD, List.getElem?_eq_getElem h3]; rfl
 refine ⟨fun a w' => a = whoL l n ∧ w' = w, ?_, ?_⟩
 ·by_cases hl : 0 < l.length
  ·refine ifT (by simp; omega) ⟨by omega, ?_⟩
   obtain ⟨h1, h2, h3⟩ := key l hl
   rw [hsl] at h1 h3
   exact h.ixldR (k := .i .i64) (y := whoL l n) (x := whoL l n) i hi h1 h3 iv_len rfl ⟨rfl, rfl⟩
  ·refine ifF (by simp; omega) ⟨?_, rfl⟩
   have : l = [] := List.length_eq_zero_iff.1 (by omega)
   rw [this]; rfl
 rintro a w' ⟨rfl, rfl⟩
 by_cases hl : 0 < m.length
 ·refine ifT (by simp; omega) ⟨by omega, ?_⟩
  obtain ⟨h1, h2, h3⟩ := key m hl
  rw [hxl] at h1 h3
  exact h.ixldR (k := .i .i64) (y := whoL m n) (x := whoL m n) j hj h1 h3 iv_len rfl hK
 ·refine ifF (by simp; omega) ?_
  have : m = [] := List.length_eq_zero_iff.1 (by omega)
  rw [this] at hK
  exact hK
set_option maxHeartbeats 4000000 in
theorem shown_spec (h0 : Hp S w0 w its) {K : Bool → World → Prop} (hK : ∀ w', Hp S w0 w' its → K true w') : c6 w K := by
 refine c6_of ?_
 unfold f6
 refine BNew_spec (Hp.begin_ w) fun b w1 h => ?_
 refine newKs h fun sk wb w2 h => ?_
 refine ifF (by simp) ?_
 have h := (h.nil 2 1 iv).nest_nil 62 2 pdv tV pvis
 have h : Hp [] w w2 [tBuf b [], tKinds sk ksK, tW wb (WA.new ksK), tSl ⟨none, 0, 0⟩ 2 1 iv [], tParts ⟨none, 0, 0⟩ []] := h
 refine Put_spec h 2 3 (V := []) (P := []) rfl Hp.rdSl.rd rfl rdP_of (by simp) (by simp) (by simp) (fun hf => absurd hf (by simp)) fun _ w3 h => ?_
 refine h.nwS (l := [(7 : Int)]) (f := iv) (n := 1) (c := [_]) rfl rfl iv_len fun b1 w4 h => ?_
 refine h.nwS (l := [((2, ⟨some ⟨b1, 0, none⟩, 1, 1⟩, [7]) : PV)]) (f := pdv) (n := 2) (c := [_, _]) rfl rfl pdv_len fun b3 w5 h => ?_
 have h : Hp [] w w5 ([tBuf b [(1, 5, ⟨2, 0, 1, 0, [], []⟩)], tKinds sk ksK, tW wb (WA.new ksK), tSl ⟨none, 0, 0⟩ 2 1 iv [], tParts ⟨none, 0, 0⟩ []] ++ [tSl ⟨some ⟨b1, 0, none⟩, 1, 1⟩ 2 1 iv [7]] ++ [tSl ⟨some ⟨b3, 0, none⟩, 1, 1⟩ 62 2 pdv [((2, ⟨some ⟨b1, 0, none⟩, 1, 1⟩, [7]) : PV)]]) := h
 have h := h.swap2
 rw [List.append_assoc] at h
 have h := h.nest_make (vis := pvis) (sub := tV) rfl
 have h : Hp [] w w5 [tBuf b [(1, 5, ⟨2, 0, 1, 0, [], []⟩)], tKinds sk ksK, tW wb (WA.new ksK), tSl ⟨none, 0, 0⟩ 2 1 iv [], tParts ⟨none, 0, 0⟩ [], tParts ⟨some ⟨b3, 0, none⟩, 1, 1⟩ [(2, [7])]] := h
 refine Put_spec h 2 4 (V := []) (P := [(2, [7])]) rfl Hp.rdSl.rd rfl rdP_of (by simp) (by simp) (by simp) (fun hf => absurd hf (by simp)) fun _ w6 h => ?_
 have h : Hp [] w w6 [tBuf b exL, tKinds sk ksK, tW wb (WA.new ksK), tSl ⟨none, 0, 0⟩ 2 1 iv [], tParts ⟨none, 0, 0⟩ [], tParts ⟨some ⟨b3, 0, none⟩, 1, 1⟩ [(2, [7])]] := h
 refine All_spec h 0 rfl (by simp [exL]) exSmall fun l w7 h => ?_
 rw [exS] at h
 have h : Hp [] w w7 [tBuf b exL, tKinds sk ksK, tW wb (WA.new ksK), tSl ⟨none, 0, 0⟩ 2 1 iv [], tParts ⟨none, 0, 0⟩ [], tParts ⟨some ⟨b3, 0, none⟩, 1, 1⟩ [(2, [7])], tCmds l [exC2, exC1]] := h
 have h := h.selL [2, 0, 6] (by decide) (ts := [tW wb (WA.new ksK), tBuf b exL, tCmds l [exC2, exC1]]) rfl
 refine Apply_spec h (by simp [exL]) exSmall exFit fun m w8 h => ?_
 rw [exS] at h ⊢
 have h : Hp [] w w8 [tW wb exA1.1, tBuf b exL, tSl m 33 2 ent exA1.2.1, tCmds l [exC2, exC1]] := h
 have eR : ((WA.new ksK).app [⟨1, 0, 0, 0, [], [(2, [7])]⟩, ⟨2, 0, 1, 0, [], []⟩] exL.length).2.2 = 0 := by
  show exA1.2.2 = 0
  rw [exA2]
 rw [eR]
 rw [exA2] at h
 obtain ⟨xs, hxs, h⟩ := h.nest_open (i := 3) rfl
 have hxl : xs.length = 2 := by have := congrArg List.length hxs; simpa using this
 match xs, hxl with
 | [x2, x1], _ =>
  simp only [List.map_cons, List.map_nil, List.cons.injEq, and_true] at hxs
  have h : Hp [] w w8 ([tW wb exA1.1, tBuf b exL, tSl m 33 2 ent [(0, 1)], tSl l 37 6 cdv [x2, x1]] ++ [tAll ([x2, x1].map tCV)]) := h
  have hll := h.len (s := l) (e := 37) (n := 6) (f := cdv) (l := [x2, x1]) 3 rfl
  have hml := h.len (s := m) (e := 33) (n := 2) (f := ent) (l := [((0, 1) : Ent)]) 2 rfl
  simp only [List.length_cons, List.length_nil] at hll hml
  refine ifT rfl (ifT rfl (ifT (by rw [← hll]; rfl) ?_))
  refine h.ixr 3 (s := l) (l := [x2, x1]) (f := cdv) (n := 6) (e := 37) rfl (by omega) (y := x2) rfl (fun _ => rfl) fun ad hc => ?_
  refine ldR0 (k := .i .i64) (x := x2.c.op) (hc 0 (by omega)) rfl ?_
  refine ifT (by rw [hxs.1]; rfl) ?_
  refine h.ixr 3 (s := l) (l := [x2, x1]) (f := cdv) (n := 6) (e := 37) rfl (by omega) (y := x1) rfl (fun _ => rfl) fun ad hc => ?_
  refine ldR0 (k := .i .i64) (x := x1.c.op) (hc 0 (by omega)) rfl ?_
  refine ifT (by rw [hxs.2]; rfl) (ifT (by rw [← hml]; rfl) ?_)
  refine h.ixr 2 (s := m) (l := [((0, 1) : Ent)]) (f := ent) (n := 2) (e := 33) rfl (by omega) (y := (0, 1)) rfl ent_len fun ad hc => ?_
  refine ldR0 (k := .i .i64) (x := (0 : Int)) (hc 0 (by omega)) rfl ?_
  refine ldR (k := .i .i64) (x := (1 : Int)) (hc 1 (by omega)) rfl ?_
  refine FT.eqEnt (ifT rfl (ifT rfl ?_))
  refine h.ixr 2 (s := m) (l := [((0, 1) : Ent)]) (f := ent) (n := 2) (e := 33) rfl (by omega) (y := (0, 1)) rfl ent_len fun ad hc => ?_
  refine ldR0 (k := .i .i64) (x := (0 : Int)) (hc 0 (by omega)) rfl ?_
  refine ldR (k := .i .i64) (x := (1 : Int)) (hc 1 (by omega)) rfl ?_
  refine Lives_W h 0 (a := exA1.1) (e := (0, 1)) rfl fun w9 h => ?_
  rw [exA3]
  have := h0.r0 (rest := []) rfl (h.trim 0)
  rw [List.append_nil] at this
  exact hK w9 this
end
end Go.Proofs.Ythmbjlpgbkkjjaa.FW
end

section
namespace Go.Proofs.Ythmbjlpgbkkjjaa.FW
open FS (Swo Srt Same same_swap alike sortF insF sortF_srt sortF_same sortF_mem insF_mem sortF_len srt_uniq)
theorem swoB : Swo ltB where
 asymm := by
  intro x y h
  unfold ltB at h ⊢
  have h := of_decide_eq_true h
  refine decide_eq_false ?_
  omega
 trans := by
  intro x y z h h'
  unfold ltB at h h' ⊢
  have h := of_decide_eq_false h
  have h' := of_decide_eq_false h'
  refine decide_eq_false ?_
  omega
def mkB (g : Int → Int × Int) (i : Int) : BE := ((g i).1, (g i).2, ⟨4, 0, 0, i, [], []⟩)
def QB (x y : BE) : Prop := ltB x y = true ∨ (ltB y x = false ∧ x.2.2.kd < y.2.2.kd)
theorem insF_pw {x : BE} : ∀ {l : List BE}, l.Pairwise QB → (∀ y ∈ l, x.2.2.kd < y.2.2.kd) → (insF id ltB x l).Pairwise QB
 | [], _, _ => by simp [insF]
 | y :: l, h, hx => by
  obtain ⟨h1, h2⟩ := List.pairwise_cons.1 h
  unfold insF
  by_cases hl : ltB (id y) (id x) = true
  ·rw [if_pos hl]
   refine List.pairwise_cons.2 ⟨fun z hz => ?_, insF_pw h2 fun z hz => hx z (List.mem_cons_of_mem _ hz)⟩
   rcases insF_mem.1 hz with rfl | hz
   ·exact .inl hl
   ·exact h1 z hz
  ·rw [if_neg hl]
   have hl : ltB y x = false := by simpa using hl
   refine List.pairwise_cons.2 ⟨fun z hz => ?_, h⟩
   refine .inr ⟨?_, hx z hz⟩
   rcases List.mem_cons.1 hz with rfl | hz'
   ·exact hl
   ·have hq : ltB z y = false := by
     rcases h1 z hz' with g | ⟨g, _⟩
     ·exact swoB.asymm g
     ·exact g
    exact swoB.trans hl hq
theorem sortF_pw : ∀ {l : List BE}, l.Pairwise (fun x y => x.2.2.kd < y.2.2.kd) → (sortF id ltB l).Pairwise QB
 | [], _ => List.Pairwise.nil
 | x :: l, h => by
  obtain ⟨h1, h2⟩ := List.pairwise_cons.1 h
  exact insF_pw (sortF_pw h2) fun y hy => h1 y (sortF_mem.1 hy)
def rowN (n : Nat) : List Int := (List.range n).map fun i : Nat => (i : Int)
theorem rowN_len (n : Nat) : (rowN n).length = n := by simp [rowN]
theorem rowN_succ (n : Nat) : rowN (n + 1) = rowN n ++ [(n : Int)] := by simp [rowN, List.range_succ]
theorem rowN_mem {n : Nat} {x : Int} (h : x ∈ rowN n) : 0 ≤ x ∧ x < n := by
 obtain ⟨i, hi, rfl⟩ := List.mem_map.1 h
 have := List.mem_range.1 hi
 omega
theorem rowN_pw (g : Int → Int × Int) : ∀ n, ((rowN n).map (mkB g)).Pairwise fun x y => x.2.2.kd < y.2.2.kd
 | 0 => List.Pairwise.nil
 | n + 1 => by
  rw [rowN_succ, List.map_append]
  refine List.pairwise_append.2 ⟨rowN_pw g n, by simp, fun x hx y hy => ?_⟩
  obtain ⟨i, hi, rfl⟩ := List.mem_map.1 hx
  simp only [List.map_cons, List.map_nil, List.mem_singleton] at hy
  subst hy
  have := rowN_mem hi
  show i < (n : Int)
  omega
theorem order_two {g : Int → Int × Int} {n k : Nat} {c d : Cmd} (hc : (sorted ((rowN n).map (mkB g)))[k]? = some c) (hd : (sorted ((rowN n).map (mkB g)))[k + 1]? = some d) :
  (g c.kd).1 < (g d.kd).1 ∨ (g c.kd).1 = (g d.kd).1 ∧ ((g c.kd).2 < (g d.kd).2 ∨ (g c.kd).2 = (g d.kd).2 ∧ c.kd < d.kd) := by
 unfold sorted at hc hd
 have hp := sortF_pw (rowN_pw g n)
 have hmk : ∀ z ∈ sortF id ltB ((rowN n).map (mkB g)), z = mkB g z.2.2.kd := fun z hz => by
  obtain ⟨i, _, rfl⟩ := List.mem_map.1 (sortF_mem.1 hz)
  rfl
 generalize sortF id ltB ((rowN n).map (mkB g)) = Z at hc hd hp hmk
 rw [List.getElem?_map] at hc hd
 cases e1 : Z[k]? with
 | none => rw [e1] at hc; cases hc
 | some x =>
  cases e2 : Z[k + 1]? with
  | none => rw [e2] at hd; cases hd
  | some y =>
   rw [e1] at hc; rw [e2] at hd
   obtain rfl : x.2.2 = c := by simpa using hc
   obtain rfl : y.2.2 = d := by simpa using hd
   obtain ⟨k1, hx⟩ := List.getElem?_eq_some_iff.1 e1
   obtain ⟨k2, hy⟩ := List.getElem?_eq_some_iff.1 e2
   have := List.pairwise_iff_getElem.1 hp k (k + 1) k1 k2 (by omega)
   rw [hx, hy] at this
   have mx := hmk x (List.mem_of_getElem? e1)
   have my := hmk y (List.mem_of_getElem? e2)
   have x1 : x.1 = (g x.2.2.kd).1 := congrArg (·.1) mx
   have x2 : x.2.1 = (g x.2.2.kd).2 := congrArg (·.2.1) mx
   have y1 : y.1 = (g y.2.2.kd).1 := congrArg (·.1) my
   have y2 : y.2.1 = (g y.2.2.kd).2 := congrArg (·.2.1) my
   rw [← x1, ← x2, ← y1, ← y2]
   rcases this with h | ⟨h, h'⟩
   ·have := of_decide_eq_true h; omega
   ·have := of_decide_eq_false h; omega
theorem order_len (g : Int → Int × Int) (n : Nat) : (sorted ((rowN n).map (mkB g))).length = n := by
 unfold sorted; rw [List.length_map, sortF_len, List.length_map, rowN_len]
theorem order_rng {g : Int → Int × Int} {n : Nat} {c : Cmd} (h : c ∈ sorted ((rowN n).map (mkB g))) : c.op = 4 ∧ 0 ≤ c.kd ∧ c.kd < n := by
 obtain ⟨x, hx, rfl⟩ := List.mem_map.1 h
 obtain ⟨i, hi, rfl⟩ := List.mem_map.1 (sortF_mem.1 hx)
 have := rowN_mem hi
 exact ⟨rfl, this⟩
theorem mkB_small {g : Int → Int × Int} {R : List Int} : ∀ x ∈ R.map (mkB g), x.2.2.Small := fun x hx => by
 obtain ⟨i, _, rfl⟩ := List.mem_map.1 hx
 exact ⟨by simp [mkB], by simp [mkB], by simp [mkB]⟩
end Go.Proofs.Ythmbjlpgbkkjjaa.FW
end

section
namespace Go.Proofs.Ythmbjlpgbkkjjaa.FW
open F
open Go Go.Den Go.Proofs
open FS (Same)
open FI (PoolM tPool)
open FT (TabM tTab Ent entV ent ent_len atI keyEnt iv iv_len)
theorem app_refused {a : WA} (hr : ∀ e, a.row e = none) {L : List Cmd} (hL : ∀ c ∈ L, c.op = 4) : ∀ k, k ≤ L.length → a.app L k = (a, [], (k : Int))
 | 0, _ => rfl
 | k + 1, h => by
  have ih := app_refused hr hL k (by omega)
  have e : L[k]? = some L[k] := List.getElem?_eq_getElem (by omega)
  have ho := hL L[k] (List.getElem_mem (by omega))
  show (match L[k]? with | none => WA.app a L k | some c => stepC (WA.app a L k) k c) = _
  rw [e, ih]
  generalize L[k] = c at ho
  have hd : a.doC c = (a, [], 41) := by
   unfold WA.doC
   rw [if_neg (by omega), if_neg (by omega), if_neg (by omega), if_pos ho]
   have ha : a.ask (c.e1, c.e2) c.kd = (([], 0, 0), 41) := by unfold WA.ask; rw [hr]
   have : a.remove (c.e1, c.e2) c.kd = (a, 41) := by unfold WA.remove; rw [ha]; rfl
   rw [this]
  dsimp only
  unfold stepC
  dsimp only
  rw [hd]
  split
  ·rfl
  ·rw [if_pos (show (41 : Int) ≠ 0 by decide)]; rfl
theorem mkB_fit {g : Int → Int × Int} {N : Nat} (hN : N ≤ 1000000) : ∀ x ∈ (rowN N).map (mkB g), x.2.2.Fit := fun x hx => by
 obtain ⟨i, hi, rfl⟩ := List.mem_map.1 hx
 have := rowN_mem hi
 exact ⟨⟨by show -9223372036854775808 ≤ i; omega, by show i ≤ 9223372036854775807; omega⟩, by simp [mkB, FP.R64], by simp [mkB]⟩
set_option maxHeartbeats 8000000 in
theorem full_spec {systems indexes : Sl} {ss xx : List Int} {os ox : List Nat} {more : Int} {w : World} {K : Bool → World → Prop} (hs : SlR w systems 1 iv ss os) (hx : SlR w indexes 1 iv xx ox)
  (hK : ∀ w', Fr [] w w' → K true w') : c4 systems indexes more w K := by
 refine c4_of ?_
 unfold f4
 generalize hM : (100000 : Int) = M
 have h := Hp.begin_ w
 have h := (h.addRo (t := tRd systems 1 iv ss) hs (by simp)).addRo (t := tRd indexes 1 iv xx) hx (by simp)
 refine shown_spec h fun w1 h => ?_
 refine BNew_spec h fun b w2 h => ?_
 refine newKs h fun sk wb w3 h => ?_
 refine ifF (by simp) ?_
 have h := (h.nil 2 1 iv).nest_nil 62 2 pdv tV pvis
 have h : Hp [] w w3 [tBuf b [], (tRd systems 1 iv ss).ro, (tRd indexes 1 iv xx).ro, tKinds sk ksK, tW wb (WA.new ksK), tSl ⟨none, 0, 0⟩ 2 1 iv [], tParts ⟨none, 0, 0⟩ []] := h
 have h := h.selL [0, 1, 2, 4, 5, 6] (by decide) (ts := [tBuf b [], (tRd systems 1 iv ss).ro, (tRd indexes 1 iv xx).ro, tW wb (WA.new ksK), tSl ⟨none, 0, 0⟩ 2 1 iv [], tParts ⟨none, 0, 0⟩ []]) rfl
 obtain ⟨N, hN⟩ : ∃ N : Nat, (N : Int) = M := ⟨100000, hM⟩
 obtain ⟨g, hg⟩ : ∃ g : Int → Int × Int, g = fun i => (whoL ss i, whoL xx i) := ⟨_, rfl⟩
 refine ⟨fun t mm w' => ∃ (k : Nat), t = k ∧ k ≤ N ∧ mm = N - k ∧ Hp [] w w' [tBuf b ((rowN k).map (mkB g)), (tRd systems 1 iv ss).ro, (tRd indexes 1 iv xx).ro, tW wb (WA.new ksK), tSl ⟨none, 0, 0⟩ 2 1 iv [], tParts ⟨none, 0, 0⟩ []],
  ⟨N, 0, rfl, by omega, rfl, h⟩, ?_⟩
 clear h
 intro t mm w4 hh
 obtain ⟨k, ht, hk, hmm, h⟩ := hh
 subst ht
 subst hmm
 have hLl : ((rowN k).map (mkB g)).length = k := by rw [List.length_map, rowN_len]
 by_cases hlt : k < N
 ·refine ifT (by simp; omega) ?_
  refine who_spec h 1 2 rfl rfl (by omega) ?_
  refine Put_spec h 3 4 (V := []) (P := []) rfl Hp.rdSl.rd rfl rdP_of (by simp) (by simp) (by simp) (fun hf => absurd hf (by omega)) fun _ w5 h => ?_
  refine ifF (by simp) ⟨N - (k + 1), by omega, k + 1, by rw [wr64 (by omega) (by omega)]; rfl, by omega, rfl, ?_⟩
  have e : (rowN (k + 1)).map (mkB g) = (rowN k).map (mkB g) ++ [(whoL ss k, whoL xx k, ⟨4, 0, 0, k, [], []⟩)] := by
   rw [rowN_succ, List.map_append, hg]; rfl
  rw [e]
  exact h
 refine ifF (by simp; omega) ?_
 obtain rfl : k = N := by omega
 refine ⟨fun t mm w' => ∃ (j : Nat), t = j ∧ j ≤ 3 ∧ mm = 3 - j ∧ Hp [] w w' [tBuf b ((rowN k).map (mkB g)), (tRd systems 1 iv ss).ro, (tRd indexes 1 iv xx).ro, tW wb (WA.new ksK), tSl ⟨none, 0, 0⟩ 2 1 iv [], tParts ⟨none, 0, 0⟩ []],
  ⟨3, 0, rfl, by omega, rfl, h⟩, ?_⟩
 clear h
 rintro t mm w5 ⟨j, rfl, hj, rfl, h⟩
 by_cases hj3 : j < 3
 ·refine ifT (by simp; omega) ?_
  refine Put_spec h 3 4 (V := []) (P := []) rfl Hp.rdSl.rd rfl rdP_of (by simp) (by simp) (by simp) (fun _ w6 h => ?_) fun hf => absurd hf (by omega)
  exact ifF (by simp) ⟨3 - (j + 1), by omega, j + 1, by rw [wr64 (by omega) (by omega)]; rfl, by omega, rfl, h⟩
 refine ifF (by simp; omega) ?_
 have h := h.selL [3, 0, 1, 2] (by decide) (ts := [tW wb (WA.new ksK), tBuf b ((rowN k).map (mkB g)), (tRd systems 1 iv ss).ro, (tRd indexes 1 iv xx).ro]) rfl
 have hCl := order_len g k
 have hCr : ∀ c ∈ sorted ((rowN k).map (mkB g)), c.op = 4 ∧ 0 ≤ c.kd ∧ c.kd < k := fun c hc => order_rng hc
 have hC2 : ∀ (j : Nat) c d, (sorted ((rowN k).map (mkB g)))[j]? = some c → (sorted ((rowN k).map (mkB g)))[j + 1]? = some d → (g c.kd).1 < (g d.kd).1 ∨ (g c.kd).1 = (g d.kd).1 ∧ ((g c.kd).2 < (g d.kd).2 ∨ (g c.kd).2 = (g d.kd).2 ∧ c.kd < d.kd) := fun j c d => order_two
 have happ : (WA.new ksK).app (sorted ((rowN k).map (mkB g))) ((rowN k).map (mkB g)).length = (WA.new ksK, [], (k : Int)) := by
  rw [hLl]
  exact app_refused (fun _ => rfl) (fun c hc => (hCr c hc).1) k (by omega)
 refine Apply_spec h (by omega) mkB_small (mkB_fit (by omega)) fun m w6 h => ?_
 rw [happ] at h ⊢
 have h : Hp [] w w6 [tW wb (WA.new ksK), tBuf b ((rowN k).map (mkB g)), tSl m 33 2 ent [], (tRd systems 1 iv ss).ro, (tRd indexes 1 iv xx).ro] := h
 have hml := h.len (s := m) (e := 33) (n := 2) (f := ent) (l := []) 2 rfl
 refine ⟨fun w' => Hp [] w w' [tW wb (WA.new ksK), tBuf b ((rowN k).map (mkB g)), tSl m 33 2 ent [], (tRd systems 1 iv ss).ro, (tRd indexes 1 iv xx).ro], ?_, ?_⟩
 ·refine ifF (by rw [← hml]; decide) (ifF (by rw [← hN]; simp) ?_)
  refine Rows_W h 0 rfl fun sr w7 h => ?_
  have hrl := (h.nest_see (s := sr) 5 rfl).1
  refine ifF (by rw [← hrl]; simp [WA.rows, WA.all, WA.new, FI.PoolM.allU]) (h.trim 5)
 clear h
 intro w7 h
 refine All_spec h 1 rfl (by omega) mkB_small fun l w8 h => ?_
 generalize sorted ((rowN k).map (mkB g)) = CS at h hCl hCr hC2
 have h := h.selL [3, 4, 5] (by decide) (ts := [(tRd systems 1 iv ss).ro, (tRd indexes 1 iv xx).ro, tCmds l CS]) rfl
 obtain ⟨xs, hxs, h⟩ := h.nest_open (i := 2) rfl
 have h := h.trim 3
 have h : Hp [] w w8 [(tRd systems 1 iv ss).ro, (tRd indexes 1 iv xx).ro, tSl l 37 6 cdv xs] := h
 have hll := h.len (s := l) (e := 37) (n := 6) (f := cdv) (l := xs) 2 rfl
 have hxl : xs.length = k := by rw [← hCl, ← hxs, List.length_map]
 refine ifF (by rw [← hll, hxl, hN]; simp) ?_
 refine ⟨fun t mm w' => ∃ (j : Nat), t = j ∧ j ≤ k ∧ mm = k - j ∧ Hp [] w w' [(tRd systems 1 iv ss).ro, (tRd indexes 1 iv xx).ro, tSl l 37 6 cdv xs], ⟨k, 0, rfl, by omega, rfl, h⟩, ?_⟩
 clear h
 rintro t mm w10 ⟨j, rfl, hj, rfl, h⟩
 by_cases hlt : j < k
 ·refine ifT (by rw [← hll, hxl]; simp; omega) ?_
  have hx : xs[j]? = some xs[j] := List.getElem?_eq_getElem (by omega)
  generalize xs[j] = x at hx
  have ex : CS[j]? = some x.c := by rw [← hxs, List.getElem?_map, hx]; rfl
  obtain ⟨c4, c1, c2⟩ := hCr x.c (List.mem_of_getElem? ex)
  have kd : ∀ {its : List Thing} {w' : World} {K : Int → Prop}, Hp [] w w' ([(tRd systems 1 iv ss).ro, (tRd indexes 1 iv xx).ro, tSl l 37 6 cdv xs] ++ its) → K x.c.kd → Ix l.a l.len (j : Int) 6 fun a => Ld (.i .i64) w' (a.add 3) K := fun {its w' K} h hk =>
   h.ixr 2 (s := l) (l := xs) (f := cdv) (n := 6) (e := 37) rfl (by omega) (y := x) (by rw [Int.toNat_natCast]; exact hx) (fun _ => rfl) fun ad hc => ldR (k := .i .i64) (x := x.c.kd) (hc 3 (by omega)) rfl hk
  have ej : IntKind.i64.wrap ((j : Int) + 1) = ((j + 1 : Nat) : Int) := by rw [wr64 (by omega) (by omega)]; rfl
  rw [ej]
  refine ⟨fun w' => Hp [] w w' [(tRd systems 1 iv ss).ro, (tRd indexes 1 iv xx).ro, tSl l 37 6 cdv xs], ?_, ?_⟩
  ·refine h.ixr 2 (s := l) (l := xs) (f := cdv) (n := 6) (e := 37) rfl (by omega) (y := x) (by rw [Int.toNat_natCast]; exact hx) (fun _ => rfl) fun ad hc => ldR0 (k := .i .i64) (x := x.c.op) (hc 0 (by omega)) rfl ?_
   exact ifF (by rw [c4]; decide) (kd (its := []) h (ifF (by simp; omega) (kd (its := []) h (ifF (by simp; omega) h))))
  clear h
  intro w11 h
  by_cases hj0 : j = 0
  ·exact ifT (by simp [hj0]) ⟨k - (j + 1), by omega, j + 1, rfl, by omega, rfl, h⟩
  refine ifF (by simp; omega) ?_
  obtain ⟨i, rfl⟩ : ∃ i, j = i + 1 := ⟨j - 1, by omega⟩
  have ei : IntKind.i64.wrap (((i + 1 : Nat) : Int) - 1) = (i : Int) := by rw [wr64 (by omega) (by omega)]; omega
  rw [ei]
  have hz : xs[i]? = some xs[i] := List.getElem?_eq_getElem (by omega)
  generalize xs[i] = z at hz
  have ez : CS[i]? = some z.c := by rw [← hxs, List.getElem?_map, hz]; rfl
  obtain ⟨_, z1, z2⟩ := hCr z.c (List.mem_of_getElem? ez)
  have two := hC2 i _ _ ez ex
  rw [hg] at two
  dsimp only at two
  have kz : ∀ {w' : World} {K : Int → Prop}, Hp [] w w' [(tRd systems 1 iv ss).ro, (tRd indexes 1 iv xx).ro, tSl l 37 6 cdv xs] → K z.c.kd → Ix l.a l.len (i : Int) 6 fun a => Ld (.i .i64) w' (a.add 3) K := fun {w' K} h hk =>
   h.ixr 2 (s := l) (l := xs) (f := cdv) (n := 6) (e := 37) rfl (by omega) (y := z) (by rw [Int.toNat_natCast]; exact hz) (fun _ => rfl) fun ad hc => ldR (k := .i .i64) (x := z.c.kd) (hc 3 (by omega)) rfl hk
  refine kz h ?_
  refine who_spec h 0 1 rfl rfl z1 ?_
  refine kd (its := []) h ?_
  refine who_spec h 0 1 rfl rfl c1 ?_
  refine h.dr fun w12 h => ?_
  generalize whoL ss z.c.kd = sa at two ⊢
  generalize whoL xx z.c.kd = ia at two ⊢
  generalize whoL ss x.c.kd = sb at two ⊢
  generalize whoL xx x.c.kd = ib at two ⊢
  have go : ∃ m9 : Nat, m9 < k - (i + 1) ∧ ∃ (j : Nat), (((i + 1 + 1 : Nat) : Int)) = j ∧ j ≤ k ∧ m9 = k - j ∧ Hp [] w w12 [(tRd systems 1 iv ss).ro, (tRd indexes 1 iv xx).ro, tSl l 37 6 cdv xs] := ⟨k - (i + 1 + 1), by omega, i + 1 + 1, rfl, by omega, rfl, h⟩
  refine ifF (by simp; omega) ?_
  by_cases he : sa = sb
  ·refine ifT (by simp [he]) (ifF (by simp; omega) (ifT (by simp [he]) ?_))
   by_cases hi : ia = ib
   ·refine ifT (by simp [hi]) ?_
    exact kz h (kd (its := []) h (ifF (by simp; omega) go))
   ·exact ifF (by simp [hi]) go
  ·exact ifF (by simp [he]) (ifF (by simp [he]) go)
 refine ifF (by rw [← hll, hxl]; simp; omega) ?_
 exact hK w10 h.1
end Go.Proofs.Ythmbjlpgbkkjjaa.FW
end

section
namespace Go.Proofs.Ythmbjlpgbkkjjaa.FW
open F
open Go Go.Den Go.Proofs Go.RowKit
open FT (Ent ent ent_len iv iv_len)
theorem und23s : Try.prog.underlying 23 = some (.slice 3) := by kernel_rfl
theorem undI3 : Try.prog.underlying 3 = some (.int .i64) := by kernel_rfl
theorem cel3 : Try.prog.cellsOf 3 = 1 := by kernel_rfl
theorem wf_rng {x : Int} (h : (Lit.int .i64 x).wf = true) : -9223372036854775808 ≤ x ∧ x ≤ 9223372036854775807 := by
 have hm : IntKind.i64.min ≤ x ∧ x ≤ IntKind.i64.max := by simpa [Lit.wf] using h
 have h1 : IntKind.i64.min = -9223372036854775808 := by decide
 have h2 : IntKind.i64.max = 9223372036854775807 := by decide
 omega
theorem dec_ints {w : World} {B n : Nat} {a : Option Addr} {len cap : Nat} (h : RdV Try.prog w B n 23 [.slice a len cap]) : ∃ (l : List Int) (o : List Nat), SlR w ⟨a, len, cap⟩ 1 iv l o ∧ ∀ x ∈ l, -9223372036854775808 ≤ x ∧ x ≤ 9223372036854775807 := by
 obtain ⟨s, l, o, h1, h2, h3, _⟩ := rd_slice (f := iv) (G := fun x => -9223372036854775808 ≤ x ∧ x ≤ 9223372036854775807) und23s cel3 (by omega) (fun m ci _ hr => by
  obtain ⟨x, hx, k0⟩ := rd_int undI3 hr
  exact ⟨x, hx, wf_rng k0⟩) h
 simp only [List.cons.injEq, Value.slice.injEq, and_true] at h1
 obtain ⟨rfl, rfl, rfl⟩ := h1
 exact ⟨l, o, h2, h3⟩
theorem full_call {w : World} {B n B' n' : Nat} {a a' : Option Addr} {len cap len' cap' : Nat} {more : Int} (h : RdV Try.prog w B n 23 [.slice a len cap]) (h' : RdV Try.prog w B' n' 23 [.slice a' len' cap']) :
  Calls Try.prog 4 #[.slice a len cap, .slice a' len' cap', .int .i64 more] w fun e w' => e = .returned (.bool true) ∧ Below w.heap.size w w' := by
 obtain ⟨l, o, g2, g3⟩ := dec_ints h
 obtain ⟨l', o', g2', g3'⟩ := dec_ints h'
 exact calls_true (full_spec (systems := ⟨a, len, cap⟩) (indexes := ⟨a', len', cap'⟩) (more := more) g2 g2' fun w' hf => ⟨rfl, hf⟩)
end Go.Proofs.Ythmbjlpgbkkjjaa.FW
end
