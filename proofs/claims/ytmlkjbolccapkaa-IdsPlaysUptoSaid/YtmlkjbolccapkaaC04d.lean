/-
  Contracts of package ids, for things kept apart: pools, of the code's and of the document's form.
-/
import Derived.Test.YtmlkjbolccapkaaC04c
import Derived.Test.YtmlkjbolccapkaaP04
import Derived.Test.YtmlkjbolccapkaaDenY
set_option linter.unusedSimpArgs false
set_option linter.unusedVariables false
namespace Go.Proofs.Ytmlkjbolccapkaa.F
open Go Go.Den Go.Proofs

theorem inf3 : ∃ inf : TypeInfo, Try.prog.info? 3 = some inf ∧ inf.zero = some (.int .i64 0) ∧ inf.size = 1 ∧ inf.bytes = 8 := infoP (by kernel_rfl)

def poolI (ty : TypeId) (b : Nat) (m : PoolM) (sg sa sf : Sl) : Thing :=
  tStar (tBlk b ty [.int .i64 m.most, .slice sg.a sg.len sg.cap, .slice sa.a sa.len sa.cap, .slice sf.a sf.len sf.cap]) (tStar (tSl sg 3 1 iv m.gens) (tStar (tSl sa 4 1 bv m.alive) (tSl sf 3 1 iv m.free)))
def tPool (ty : TypeId) (b : Nat) (m : PoolM) : Thing := tEx fun x : Sl × Sl × Sl => poolI ty b m x.1 x.2.1 x.2.2

theorem slF_nodup {α : Type} {w : World} {s : Sl} {e : TypeId} {n : Nat} {f : α → List Value} {l : List α} {o : List Nat} (h : SlF w s e n f l o) : o.Nodup := by
  rcases h.2 with ⟨_, _, _, rfl⟩ | ⟨_, _, _, _, rfl, _⟩ <;> simp

theorem ps_of {w : World} {b : Nat} {m : PoolM} {O : List Nat} (h : PoolAt w b m O) : (tPool 60 b m).holds w O := by
  obtain ⟨sg, sa, sf, og, oa, of_, hb, hg, ha, hf, rfl, hnd⟩ := h
  simp only [List.nodup_cons, List.mem_append, List.nodup_append, not_or] at hnd
  refine ⟨(sg, sa, sf), [b], og ++ (oa ++ of_), ⟨hb, rfl⟩, ⟨og, oa ++ of_, sl_ints.1 hg, ⟨oa, of_, sl_bools.1 ha, sl_ints.1 hf, fun k hk hk' => hnd.2.2.2 k (.inr hk) k hk' rfl, by simp⟩, ?_, by simp⟩, ?_, by simp [or_assoc]⟩
  · intro k hk hk'
    rcases List.mem_append.1 hk' with h | h
    · exact hnd.2.1.2.2 k hk k h rfl
    · exact hnd.2.2.2 k (.inl hk) k h rfl
  · intro k hk hk'
    simp only [List.mem_singleton] at hk
    subst hk
    simp only [List.mem_append] at hk'
    rcases hk' with h | h | h
    · exact hnd.1.1.1 h
    · exact hnd.1.1.2 h
    · exact hnd.1.2 h

theorem ps_to {w : World} {b : Nat} {m : PoolM} {O : List Nat} (h : (tPool 60 b m).holds w O) : ∃ O', PoolAt w b m O' ∧ ∀ k, k ∈ O' ↔ k ∈ O := by
  obtain ⟨⟨sg, sa, sf⟩, O1, O2, ⟨hb, rfl⟩, ⟨og, O3, hg, ⟨oa, of_, ha, hf, d1, e1⟩, d2, e2⟩, d3, e3⟩ := h
  refine ⟨b :: (og ++ oa ++ of_), ⟨sg, sa, sf, og, oa, of_, hb, sl_ints.2 hg, sl_bools.2 ha, sl_ints.2 hf, rfl, ?_⟩, fun k => ?_⟩
  · have hb' : b ∉ O2 := d3 b (by simp)
    simp only [List.nodup_cons, List.mem_append, List.nodup_append, not_or]
    refine ⟨⟨⟨fun h => hb' ((e2 b).2 (.inl h)), fun h => hb' ((e2 b).2 (.inr ((e1 b).2 (.inl h))))⟩, fun h => hb' ((e2 b).2 (.inr ((e1 b).2 (.inr h))))⟩, ⟨slF_nodup hg, slF_nodup ha, ?_⟩, slF_nodup hf, ?_⟩
    · rintro x hx y hy rfl; exact d2 x hx ((e1 x).2 (.inl hy))
    · rintro x (hx | hx) y hy rfl
      · exact d2 x hx ((e1 x).2 (.inr hy))
      · exact d1 x hx hy
  · rw [e3 k, e2 k, e1 k]; simp [or_assoc]

/-- More than Ok: whoever does not live and is not worn out is free. -/
structure PoolM.Ok2 (m : PoolM) : Prop extends m.Ok where
  dead : ∀ i : Int, 0 ≤ i → i < m.gens.length → m.lives i = false → m.gen i < 1000000 → i ∈ m.free

def PoolM.takeM (m : PoolM) : PoolM × (Int × Int) × Int :=
  match m.free with
  | i :: rest => (m.takeFree i rest, (i, m.gen i + 1), 0)
  | [] => if (m.gens.length : Int) < m.most then (m.takeNew, (m.gens.length, 1), 0) else (m, (0, 0), 40)
def PoolM.giveM (m : PoolM) (i g : Int) : PoolM × Int := if m.is i g = true then (m.give i g, 0) else (m, 41)
def PoolM.atM (m : PoolM) (i : Int) : (Int × Int) × Int := if m.lives i = true then ((i, m.gen i), 0) else ((0, 0), 41)

section
variable {S : List Nat} {w0 w : World} {its : List Thing}

theorem pool_open (h : Hp S w0 w its) {i b : Nat} {ty : TypeId} {m : PoolM} (hi : its[i]? = some (tPool ty b m)) :
    ∃ sg sa sf : Sl, Hp S w0 w (its.set i (tBlk b ty [.int .i64 m.most, .slice sg.a sg.len sg.cap, .slice sa.a sa.len sa.cap, .slice sf.a sf.len sf.cap]) ++ [tSl sg 3 1 iv m.gens, tSl sa 4 1 bv m.alive, tSl sf 3 1 iv m.free]) := by
  have hl := (List.getElem?_eq_some_iff.1 hi).1
  obtain ⟨⟨sg, sa, sf⟩, h⟩ := h.openEx hi (fun _ => rfl)
  have h := h.split (i := i) (by simp [hl]; rfl) rfl rfl
  have e1 : ∀ (l : List Thing) (t : Thing), (l ++ [t])[l.length]? = some t := fun l t => by simp
  have h := h.split (e1 _ _) rfl rfl
  simp only [List.set_append_right _ _ (Nat.le_refl _), Nat.sub_self, List.set_cons_zero] at h
  have h := h.split (e1 _ _) rfl rfl
  rw [List.set_append_right _ _ (Nat.le_refl _), Nat.sub_self, List.set_cons_zero] at h
  exact ⟨sg, sa, sf, by simpa using h⟩

theorem pool_close {b : Nat} {ty : TypeId} {m : PoolM} {sg sa sf : Sl} {rest : List Thing}
    (h : Hp S w0 w (tBlk b ty [.int .i64 m.most, .slice sg.a sg.len sg.cap, .slice sa.a sa.len sa.cap, .slice sf.a sf.len sf.cap] :: tSl sg 3 1 iv m.gens :: tSl sa 4 1 bv m.alive :: tSl sf 3 1 iv m.free :: rest)) : Hp S w0 w (tPool ty b m :: rest) := by
  have h := h.joinStar (i := 2) (j := 3) (by omega) rfl rfl rfl rfl
  have h := h.joinStar (i := 1) (j := 2) (by omega) rfl rfl rfl rfl
  have h := h.joinStar (i := 0) (j := 1) (by omega) rfl rfl rfl rfl
  have h := h.putEx (f := fun x : Sl × Sl × Sl => poolI ty b m x.1 x.2.1 x.2.2) (i := 0) (sg, sa, sf) rfl rfl
  have h : Hp S w0 w (tPool ty b m :: tEmp :: tEmp :: tEmp :: rest) := h
  exact h.drop1.drop1.drop1

theorem pool_see (h : Hp S w0 w its) (i : Nat) {b : Nat} {ty : TypeId} {m : PoolM} (hi : (its[i]?).map Thing.holds = some (tPool ty b m).holds) :
    ∃ sg sa sf : Sl, Hp [] w w [(tBlk b ty [.int .i64 m.most, .slice sg.a sg.len sg.cap, .slice sa.a sa.len sa.cap, .slice sf.a sf.len sf.cap]).ro, (tSl sg 3 1 iv m.gens).ro, (tSl sa 4 1 bv m.alive).ro, (tSl sf 3 1 iv m.free).ro] := by
  obtain ⟨O, ⟨sg, sa, sf⟩, O1, O2, h1, ⟨O3, O4, h2, ⟨O5, O6, h3, h4, _⟩, _⟩, _⟩ := h.see' hi
  exact ⟨sg, sa, sf, ((((Hp.init w).addRo h1 (by simp)).addRo h2 (by simp)).addRo h3 (by simp)).addRo h4 (by simp)⟩

/-- The old way: a pool as one thing. -/
theorem pstep (h : Hp S w0 w its) {i b : Nat} {m : PoolM} (hi : its[i]? = some (tPool 60 b m)) :
    ∃ O, PoolAt w b m O ∧ ∀ {w' : World} {m' : PoolM} {O' : List Nat}, Fr O w w' → PoolAt w' b m' O' → (∀ k ∈ O', k ∈ O ∨ w.heap.size ≤ k) → Hp S w0 w' (its.set i (tPool 60 b m')) := by
  obtain ⟨O, hO, back⟩ := h.step hi rfl
  obtain ⟨O2, h2, e⟩ := ps_to hO
  refine ⟨O2, h2, fun {w' m' O'} hf hp hk => back (hf.mono (fun k hk => .inl ((e k).1 hk))) (ps_of hp) (fun k hk' => (hk k hk').imp_left fun h => (e k).1 h) rfl⟩

theorem psee (h : Hp S w0 w its) (i : Nat) {b : Nat} {m : PoolM} (hi : (its[i]?).map Thing.holds = some (tPool 60 b m).holds) : ∃ O, PoolAt w b m O := by
  obtain ⟨O, hO⟩ := h.see' hi
  obtain ⟨O2, h2, e⟩ := ps_to hO
  exact ⟨O2, h2⟩

theorem New_h (h : Hp S w0 w its) {n : Int} (h1 : 1 ≤ n) (h2 : n ≤ 200) {K : Option Addr → Int → World → Prop} (hK : ∀ b w', Hp S w0 w' (its ++ [tPool 60 b ⟨n, [], [], []⟩]) → K (some ⟨b, 0, none⟩) 0 w') : c7 n w K :=
  New_ok h1 h2 fun b w' hb hb' hp hf => hK b w' (h.grow hf (ps_of hp) (by simpa using hb) rfl)

theorem Take_h (h : Hp S w0 w its) (i : Nat) {b : Nat} {m : PoolM} (hm : m.Ok) (hi : its[i]? = some (tPool 60 b m)) {K : Int → Int → Int → World → Prop}
    (hK : ∀ w', Hp S w0 w' (its.set i (tPool 60 b m.takeM.1)) → K m.takeM.2.1.1 m.takeM.2.1.2 m.takeM.2.2 w') : c9 (some ⟨b, 0, none⟩) w K := by
  obtain ⟨O, hp, back⟩ := pstep h hi
  unfold PoolM.takeM at hK
  cases hf : m.free with
  | cons j rest =>
    simp only [hf] at hK
    exact Take_free hp hm hf fun w' hp' hfr => hK w' (back hfr hp' fun k hk => .inl hk)
  | nil =>
    simp only [hf] at hK
    by_cases hl : (m.gens.length : Int) < m.most
    · simp only [if_pos hl] at hK
      exact Take_new hp hm hf hl fun w' O' hp' hk hfr => hK w' (back hfr hp' hk)
    · simp only [if_neg hl] at hK
      have := hm.le
      refine Take_full hp hf (by omega) fun w' hfr => hK w' ?_
      rw [Hp.set_same hi]
      exact h.keep hfr

theorem Give_h (h : Hp S w0 w its) (i : Nat) {b : Nat} {m : PoolM} (hm : m.Ok) (hi : its[i]? = some (tPool 60 b m)) {x g : Int} {K : Int → World → Prop}
    (hK : ∀ w', Hp S w0 w' (its.set i (tPool 60 b (m.giveM x g).1)) → K (m.giveM x g).2 w') : c8 (some ⟨b, 0, none⟩) x g w K := by
  obtain ⟨O, hp, back⟩ := pstep h hi
  refine Give_spec hp hm fun w' O' hp' hk hfr => ?_
  have h2 := back hfr hp' hk
  unfold PoolM.giveM at hK
  split
  · rename_i he
    simp only [if_pos he] at hK h2
    exact hK w' h2
  · rename_i he
    simp only [if_neg he] at hK h2
    exact hK w' h2

theorem Lives_h (h : Hp S w0 w its) (i : Nat) {b : Nat} {m : PoolM} (hm : m.Ok) (hi : (its[i]?).map Thing.holds = some (tPool 60 b m).holds) {x g : Int} {K : Bool → World → Prop}
    (hK : ∀ w', Hp S w0 w' its → K (m.is x g) w') : c12 (some ⟨b, 0, none⟩) x g w K := by
  obtain ⟨O, hp⟩ := psee h i hi
  exact Lives_spec hp hm.len fun w' hf => hK w' (h.keep hf)

theorem At_h (h : Hp S w0 w its) (i : Nat) {b : Nat} {m : PoolM} (hm : m.Ok) (hi : (its[i]?).map Thing.holds = some (tPool 60 b m).holds) {x : Int} {K : Int → Int → Int → World → Prop}
    (hK : ∀ w', Hp S w0 w' its → K (m.atM x).1.1 (m.atM x).1.2 (m.atM x).2 w') : c11 (some ⟨b, 0, none⟩) x w K := by
  obtain ⟨O, hp⟩ := psee h i hi
  refine At_spec hp hm.len fun w' hf => ?_
  have := hK w' (h.keep hf)
  unfold PoolM.atM at this
  split <;> rename_i he
  · simpa only [if_pos he] using this
  · simpa only [if_neg he] using this

theorem All_h (h : Hp S w0 w its) (i : Nat) {b : Nat} {m : PoolM} (hm : m.Ok) (hi : (its[i]?).map Thing.holds = some (tPool 60 b m).holds) {K : Sl → World → Prop}
    (hK : ∀ s w', Hp S w0 w' (its ++ [tSl s 31 2 ent (m.allU m.gens.length)]) → K s w') : c10 (some ⟨b, 0, none⟩) w K := by
  obtain ⟨O, hp⟩ := psee h i hi
  exact All_spec hp hm fun w' l o hs ho hf => hK l w' (h.grow hf (t := tSl l 31 2 ent _) hs ho rfl)

theorem State_h (h : Hp S w0 w its) (i : Nat) {b : Nat} {m : PoolM} (hm : m.Ok) (hi : (its[i]?).map Thing.holds = some (tPool 60 b m).holds) {K : Sl → Sl → World → Prop}
    (hK : ∀ g f w', Hp S w0 w' (its ++ [tSl g 3 1 iv m.stGens, tSl f 3 1 iv m.free]) → K g f w') : c13 (some ⟨b, 0, none⟩) w K := by
  obtain ⟨O, hp⟩ := psee h i hi
  refine State_spec hp hm fun w' g f og of_ hg hf hog hof hfr => hK g f w' ?_
  refine h.r0 (rest := [_, _]) rfl ?_
  refine ⟨hfr, fun n => if n = 0 then og else of_, fun n t hn => ?_, fun n n' t u hn hn' hne ht hu k hk hk' => ?_⟩
  · match n, hn with
    | 0, hn =>
      simp only [List.getElem?_cons_zero, Option.some.injEq] at hn; subst hn
      exact ⟨hg, fun _ k hk => .inr (hog k hk), fun h => by cases h⟩
    | 1, hn =>
      simp only [List.getElem?_cons_succ, List.getElem?_cons_zero, Option.some.injEq] at hn; subst hn
      exact ⟨hf, fun _ k hk => .inr (hof k hk).1, fun h => by cases h⟩
    | n + 2, hn => simp at hn
  · match n, n', hn, hn', hne with
    | 0, 0, _, _, hne => exact hne rfl
    | 0, 1, _, _, _ => exact (hof k hk').2 hk
    | 1, 0, _, _, _ => exact (hof k hk).2 hk'
    | 1, 1, _, _, hne => exact hne rfl
    | n + 2, _, hn, _, _ => simp at hn
    | 0, n + 2, _, hn, _ => simp at hn
    | 1, n + 2, _, hn, _ => simp at hn

theorem From_h (h : Hp S w0 w its) (i j : Nat) {most : Int} {g f : Sl} {u v : Thing} {gens free : List Int} (hi : (its[i]?).map Thing.holds = some u.holds) (hj : (its[j]?).map Thing.holds = some v.holds) (hu : Hp.Reads u g 1 iv gens) (hv : Hp.Reads v f 1 iv free) (hfl : free.length ≤ 1000000000) {K : Option Addr → Int → World → Prop}
    (hN : ∀ w', fromM most gens free = none → Hp S w0 w' its → K none 1 w')
    (hK : ∀ m b w', fromM most gens free = some m → Hp S w0 w' (its ++ [tPool 60 b m]) → K (some ⟨b, 0, none⟩) 0 w') : c14 most g f w K := by
  obtain ⟨O1, h1⟩ := h.see' hi
  obtain ⟨o1, h1⟩ := hu.rd h1
  obtain ⟨O2, h2⟩ := h.see' hj
  obtain ⟨o2, h2⟩ := hv.rd h2
  refine From_spec h1 h2 hfl fun w' p e hf hm => ?_
  cases hc : fromM most gens free with
  | none =>
    rw [hc] at hm
    obtain ⟨rfl, rfl⟩ := hm
    exact hN w' hc (h.keep hf)
  | some m =>
    rw [hc] at hm
    obtain ⟨rfl, b, O, rfl, hp, hO⟩ := hm
    exact hK m b w' hc (h.grow hf (ps_of hp) hO rfl)

/-- slices.Clone of numbers. -/
theorem clone_i (h : Hp S w0 w its) (j : Nat) {u : Thing} {v : Sl} {xs : List Int} (hj : its[j]? = some u) (hu : Hp.Reads u v 1 iv xs) (hlen : xs.length ≤ 1000000) {K : Sl → World → Prop} (hK : ∀ s w', Hp S w0 w' (its ++ [tSl s 3 1 iv xs]) → K s w') : c19 v w K := by
  refine c19_of ?_
  unfold f19
  obtain ⟨O, h0⟩ := h.see' (i := j) (t := u) (by rw [hj]; rfl)
  obtain ⟨o, h0⟩ := hu.rd h0
  by_cases hn : v.a = none
  · refine ifT (by rw [hn]; rfl) ?_
    have := h0.isNil hn
    subst this
    exact hK _ _ (h.nil 3 1 iv)
  · refine ifF (by cases hv : v.a <;> simp_all) ?_
    have hl := h.lenU j (by rw [hj]; rfl) hu
    have hlt := (List.getElem?_eq_some_iff.1 hj).1
    refine h.nw (c := []) fun b w h => ?_
    have h := h.blkSl (i := its.length) (m := 0) (l := ([] : List Int)) (f := iv) (n := 1) List.getElem?_concat_length rfl rfl iv_len
    rw [List.set_append_right _ _ (Nat.le_refl _), Nat.sub_self, List.set_cons_zero] at h
    obtain ⟨inf, q1, q2, q3, q4⟩ := inf3
    refine h.appS its.length j (s := ⟨some ⟨b, 0, none⟩, 0, 0⟩) List.getElem?_concat_length (u := u) (by rw [List.getElem?_append_left hlt]; exact hj) hu iv_len und22 q1 q3 q2 rfl (by simp [iv, Value.oneCell']) (by rw [q4]; show (0 + v.len) * 8 ≤ _; omega) (by show 0 + v.len ≤ _; omega) fun r w h hl' _ => ?_
    rw [List.set_append_right _ _ (Nat.le_refl _), Nat.sub_self, List.set_cons_zero] at h
    exact hK r w h

theorem clone_b (h : Hp S w0 w its) (j : Nat) {u : Thing} {v : Sl} {xs : List Bool} (hj : its[j]? = some u) (hu : Hp.Reads u v 1 bv xs) (hlen : xs.length ≤ 1000000) {K : Sl → World → Prop} (hK : ∀ s w', Hp S w0 w' (its ++ [tSl s 4 1 bv xs]) → K s w') : c33 v w K := by
  refine c33_of ?_
  unfold f33
  obtain ⟨O, h0⟩ := h.see' (i := j) (t := u) (by rw [hj]; rfl)
  obtain ⟨o, h0⟩ := hu.rd h0
  by_cases hn : v.a = none
  · refine ifT (by rw [hn]; rfl) ?_
    have := h0.isNil hn
    subst this
    exact hK _ _ (h.nil 4 1 bv)
  · refine ifF (by cases hv : v.a <;> simp_all) ?_
    have hl := h.lenU j (by rw [hj]; rfl) hu
    have hlt := (List.getElem?_eq_some_iff.1 hj).1
    refine h.nw (c := []) fun b w h => ?_
    have h := h.blkSl (i := its.length) (m := 0) (l := ([] : List Bool)) (f := bv) (n := 1) List.getElem?_concat_length rfl rfl bv_len
    rw [List.set_append_right _ _ (Nat.le_refl _), Nat.sub_self, List.set_cons_zero] at h
    obtain ⟨inf, q1, q2, q3, q4⟩ := bytes4
    refine h.appS its.length j (s := ⟨some ⟨b, 0, none⟩, 0, 0⟩) List.getElem?_concat_length (u := u) (by rw [List.getElem?_append_left hlt]; exact hj) hu bv_len und58 q1 q3 q2 rfl (by simp [bv, Value.oneCell']) (by rw [q4]; show (0 + v.len) * 1 ≤ _; omega) (by show 0 + v.len ≤ _; omega) fun r w h hl' _ => ?_
    rw [List.set_append_right _ _ (Nat.le_refl _), Nat.sub_self, List.set_cons_zero] at h
    exact hK r w h

theorem Ok.free200 {m : PoolM} (hm : m.Ok) : m.free.length ≤ 200 := by have := hm.cnt; have := hm.len200; omega

theorem Clone_h (h : Hp S w0 w its) (i : Nat) {b : Nat} {m : PoolM} (hm : m.Ok) (hi : (its[i]?).map Thing.holds = some (tPool 60 b m).holds) {K : Option Addr → World → Prop}
    (hK : ∀ a w', Hp S w0 w' (its ++ [tPool 60 a m]) → K (some ⟨a, 0, none⟩) w') : c25 (some ⟨b, 0, none⟩) w K := by
  refine c25_of ?_
  unfold f25
  have hl1 := hm.len200
  have hl2 := hm.len
  have hl3 := Ok.free200 hm
  refine h.dr fun w1 h => ?_
  obtain ⟨sg, sa, sf, h1⟩ := pool_see h i hi
  refine nns ?_
  refine h1.ld0 (x := m.most) 0 rfl rfl ?_
  refine nns ?_
  refine h1.ld (x := sg) 0 rfl rfl ?_
  refine nns ?_
  refine h1.ld (x := sa) 0 rfl rfl ?_
  refine nns ?_
  refine h1.ld (x := sf) 0 rfl rfl ?_
  refine clone_i h1 1 rfl ⟨Hp.rdSl.rd⟩ (by omega) fun r w2 h1 => ⟨h1.cel 0 rfl rfl, h1.cel 0 rfl rfl, h1.cel0 0 rfl rfl, ?_⟩
  refine clone_b h1 2 rfl ⟨Hp.rdSl.rd⟩ (by omega) fun r2 w2 h1 => ⟨h1.cel 0 rfl rfl, h1.cel0 0 rfl rfl, ?_⟩
  refine clone_i h1 3 rfl ⟨Hp.rdSl.rd⟩ (by omega) fun r3 w2 h1 => ⟨h1.cel0 0 rfl rfl, ?_⟩
  refine h1.nw (c := [_, _, _, _]) fun a w3 h1 => ?_
  refine hK a w3 (h.r0 rfl (pool_close (m := m) (rest := []) (h1.sel4 7 4 5 6 (by decide) rfl rfl rfl rfl)))
end
end Go.Proofs.Ytmlkjbolccapkaa.F
