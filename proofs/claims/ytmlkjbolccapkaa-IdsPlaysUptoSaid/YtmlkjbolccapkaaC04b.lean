/-
  Contracts of package ids, second part: All, Clone of lists, State, From.
-/
import Derived.Test.YtmlkjbolccapkaaC04
import Derived.Test.YtmlkjbolccapkaaDenV
set_option linter.unusedSimpArgs false
set_option linter.unusedVariables false
namespace Go.Proofs.Ytmlkjbolccapkaa.F
open Go Go.Den Go.Proofs

abbrev iv (i : Int) : List Value := [.int .i64 i]
abbrev bv (b : Bool) : List Value := [.bool b]
abbrev ent (x : Int × Int) : List Value := [.int .i64 x.1, .int .i64 x.2]
theorem iv_len (x : Int) : (iv x).length = 1 := rfl
theorem bv_len (x : Bool) : (bv x).length = 1 := rfl
theorem ent_len (x : Int × Int) : (ent x).length = 2 := rfl
theorem ints_fm (l : List Int) : l.flatMap iv = ints l := by
  induction l with
  | nil => rfl
  | cons x l ih => rw [List.flatMap_cons, ih]; rfl
theorem bools_fm (l : List Bool) : l.flatMap bv = bools l := by
  induction l with
  | nil => rfl
  | cons x l ih => rw [List.flatMap_cons, ih]; rfl

theorem sl_ints {w : World} {s : Sl} {e : TypeId} {l : List Int} {o : List Nat} : SlAt w s e (ints l) o ↔ SlF w s e 1 iv l o := by
  simp only [SlAt, SlF, ints_len, ints_fm, Nat.mul_one]
theorem sl_bools {w : World} {s : Sl} {e : TypeId} {l : List Bool} {o : List Nat} : SlAt w s e (bools l) o ↔ SlF w s e 1 bv l o := by
  simp only [SlAt, SlF, bools_len, bools_fm, Nat.mul_one]

theorem bytes31 : ∃ inf : TypeInfo, Try.prog.info? 31 = some inf ∧ inf.zero = some (.agg #[.int .i64 0, .int .i64 0]) ∧ inf.size = 2 ∧ inf.bytes = 16 := infoP (by kernel_rfl)
theorem und29 : Try.prog.underlying 29 = some (.slice 31) := by kernel_rfl

/-- append of one entity. -/
theorem appE {s : Sl} {w : World} {vs : List (Int × Int)} {o : List Nat} {b : Nat} {v : Int × Int} {K : Sl → World → Prop} (h : SlF w s 31 2 ent vs o) (hb : Blk w b 31 [.int .i64 v.1, .int .i64 v.2]) (hn : vs.length ≤ 1000000000)
    (hK : ∀ s' w' o', SlF w' s' 31 2 ent (vs ++ [v]) o' → (o' = o ∨ ∃ k, w.heap.size ≤ k ∧ k < w'.heap.size ∧ o' = [k]) → Fr o w w' → K s' w') :
    Run .sl Try.prog (Builtin.append_ #[29, 29] 29 #[.slice s.a s.len s.cap, .slice (some ⟨b, 0, none⟩) 1 1]) w K := by
  obtain ⟨inf, h1, h4, h2, h3⟩ := bytes31
  have hl := h.len
  refine SlF.app ent_len und29 h1 h2 h4 rfl h (news := [v]) rfl ?_ (by simp [Value.oneCell']) (by rw [h3]; omega) (by omega) ?_
  · intro j u hj
    rw [Addr.add_none, hb.cell]
    simpa using hj
  · intro s' w' o' g1 g2 g3 g4 g5 g6 g7
    exact hK s' w' o' g1 g3 g5

theorem ni1 {b : Nat} {o : List Nat} (h : b ∉ o) : ∀ k ∈ o, k ∉ [b] := by
  intro k hk hm
  simp only [List.mem_singleton] at hm
  subst hm
  exact h hk

/-- A new entity in a block. -/
theorem nwE {i g : Int} {w : World} {K : Addr → World → Prop}
    (hK : ∀ b w', w.heap.size ≤ b → Blk w' b 31 [.int .i64 i, .int .i64 g] → Fr [] w w' → K ⟨b, 0, none⟩ w') :
    Nw (.cells #[.int .i64 0, .int .i64 0] 31) w fun (x : Addr) (w : World) => St x (.int .i64 i) w fun (w : World) => St (x.add 1) (.int .i64 g) w fun (w : World) => K x w := by
  refine nw fun b w1 hb hbb f1 s1 => ?_
  refine st (o := 0) hbb (by simp) rfl fun w2 hb2 f2 s2 => ?_
  refine stf hb2 (by simp) rfl fun w3 hb3 f3 s3 => ?_
  exact hK b w3 (by omega) hb3 ((f1.trans f2 (by simp; omega)).trans f3 (by simp; omega))

theorem ldE {b : Nat} {i g : Int} {w : World} {K : Int → Int → Prop} (h : Blk w b 31 [.int .i64 i, .int .i64 g]) (hK : K i g) :
    Ld (.i .i64) w ⟨b, 0, none⟩ fun (x : Int) => Ld (.i .i64) w ((⟨b, 0, none⟩ : Addr).add 1) fun (y : Int) => K x y :=
  ld (k := .i .i64) h rfl (ldf (k := .i .i64) h rfl hK)

/-- All. -/
def PoolM.allU (m : PoolM) : Nat → List (Int × Int)
  | 0 => []
  | k + 1 => if m.lives k then m.allU k ++ [((k : Int), m.gen k)] else m.allU k

theorem PoolM.allU_len (m : PoolM) : ∀ k, (m.allU k).length ≤ k
  | 0 => by simp [PoolM.allU]
  | k + 1 => by
    have := allU_len m k
    simp only [PoolM.allU]; split <;> simp <;> omega

theorem All_spec {b : Nat} {w : World} {m : PoolM} {O : List Nat} {K : Sl → World → Prop} (h : PoolAt w b m O) (hm : m.Ok)
    (hK : ∀ w' l o, SlF w' l 31 2 ent (m.allU m.gens.length) o → (∀ k ∈ o, w.heap.size ≤ k) → Fr [] w w' → K l w') : c10 (some ⟨b, 0, none⟩) w K := by
  refine c10_of ?_
  unfold f10
  simp only [NN_some]
  have h0 := h
  obtain ⟨sg, sa, sf, og, oa, of_, hb, hg, hal, hfr, rfl, hnd⟩ := h0
  have hgl := hg.len
  rw [ints_len] at hgl
  have h200 := hm.len200
  refine ldf (k := .sl) (x := sg) hb rfl ?_
  refine ⟨fun out t12 n w' => ∃ (k : Nat) (o : List Nat), t12 = k ∧ k ≤ sg.len ∧ n = sg.len - k ∧ SlF w' out 31 2 ent (m.allU k) o ∧ (∀ k ∈ o, w.heap.size ≤ k) ∧ Fr [] w w', ⟨sg.len, 0, [], by simp, by omega, by omega, SlF.nil, by simp, Fr.refl _ _⟩, ?_⟩
  rintro out t12 n w1 ⟨k, o, rfl, hk, rfl, hs, ho, f1⟩
  by_cases hlt : k < sg.len
  · rw [if_pos (by simpa using hlt)]
    refine At_spec (h.fr f1 (by simp)) hm.len fun w2 f2 => ?_
    cases hl : m.lives k with
    | true =>
      rw [if_pos rfl]
      refine nwE fun x w3 hx hbx f3 => ?_
      rw [if_pos (by rfl)]
      refine ldE hbx ?_
      refine nw fun y w4 hy hby f4 s4 => ?_
      have f14 := ((f1.trans f2 (by simp)).trans f3 (by simp)).trans f4 (by simp)
      refine appE (v := ((k : Int), m.gen k)) (((hs.fr f2 (by simp)).fr f3 (by simp)).fr f4 (by simp)) hby (by have := m.allU_len k; omega) fun s' w5 o' g1 g2 g3 => ?_
      refine ⟨sg.len - (k + 1), by omega, k + 1, o', wr64 (by omega) (by omega), by omega, rfl, ?_, ?_, ?_⟩
      · simpa [PoolM.allU, hl] using g1
      · rcases g2 with rfl | ⟨n, h1, _, rfl⟩
        · exact ho
        · have := f14.size; simp; omega
      · exact f14.trans g3 (fun k hk => .inr (ho k hk))
    | false =>
      rw [if_neg (by simp)]
      refine nwE fun x w3 hx hbx f3 => ?_
      rw [if_neg (by simp)]
      refine ⟨sg.len - (k + 1), by omega, k + 1, o, wr64 (by omega) (by omega), by omega, rfl, ?_, ho, ?_⟩
      · have := (hs.fr f2 (by simp)).fr f3 (by simp)
        simpa [PoolM.allU, hl] using this
      · exact (f1.trans f2 (by simp)).trans f3 (by simp)
  · rw [if_neg (by simpa using hlt)]
    have : k = m.gens.length := by omega
    subst this
    exact hK w1 out o hs ho f1

/-- A list of numbers, made again. -/
theorem CloneI {s : Sl} {w : World} {l : List Int} {o : List Nat} {K : Sl → World → Prop} (h : SlR w s 1 iv l o) (hn : l.length ≤ 1000000000)
    (hK : ∀ w' s' o', SlF w' s' 3 1 iv l o' → (∀ k ∈ o', w.heap.size ≤ k) → (s'.a = none ↔ s.a = none) → Fr [] w w' → K s' w') : c19 s w K := by
  refine c19_of ?_
  unfold f19
  by_cases hs : s.a = none
  · rw [if_pos (by simp [hs])]
    have := h.isNil hs
    subst this
    exact hK w _ [] SlF.nil (by simp) (by simp [hs]) (Fr.refl _ _)
  · rw [if_neg (by simpa using hs)]
    refine nw (c := []) fun b w1 hb hbb f1 s1 => ?_
    obtain ⟨inf, h1, h4, h2, h3⟩ := bytes3
    have hl := h.len
    refine SlF.appS (s := ⟨some ⟨b, 0, none⟩, 0, 0⟩) (l := []) iv_len und22 h1 h2 h4 rfl ⟨rfl, .inr ⟨b, 0, [], rfl, rfl, hbb, by simp, by simp, rfl⟩⟩ (h.fr f1 (by simp)) (by simp [iv, Value.oneCell']) (by rw [h3]; show (0 + s.len) * 8 ≤ _; omega) (by show 0 + s.len ≤ _; omega) ?_
    intro s' w' o' g1 g2 g3 g4 g5 g6 g7
    refine hK w' s' o' g1 ?_ ?_ (f1.trans g5 (by simp; omega))
    · rcases g3 with rfl | ⟨n, h1, _, rfl⟩
      · simp; omega
      · simp; omega
    · simp [hs, g7 (by simp)]

theorem tk_set {α : Type} {a b : List α} {k : Nat} {x : α} (hl : a.length = b.length) (hk : a[k]? = some x) : (a.take k ++ b.drop k).set k x = a.take (k + 1) ++ b.drop (k + 1) := by
  have hk' := (List.getElem?_eq_some_iff.1 hk).1
  apply List.ext_getElem?
  intro j
  simp only [List.getElem?_set, List.getElem?_append, List.getElem?_take, List.getElem?_drop, List.length_append, List.length_take, List.length_drop]
  by_cases h1 : k = j
  · subst h1
    rw [if_pos rfl, if_pos (by omega), if_pos (by omega), if_pos (by omega), hk]
  · rw [if_neg h1]
    by_cases h2 : j < k
    · rw [if_pos (by omega), if_pos h2, if_pos (by omega), if_pos (by omega)]
    · rw [if_neg (by omega), if_neg (by omega)]
      congr 1; omega

theorem tk_same {α : Type} {a b : List α} {k : Nat} (hl : a.length = b.length) (hk : a[k]? = b[k]?) : a.take k ++ b.drop k = a.take (k + 1) ++ b.drop (k + 1) := by
  apply List.ext_getElem?
  intro j
  simp only [List.getElem?_append, List.getElem?_take, List.getElem?_drop, List.length_take]
  by_cases h2 : j < k
  · by_cases h3 : j < a.length
    · rw [if_pos (by omega), if_pos h2, if_pos (by omega), if_pos (by omega)]
    · rw [if_neg (by omega), if_neg (by omega)]
      rw [List.getElem?_eq_none (by omega), List.getElem?_eq_none (by omega)]
  · by_cases h3 : j = k
    · subst h3
      by_cases h4 : j < a.length
      · rw [if_neg (by omega), if_pos (by omega), if_pos (by omega), ← hk.symm]
        congr 1; omega
      · rw [if_neg (by omega), if_neg (by omega)]
        rw [List.getElem?_eq_none (by omega), List.getElem?_eq_none (by omega)]
    · rw [if_neg (by omega), if_neg (by omega)]
      by_cases h4 : k < a.length
      · congr 1; omega
      · rw [List.getElem?_eq_none (by omega), List.getElem?_eq_none (by omega)]

/-- State. -/
def PoolM.stGens (m : PoolM) : List Int := m.gens.mapIdx fun i g => if g = 1000000 ∧ m.lives i = false then g + 1 else g

theorem State_spec {b : Nat} {w : World} {m : PoolM} {O : List Nat} {K : Sl → Sl → World → Prop} (h : PoolAt w b m O) (hm : m.Ok)
    (hK : ∀ w' g f og of_, SlF w' g 3 1 iv m.stGens og → SlF w' f 3 1 iv m.free of_ → (∀ k ∈ og, w.heap.size ≤ k) → (∀ k ∈ of_, w.heap.size ≤ k ∧ k ∉ og) → Fr [] w w' → K g f w') : c13 (some ⟨b, 0, none⟩) w K := by
  refine c13_of ?_
  unfold f13
  simp only [NN_some]
  have h0 := h
  obtain ⟨sg, sa, sf, og, oa, of_, hb, hg, hal, hfr, rfl, hnd⟩ := h0
  have hgl := hg.len
  rw [ints_len] at hgl
  have h200 := hm.len200
  refine ldf (k := .sl) (x := sg) hb rfl ?_
  refine CloneI (sl_ints.1 hg).toR (by omega) fun w1 s1 o1 hs1 ho1 hn1 f1 => ?_
  have hl1 := hs1.len
  have hsl : m.stGens.length = m.gens.length := by simp [PoolM.stGens]
  refine ⟨fun t n w' => ∃ k : Nat, t = k ∧ k ≤ s1.len ∧ n = s1.len - k ∧ SlF w' s1 3 1 iv (m.stGens.take k ++ m.gens.drop k) o1 ∧ Fr [] w w', ⟨s1.len, 0, by simp, by omega, by omega, by simpa using hs1, f1⟩, ?_⟩
  rintro t n w2 ⟨k, rfl, hk, rfl, hs, f2⟩
  by_cases hlt : k < s1.len
  · rw [if_pos (by simpa using hlt)]
    have hkl : k < m.gens.length := by omega
    have hkl2 : k < m.stGens.length := by omega
    have hgk : (m.stGens.take k ++ m.gens.drop k)[k]? = some m.gens[k] := by
      rw [List.getElem?_append_right (by simp; omega)]
      simp only [List.length_take, List.getElem?_drop]
      rw [show k + (k - min k m.stGens.length) = k by omega]
      simp [hkl]
    have hst : m.stGens[k]? = some (if m.gens[k] = 1000000 ∧ m.lives k = false then m.gens[k] + 1 else m.gens[k]) := by
      simp [PoolM.stGens, hkl]
    refine SlF.ix iv_len hs (Int.natCast_nonneg k) (by simpa using hgk) fun c off cs hc hbc hoff hcs hput => ?_
    refine ld (k := .i .i64) (x := m.gens[k]) hbc (by simpa [Kd.inj] using hcs 0 (by omega)) ?_
    have next : ∀ w3, SlF w3 s1 3 1 iv (m.stGens.take (k + 1) ++ m.gens.drop (k + 1)) o1 → Fr [] w w3 → ∃ m2 : Nat, m2 < s1.len - k ∧ ∃ k_1 : Nat, (IntKind.i64.wrap ((k : Int) + 1)) = k_1 ∧ k_1 ≤ s1.len ∧ m2 = s1.len - k_1 ∧ SlF w3 s1 3 1 iv (m.stGens.take k_1 ++ m.gens.drop k_1) o1 ∧ Fr [] w w3 := by
      intro w3 a1 a2
      exact ⟨s1.len - (k + 1), by omega, k + 1, wr64 (by omega) (by omega), by omega, rfl, a1, a2⟩
    refine ⟨fun t w' => w' = w2 ∧ t = decide (m.gens[k] = 1000000 ∧ m.lives k = false), ?_, ?_⟩
    · by_cases hmax : m.gens[k] = 1000000
      · rw [if_pos (by simpa using hmax)]
        obtain ⟨sg, sa, sf, og, oa, of_, hb, hg, hal, hfr, hO, hnd⟩ := h.fr f2 (by simp)
        refine ldf (k := .sl) (x := sa) hb rfl ?_
        have hka : k < m.alive.length := by rw [hm.len]; exact hkl
        refine ixld hal (Int.natCast_nonneg k) (bools_get (i := ((k : Int)).toNat) (by simpa using hka)) ?_
        refine ⟨rfl, ?_⟩
        simp [hmax, PoolM.lives, hka]
      · rw [if_neg (by simpa using hmax)]
        exact ⟨rfl, by simp [hmax]⟩
    · rintro t w3 ⟨rfl, rfl⟩
      by_cases hd : m.gens[k] = 1000000 ∧ m.lives k = false
      · rw [if_pos (by simpa using hd)]
        rw [if_pos hd] at hst
        refine SlF.ix iv_len hs (Int.natCast_nonneg k) (by simpa using hgk) fun c off cs hc hbc hoff hcs hput => ?_
        refine ld (k := .i .i64) (x := m.gens[k]) hbc (by simpa [Kd.inj] using hcs 0 (by omega)) ?_
        refine SlF.ix iv_len hs (Int.natCast_nonneg k) (by simpa using hgk) fun c2 off2 cs2 hc2 hbc2 hoff2 hcs2 hput2 => ?_
        refine st hbc2 (by omega) rfl fun w4 hb4 f4 s4 => ?_
        refine next w4 ?_ (f2.trans f4 (by
          have := ho1 c2 (by rw [hc2]; simp)
          simpa using this))
        have e1 : IntKind.i64.wrap (m.gens[k] + 1) = m.gens[k] + 1 := by rw [hd.1]; rfl
        rw [← tk_set hsl hst, ← e1]
        have := hput2 w4 (IntKind.i64.wrap (m.gens[k] + 1)) (by
          rw [List.set_eq_take_append_cons_drop, if_pos (by omega)] at hb4
          simpa using hb4)
        simpa using this
      · rw [if_neg (by simpa using hd)]
        rw [if_neg hd] at hst
        refine next w3 ?_ f2
        rw [← tk_same hsl (by rw [hst]; simp [hkl])]
        exact hs
  · rw [if_neg (by simpa using hlt)]
    have e1 : k = m.gens.length := by omega
    subst e1
    obtain ⟨sg, sa, sf, og, oa, of_, hb, hg, hal, hfr, hO, hnd⟩ := h.fr f2 (by simp)
    refine ldf (k := .sl) (x := sf) hb rfl ?_
    have hfl : m.free.length ≤ 200 := by have := hm.cnt; omega
    refine CloneI (sl_ints.1 hfr).toR (by omega) fun w3 s3 o3 hs3 ho3 hn3 f3 => ?_
    refine hK w3 s1 s3 o1 o3 ?_ hs3 ho1 ?_ (f2.trans f3 (by simp))
    · have := hs.fr f3 (by simp)
      rw [List.take_of_length_le (by omega), List.drop_length, List.append_nil] at this
      exact this
    · intro k hk
      have := ho3 k hk
      refine ⟨by have := f2.size; omega, fun hm' => ?_⟩
      have := hs.lt k hm'
      omega

/-- From. -/
def frFree (gens0 : List Int) : List Int → PoolM → Option PoolM
  | [], m => some m
  | i :: r, m => if i < 0 ∨ i ≥ gens0.length ∨ m.alive.getD i.toNat false = false ∨ gens0.getD i.toNat 0 ≥ 1000000 then none else frFree gens0 r { m with alive := m.alive.set i.toNat false, free := m.free ++ [i] }

def fromM (most : Int) (gens free : List Int) : Option PoolM :=
  if most < 1 ∨ 200 < most ∨ (gens.length : Int) > most ∨ ¬ (∀ g ∈ gens, 1 ≤ g ∧ g ≤ 1000001) then none
  else frFree gens free ⟨most, gens.map (fun g => if 1000000 < g then 1000000 else g), gens.map (fun g => decide (g ≤ 1000000)), []⟩

theorem From_spec {most : Int} {g f : Sl} {w : World} {gens free : List Int} {og of_ : List Nat} {K : Option Addr → Int → World → Prop} (hg : SlR w g 1 iv gens og) (hf : SlR w f 1 iv free of_) (hfl : free.length ≤ 1000000000)
    (hK : ∀ w' p (e : Int), Fr [] w w' → (match fromM most gens free with
      | none => p = none ∧ e = 1
      | some m => e = 0 ∧ ∃ b O, p = some ⟨b, 0, none⟩ ∧ PoolAt w' b m O ∧ ∀ k ∈ O, w.heap.size ≤ k) → K p e w') : c14 most g f w K := by
  have hgl := hg.len
  refine c14_of ?_
  unfold f14
  by_cases hmost : most < 1 ∨ 200 < most
  · refine New_bad hmost ?_
    rw [if_pos (by simp)]
    refine hK w _ _ (Fr.refl _ _) ?_
    unfold fromM
    rw [if_pos (by omega)]
    exact ⟨rfl, rfl⟩
  refine New_ok (by omega) (by omega) fun b w1 hb1 hb2 hp1 f1 => ?_
  by_cases hlm : (gens.length : Int) > most
  · rw [if_pos (by simp; omega)]
    refine hK w1 _ _ f1 ?_
    unfold fromM
    rw [if_pos (by omega)]
    exact ⟨rfl, rfl⟩
  rw [if_neg (by simp; omega)]
  simp only [NN_some]
  refine ⟨fun t n w' => ∃ (k : Nat) (O : List Nat), t = k ∧ k ≤ g.len ∧ n = g.len - k ∧ (∀ x ∈ gens.take k, 1 ≤ x ∧ x ≤ 1000001) ∧
      PoolAt w' b ⟨most, (gens.take k).map (fun g => if 1000000 < g then 1000000 else g), (gens.take k).map (fun g => decide (g ≤ 1000000)), []⟩ O ∧ (∀ k ∈ O, w.heap.size ≤ k) ∧ Fr [] w w',
    ⟨g.len, 0, [b], by simp, by omega, by omega, by simp, by simpa using hp1, by simpa using hb1, f1⟩, ?_⟩
  rintro t n w2 ⟨k, O, rfl, hk, rfl, hall, hp2, hO, f2⟩
  by_cases hlt : k < g.len
  · rw [if_pos (by simpa using hlt)]
    have hkl : k < gens.length := by omega
    refine SlR.ix iv_len (hg.fr f2 (by simp)) (Int.natCast_nonneg k) (x := gens[k]) (by simp [hkl]) fun a hcs => ?_
    refine ldR0 (k := .i .i64) (x := gens[k]) (hcs 0 (by omega)) rfl ?_
    by_cases hbad : gens[k] < 1 ∨ gens[k] > 1000001
    · rw [if_pos (by simpa using hbad)]
      refine hK w2 _ _ f2 ?_
      unfold fromM
      rw [if_pos]
      · exact ⟨rfl, rfl⟩
      · refine .inr (.inr (.inr fun h => ?_))
        have := h gens[k] (List.getElem_mem hkl)
        omega
    · rw [if_neg (by simpa using hbad)]
      obtain ⟨sg, sa, sf, og', oa, of', hb, hg', hal, hfr, rfl, hnd⟩ := hp2
      refine ldf (k := .sl) (x := sg) hb rfl ?_
      refine nw fun c1 w3 hc1 hbc1 f3 s3 => ?_
      refine appI (hg'.fr f3 (by simp)) hbc1 (by simp; omega) fun s' w4 o4 hs4 ho4 f4 _ => ?_
      simp only [List.nodup_cons, List.mem_append, List.nodup_append, not_or] at hnd
      have hb4 := (hb.fr f3 (by simp)).fr f4 (fun hm' => hnd.1.1.1 hm')
      have hal4 := (hal.fr f3 (by simp)).fr f4 (fun k hk hk' => hnd.2.1.2.2 k hk' k hk rfl)
      have hfr4 := (hfr.fr f3 (by simp)).fr f4 (fun k hk hk' => hnd.2.2.2 k (.inl hk') k hk rfl)
      have e4 : ∀ k ∈ o4, k ∈ og' ∨ w2.heap.size ≤ k := by
        rcases ho4 with rfl | ⟨n, h1, _, rfl⟩
        · exact fun k hk => .inl hk
        · have := f3.size; simp; omega
      have hlt2 : ∀ k ∈ b :: (og' ++ oa ++ of'), k < w2.heap.size := PoolAt.lt (m := ⟨most, _, _, _⟩) ⟨sg, sa, sf, og', oa, of', hb, hg', hal, hfr, rfl, by simp only [List.nodup_cons, List.mem_append, List.nodup_append, not_or]; exact hnd⟩
      have nb4 : b ∉ o4 := fun hm' => (e4 b hm').elim hnd.1.1.1 (fun h => by have := hlt2 b (by simp); omega)
      have na4 : ∀ k ∈ oa, k ∉ o4 := fun k hk hm' => (e4 k hm').elim (fun h => hnd.2.1.2.2 k h k hk rfl) (fun h => by have := hlt2 k (by simp [hk]); omega)
      have nf4 : ∀ k ∈ of', k ∉ o4 := fun k hk hm' => (e4 k hm').elim (fun h => hnd.2.2.2 k (.inl h) k hk rfl) (fun h => by have := hlt2 k (by simp [hk]); omega)
      refine stf hb4 (by simp) rfl fun w5 hb5 f5 s5 => ?_
      have hs5 := hs4.fr f5 (ni1 nb4)
      have hal5 := hal4.fr f5 (ni1 hnd.1.1.2)
      have hfr5 := hfr4.fr f5 (ni1 hnd.1.2)
      refine ldf (k := .sl) (x := sa) hb5 rfl ?_
      refine nw fun c2 w6 hc2 hbc2 f6 s6 => ?_
      refine appB (hal5.fr f6 (by simp)) hbc2 (by simp; omega) fun s'' w7 o7 hs7 ho7 f7 _ => ?_
      have hb7 := (hb5.fr f6 (by simp)).fr f7 (fun hm' => hnd.1.1.2 hm')
      have hs7' := (hs5.fr f6 (by simp)).fr f7 (fun k hk hk' => na4 k hk' hk)
      have hfr7 := (hfr5.fr f6 (by simp)).fr f7 (fun k hk hk' => hnd.2.2.2 k (.inr hk') k hk rfl)
      have hsz : w2.heap.size ≤ w6.heap.size := by have := f3.size; have := f4.size; have := f5.size; have := f6.size; omega
      have e7 : ∀ k ∈ o7, k ∈ oa ∨ w6.heap.size ≤ k := by
        rcases ho7 with rfl | ⟨n, h1, _, rfl⟩
        · exact fun k hk => .inl hk
        · simp; omega
      have nb7 : b ∉ o7 := fun hm' => (e7 b hm').elim hnd.1.1.2 (fun h => by have := hlt2 b (by simp); omega)
      have ng7 : ∀ k ∈ o4, k ∉ o7 := fun k hk hm' => (e7 k hm').elim (fun h => na4 k h hk) (fun h => by
        have := hs5.lt k hk; have := f6.size; omega)
      have nf7 : ∀ k ∈ of', k ∉ o7 := fun k hk hm' => (e7 k hm').elim (fun h => hnd.2.2.2 k (.inr h) k hk rfl) (fun h => by have := hlt2 k (by simp [hk]); omega)
      refine stf hb7 (by simp) rfl fun w8 hb8 f8 s8 => ?_
      have htk : gens.take (k + 1) = gens.take k ++ [gens[k]] := by rw [List.take_succ_eq_append_getElem hkl]
      refine ⟨g.len - (k + 1), by omega, k + 1, b :: (o4 ++ o7 ++ of'), wr64 (by omega) (by omega), by omega, rfl, ?_, ?_, ?_, ?_⟩
      · intro x hx
        rw [htk] at hx
        rcases List.mem_append.1 hx with hx | hx
        · exact hall x hx
        · simp only [List.mem_singleton] at hx; subst hx; omega
      · refine ⟨s', s'', sf, o4, o7, of', by simpa using hb8, ?_, ?_, ?_, rfl, ?_⟩
        · have := hs7'.fr f8 (ni1 nb4)
          show SlAt w8 s' 3 (ints (List.map _ _)) o4
          rw [htk, List.map_append]
          exact this
        · have := hs7.fr f8 (ni1 nb7)
          show SlAt w8 s'' 4 (bools (List.map _ _)) o7
          rw [htk, List.map_append]
          exact this
        · exact hfr7.fr f8 (ni1 hnd.1.2)
        · simp only [List.nodup_cons, List.mem_append, List.nodup_append, not_or]
          refine ⟨⟨⟨nb4, nb7⟩, hnd.1.2⟩, ⟨?_, ?_, ?_⟩, hnd.2.2.1, ?_⟩
          · rcases ho4 with rfl | ⟨n, _, _, rfl⟩
            · exact hnd.2.1.1
            · simp
          · rcases ho7 with rfl | ⟨n, _, _, rfl⟩
            · exact hnd.2.1.2.1
            · simp
          · rintro x hx y hy rfl; exact ng7 x hx hy
          · rintro x (hx | hx) y hy rfl
            · exact nf4 x hy hx
            · exact nf7 x hy hx
      · intro k hk
        simp only [List.mem_cons, List.mem_append] at hk
        rcases hk with rfl | (hk | hk) | hk
        · exact hO k (by simp)
        · rcases e4 k hk with h | h
          · exact hO k (by simp [h])
          · have := f2.size; omega
        · rcases e7 k hk with h | h
          · exact hO k (by simp [h])
          · have := f2.size; omega
        · exact hO k (by simp [hk])
      · exact (((((f2.trans f3 (by simp)).trans f4 (fun k hk => .inr (hO k (by simp [hk])))).trans f5 (by simp; omega)).trans f6 (by simp)).trans f7 (fun k hk => .inr (hO k (by simp [hk])))).trans f8 (by simp; omega)
  rw [if_neg (by simpa using hlt)]
  have e1 : k = gens.length := by omega
  subst e1
  rw [List.take_length] at hall hp2
  have hfm : fromM most gens free = frFree gens free ⟨most, gens.map (fun g => if 1000000 < g then 1000000 else g), gens.map (fun g => decide (g ≤ 1000000)), []⟩ := by
    unfold fromM
    rw [if_neg]
    rintro (h | h | h | h)
    · omega
    · omega
    · omega
    · exact h hall
  rw [hfm] at hK
  have hfl2 := hf.len
  refine ⟨fun t n w' => ∃ (k : Nat) (O : List Nat) (m : PoolM), t = k ∧ k ≤ f.len ∧ n = f.len - k ∧ m.gens = gens.map (fun g => if 1000000 < g then 1000000 else g) ∧ m.alive.length = gens.length ∧ m.free = free.take k ∧
      frFree gens free ⟨most, gens.map (fun g => if 1000000 < g then 1000000 else g), gens.map (fun g => decide (g ≤ 1000000)), []⟩ = frFree gens (free.drop k) m ∧
      PoolAt w' b m O ∧ (∀ k ∈ O, w.heap.size ≤ k) ∧ Fr [] w w',
    ⟨f.len, 0, O, _, by simp, by omega, by omega, rfl, by simp, by simp, by simp, hp2, hO, f2⟩, ?_⟩
  rintro t n w3 ⟨k, O, m, rfl, hk, rfl, hmg, hma, hmf, hfrom, hp3, hO3, f3⟩
  by_cases hlt : k < f.len
  · rw [if_pos (by simpa using hlt)]
    have hkl : k < free.length := by omega
    have hdr : free.drop k = free[k] :: free.drop (k + 1) := List.drop_eq_getElem_cons hkl
    refine SlR.ix iv_len (hf.fr f3 (by simp)) (Int.natCast_nonneg k) (x := free[k]) (by simp [hkl]) fun a hcs => ?_
    refine ldR0 (k := .i .i64) (x := free[k]) (hcs 0 (by omega)) rfl ?_
    have bad : (free[k] < 0 ∨ free[k] ≥ gens.length ∨ m.alive.getD free[k].toNat false = false ∨ gens.getD free[k].toNat 0 ≥ 1000000) → K none 1 w3 := by
      intro h
      refine hK w3 _ _ f3 ?_
      rw [hfrom, hdr, frFree, if_pos h]
      exact ⟨rfl, rfl⟩
    refine ⟨fun w' => w' = w3 ∧ ¬ (free[k] < 0 ∨ free[k] ≥ gens.length ∨ m.alive.getD free[k].toNat false = false ∨ gens.getD free[k].toNat 0 ≥ 1000000), ?_, ?_⟩
    · by_cases c1 : free[k] < 0
      · rw [if_pos (by simpa using c1)]; exact bad (.inl c1)
      rw [if_neg (by simpa using c1)]
      by_cases c2 : free[k] ≥ gens.length
      · rw [if_pos (by simp; omega)]; exact bad (.inr (.inl c2))
      rw [if_neg (by simp; omega)]
      obtain ⟨sg, sa, sf, og', oa, of', hb, hg', hal, hfr, rfl, hnd⟩ := hp3
      refine ldf (k := .sl) (x := sa) hb rfl ?_
      have c3 : free[k].toNat < m.alive.length := by omega
      refine ixld hal (by omega) (bools_get c3) ?_
      cases c4 : m.alive[free[k].toNat] with
      | false => rw [if_pos (by simp)]; exact bad (.inr (.inr (.inl (by simp [c3, c4]))))
      | true =>
        rw [if_neg (by simp)]
        have c5 : free[k].toNat < gens.length := by omega
        refine SlR.ix iv_len (hg.fr f3 (by simp)) (by omega) (x := gens[free[k].toNat]) (by simp [c5]) fun a hcs => ?_
        refine ldR0 (k := .i .i64) (x := gens[free[k].toNat]) (hcs 0 (by omega)) rfl ?_
        by_cases c6 : gens[free[k].toNat] ≥ 1000000
        · rw [if_pos (by simpa using c6)]; exact bad (.inr (.inr (.inr (by simp [c5]; exact c6))))
        · rw [if_neg (by simpa using c6)]
          refine ⟨rfl, ?_⟩
          rintro (h | h | h | h)
          · exact c1 h
          · exact c2 h
          · simp [c3, c4] at h
          · simp [c5] at h; exact c6 h
    · rintro w4 ⟨rfl, hgood⟩
      obtain ⟨sg, sa, sf, og', oa, of', hb, hg', hal, hfr, rfl, hnd⟩ := hp3
      simp only [List.nodup_cons, List.mem_append, List.nodup_append, not_or] at hnd
      have hlt2 : ∀ k ∈ b :: (og' ++ oa ++ of'), k < w4.heap.size := PoolAt.lt (m := m) ⟨sg, sa, sf, og', oa, of', hb, hg', hal, hfr, rfl, by simp only [List.nodup_cons, List.mem_append, List.nodup_append, not_or]; exact hnd⟩
      refine ldf (k := .sl) (x := sa) hb rfl ?_
      refine ixst hal (by omega) (by rw [bools_len]; omega) rfl fun w5 hal5 f5 s5 => ?_
      rw [bools_set] at hal5
      have hb5 := hb.fr f5 (fun hm' => hnd.1.1.2 hm')
      have hg5 := hg'.fr f5 (fun k hk hk' => hnd.2.1.2.2 k hk k hk' rfl)
      have hfr5 := hfr.fr f5 (fun k hk hk' => hnd.2.2.2 k (.inr hk') k hk rfl)
      refine ldf (k := .sl) (x := sf) hb5 rfl ?_
      refine nw fun c1 w6 hc1 hbc1 f6 s6 => ?_
      refine appI (hfr5.fr f6 (by simp)) hbc1 (by rw [hmf]; simp; omega) fun s' w7 o7 hs7 ho7 f7 _ => ?_
      have hb7 := (hb5.fr f6 (by simp)).fr f7 (fun hm' => hnd.1.2 hm')
      have hg7 := (hg5.fr f6 (by simp)).fr f7 (fun k hk hk' => hnd.2.2.2 k (.inl hk) k hk' rfl)
      have hal7 := (hal5.fr f6 (by simp)).fr f7 (fun k hk hk' => hnd.2.2.2 k (.inr hk) k hk' rfl)
      have e7 : ∀ k ∈ o7, k ∈ of' ∨ w4.heap.size ≤ k := by
        rcases ho7 with rfl | ⟨n, h1, _, rfl⟩
        · exact fun k hk => .inl hk
        · have := f5.size; have := f6.size; simp; omega
      have nb7 : b ∉ o7 := fun hm' => (e7 b hm').elim hnd.1.2 (fun h => by have := hlt2 b (by simp); omega)
      have ng7 : ∀ k ∈ og' ++ oa, k ∉ o7 := fun k hk hm' => (e7 k hm').elim (fun h => hnd.2.2.2 k (List.mem_append.1 hk) k h rfl) (fun h => by have := hlt2 k (List.mem_cons_of_mem _ (List.mem_append.2 (.inl hk))); omega)
      refine stf hb7 (by simp) rfl fun w8 hb8 f8 s8 => ?_
      refine ⟨f.len - (k + 1), by omega, k + 1, b :: (og' ++ oa ++ o7), { m with alive := m.alive.set free[k].toNat false, free := m.free ++ [free[k]] }, wr64 (by omega) (by omega), by omega, rfl, hmg, by simpa using hma, ?_, ?_, ?_, ?_, ?_⟩
      · show m.free ++ [free[k]] = _
        rw [hmf, List.take_succ_eq_append_getElem hkl]
      · rw [hfrom, hdr, frFree, if_neg hgood]
      · refine ⟨sg, sa, s', og', oa, o7, hb8, ?_, ?_, ?_, rfl, ?_⟩
        · exact hg7.fr f8 (ni1 hnd.1.1.1)
        · exact hal7.fr f8 (ni1 hnd.1.1.2)
        · have := hs7.fr f8 (ni1 nb7)
          simpa using this
        · simp only [List.nodup_cons, List.mem_append, List.nodup_append, not_or]
          refine ⟨⟨hnd.1.1, nb7⟩, hnd.2.1, ?_, ?_⟩
          · rcases ho7 with rfl | ⟨n, _, _, rfl⟩
            · exact hnd.2.2.1
            · simp
          · rintro x hx y hy rfl
            exact ng7 x (List.mem_append.2 hx) hy
      · intro k hk
        simp only [List.mem_cons, List.mem_append] at hk
        rcases hk with rfl | hk | hk
        · exact hO3 k (by simp)
        · exact hO3 k (by rcases hk with hk | hk <;> simp [hk])
        · rcases e7 k hk with h | h
          · exact hO3 k (by simp [h])
          · have := f3.size; omega
      · exact (((f3.trans f5 (fun k hk => .inr (hO3 k (by simp [hk])))).trans f6 (by simp)).trans f7 (fun k hk => .inr (hO3 k (by simp [hk])))).trans f8 (by simp; omega)
  · rw [if_neg (by simpa using hlt)]
    have e1 : k = free.length := by omega
    subst e1
    rw [List.drop_length, frFree] at hfrom
    rw [hfrom] at hK
    exact hK w3 _ _ f3 ⟨rfl, b, O, rfl, hp3, hO3⟩
end Go.Proofs.Ytmlkjbolccapkaa.F
