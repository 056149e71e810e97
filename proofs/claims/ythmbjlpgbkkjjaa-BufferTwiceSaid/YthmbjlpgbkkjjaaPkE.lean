/-
  Part 5 of the proof: BufferTwice of layer 17 is true of the given program for every input that its guards let in.
-/
import Derived.Test.YthmbjlpgbkkjjaaPkD
import Derived.Lib.SliceRun
set_option linter.unusedSimpArgs false
set_option linter.unusedVariables false
set_option maxRecDepth 100000
section
namespace Go.Proofs.Ythmbjlpgbkkjjaa.FI
open F
open Go Go.Den Go.Proofs
abbrev iv (i : Int) : List Value := [.int .i64 i]
abbrev bv (b : Bool) : List Value := [.bool b]
abbrev ent (x : Int × Int) : List Value := [.int .i64 x.1, .int .i64 x.2]
theorem iv_len (x : Int) : (iv x).length = 1 := rfl
theorem bv_len (x : Bool) : (bv x).length = 1 := rfl
theorem ent_len (x : Int × Int) : (ent x).length = 2 := rfl
theorem ints_fm (l : List Int) : l.flatMap iv = ints l := by
 induction l with
 | nil => rfl
 | cons x l ih => rw [List.flatMap_cons, ih]; rfl
theorem bools_fm (l : List Bool) : l.flatMap bv = bools l := by
 induction l with
 | nil => rfl
 | cons x l ih => rw [List.flatMap_cons, ih]; rfl
theorem sl_ints {w : World} {s : Sl} {e : TypeId} {l : List Int} {o : List Nat} : SlAt w s e (ints l) o ↔ SlF w s e 1 iv l o := by
 simp only [SlAt, SlF, ints_len, ints_fm, Nat.mul_one]
theorem sl_bools {w : World} {s : Sl} {e : TypeId} {l : List Bool} {o : List Nat} : SlAt w s e (bools l) o ↔ SlF w s e 1 bv l o := by
 simp only [SlAt, SlF, bools_len, bools_fm, Nat.mul_one]
theorem bytes31 : ∃ inf : TypeInfo, Try.prog.info? 33 = some inf ∧ inf.zero = some (.agg #[.int .i64 0, .int .i64 0]) ∧ inf.size = 2 ∧ inf.bytes = 16 := infoP (by kernel_rfl)
theorem und29 : Try.prog.underlying 48 = some (.slice 33) := by kernel_rfl
theorem appE {s : Sl} {w : World} {vs : List (Int × Int)} {o : List Nat} {b : Nat} {v : Int × Int} {K : Sl → World → Prop} (h : SlF w s 33 2 ent vs o) (hb : Blk w b 33 [.int .i64 v.1, .int .i64 v.2]) (hn : vs.length ≤ 1000000000)
  (hK : ∀ s' w' o', SlF w' s' 33 2 ent (vs ++ [v]) o' → (o' = o ∨ ∃ k, w.heap.size ≤ k ∧ k < w'.heap.size ∧ o' = [k]) → Fr o w w' → K s' w') :
  Run .sl Try.prog (Builtin.append_ #[48, 48] 48 #[.slice s.a s.len s.cap, .slice (some ⟨b, 0, none⟩) 1 1]) w K := by
 obtain ⟨inf, h1, h4, h2, h3⟩ := bytes31
 have hl := h.len
 refine SlF.app ent_len und29 h1 h2 h4 rfl h (news := [v]) rfl ?_ (by simp [Value.oneCell']) (by rw [h3]; omega) (by omega) ?_
 ·intro j u hj
  rw [Addr.add_none, hb.cell]
  simpa using hj
 ·intro s' w' o' g1 g2 g3 g4 g5 g6 g7
  exact hK s' w' o' g1 g3 g5
theorem nwE {i g : Int} {w : World} {K : Addr → World → Prop}
  (hK : ∀ b w', w.heap.size ≤ b → Blk w' b 33 [.int .i64 i, .int .i64 g] → Fr [] w w' → K ⟨b, 0, none⟩ w') :
  Nw (.cells #[.int .i64 0, .int .i64 0] 33) w fun (x : Addr) (w : World) => St x (.int .i64 i) w fun (w : World) => St (x.add 1) (.int .i64 g) w fun (w : World) => K x w := by
 refine nw fun b w1 hb hbb f1 s1 => ?_
 refine st (o := 0) hbb (by simp) rfl fun w2 hb2 f2 s2 => ?_
 refine stf hb2 (by simp) rfl fun w3 hb3 f3 s3 => ?_
 exact hK b w3 (by omega) hb3 ((f1.trans f2 (by simp; omega)).trans f3 (by simp; omega))
theorem ldE {b : Nat} {i g : Int} {w : World} {K : Int → Int → Prop} (h : Blk w b 33 [.int .i64 i, .int .i64 g]) (hK : K i g) :
  Ld (.i .i64) w ⟨b, 0, none⟩ fun (x : Int) => Ld (.i .i64) w ((⟨b, 0, none⟩ : Addr).add 1) fun (y : Int) => K x y :=
 ld (k := .i .i64) h rfl (ldf (k := .i .i64) h rfl hK)
def PoolM.allU (m : PoolM) : Nat → List (Int × Int)
 | 0 => []
 | k + 1 => if m.lives k then m.allU k ++ [((k : Int), m.gen k)] else m.allU k
theorem PoolM.allU_len (m : PoolM) : ∀ k, (m.allU k).length ≤ k
 | 0 => by simp [PoolM.allU]
 | k + 1 => by
  have := allU_len m k
  simp only [PoolM.allU]; split <;> simp <;> omega
theorem All_spec {b : Nat} {w : World} {m : PoolM} {O : List Nat} {K : Sl → World → Prop} (h : PoolAt w b m O) (hm : m.Ok)
  (hK : ∀ w' l o, SlF w' l 33 2 ent (m.allU m.gens.length) o → (∀ k ∈ o, w.heap.size ≤ k) → Fr [] w w' → K l w') : c31 (some ⟨b, 0, none⟩) w K := by
 refine c31_of ?_
 unfold f31
 simp only [NN_some]
 have h0 := h
 obtain ⟨sg, sa, sf, og, oa, of_, hb, hg, hal, hfr, rfl, hnd⟩ := h0
 have hgl := hg.len
 rw [ints_len] at hgl
 have h200 := hm.len200
 refine ldf (k := .sl) (x := sg) hb rfl ?_
 refine ⟨fun out t12 n w' => ∃ (k : Nat) (o : List Nat), t12 = k ∧ k ≤ sg.len ∧ n = sg.len - k ∧ SlF w' out 33 2 ent (m.allU k) o ∧ (∀ k ∈ o, w.heap.size ≤ k) ∧ Fr [] w w', ⟨sg.len, 0, [], by simp, by omega, by omega, SlF.nil, by simp, Fr.refl _ _⟩, ?_⟩
 rintro out t12 n w1 ⟨k, o, rfl, hk, rfl, hs, ho, f1⟩
 by_cases hlt : k < sg.len
 ·rw [if_pos (by simpa using hlt)]
  refine At_spec (h.fr f1 (by simp)) hm.len fun w2 f2 => ?_
  cases hl : m.lives k with
  | true =>
   rw [if_pos rfl]
   refine nwE fun x w3 hx hbx f3 => ?_
   rw [if_pos (by rfl)]
   refine ldE hbx ?_
   refine nw fun y w4 hy hby f4 s4 => ?_
   have f68 := ((f1.trans f2 (by simp)).trans f3 (by simp)).trans f4 (by simp)
   refine appE (v := ((k : Int), m.gen k)) (((hs.fr f2 (by simp)).fr f3 (by simp)).fr f4 (by simp)) hby (by have := m.allU_len k; omega) fun s' w5 o' g1 g2 g3 => ?_
   refine ⟨sg.len - (k + 1), by omega, k + 1, o', wr64 (by omega) (by omega), by omega, rfl, ?_, ?_, ?_⟩
   ·simpa [PoolM.allU, hl] using g1
   ·rcases g2 with rfl | ⟨n, h1, _, rfl⟩
    ·exact ho
    ·have := f68.size; simp; omega
   ·exact f68.trans g3 (fun k hk => .inr (ho k hk))
  | false =>
   rw [if_neg (by simp)]
   refine nwE fun x w3 hx hbx f3 => ?_
   rw [if_neg (by simp)]
   refine ⟨sg.len - (k + 1), by omega, k + 1, o, wr64 (by omega) (by omega), by omega, rfl, ?_, ho, ?_⟩
   ·have := (hs.fr f2 (by simp)).fr f3 (by simp)
    simpa [PoolM.allU, hl] using this
   ·exact (f1.trans f2 (by simp)).trans f3 (by simp)
 ·rw [if_neg (by simpa using hlt)]
  have : k = m.gens.length := by omega
  subst this
  exact hK w1 out o hs ho f1
theorem CloneI {s : Sl} {w : World} {l : List Int} {o : List Nat} {K : Sl → World → Prop} (h : SlR w s 1 iv l o) (hn : l.length ≤ 1000000000)
  (hK : ∀ w' s' o', SlF w' s' 3 1 iv l o' → (∀ k ∈ o', w.heap.size ≤ k) → (s'.a = none ↔ s.a = none) → Fr [] w w' → K s' w') : c55 s w K := by
 refine c55_of ?_
 unfold f55
 by_cases hs : s.a = none
 ·rw [if_pos (by simp [hs])]
  have := h.isNil hs
  subst this
  exact hK w _ [] SlF.nil (by simp) (by simp [hs]) (Fr.refl _ _)
 ·rw [if_neg (by simpa using hs)]
  refine nw (c := []) fun b w1 hb hbb f1 s1 => ?_
  obtain ⟨inf, h1, h4, h2, h3⟩ := bytes3
  have hl := h.len
  refine SlF.appS (s := ⟨some ⟨b, 0, none⟩, 0, 0⟩) (l := []) iv_len und22 h1 h2 h4 rfl ⟨rfl, .inr ⟨b, 0, [], rfl, rfl, hbb, by simp, by simp, rfl⟩⟩ (h.fr f1 (by simp)) (by simp [iv, Value.oneCell']) (by rw [h3]; show (0 + s.len) * 8 ≤ _; omega) (by show 0 + s.len ≤ _; omega) ?_
  intro s' w' o' g1 g2 g3 g4 g5 g6 g7
  refine hK w' s' o' g1 ?_ ?_ (f1.trans g5 (by simp; omega))
  ·rcases g3 with rfl | ⟨n, h1, _, rfl⟩
   ·simp; omega
   ·simp; omega
  ·simp [hs, g7 (by simp)]
theorem tk_set {α : Type} {a b : List α} {k : Nat} {x : α} (hl : a.length = b.length) (hk : a[k]? = some x) : (a.take k ++ b.drop k).set k x = a.take (k + 1) ++ b.drop (k + 1) := by
 have hk' := (List.getElem?_eq_some_iff.1 hk).1
 apply List.ext_getElem?
 intro j
 simp only [List.getElem?_set, List.getElem?_append, List.getElem?_take, List.getElem?_drop, List.length_append, List.length_take, List.length_drop]
 by_cases h1 : k = j
 ·subst h1
  rw [if_pos rfl, if_pos (by omega), if_pos (by omega), if_pos (by omega), hk]
 ·rw [if_neg h1]
  by_cases h2 : j < k
  ·rw [if_pos (by omega), if_pos h2, if_pos (by omega), if_pos (by omega)]
  ·rw [if_neg (by omega), if_neg (by omega)]
   congr 1; omega
theorem tk_same {α : Type} {a b : List α} {k : Nat} (hl : a.length = b.length) (hk : a[k]? = b[k]?) : a.take k ++ b.drop k = a.take (k + 1) ++ b.drop (k + 1) := by
 apply List.ext_getElem?
 intro j
 simp only [List.getElem?_append, List.getElem?_take, List.getElem?_drop, List.length_take]
 by_cases h2 : j < k
 ·by_cases h3 : j < a.length
  ·rw [if_pos (by omega), if_pos h2, if_pos (by omega), if_pos (by omega)]
  ·rw [if_neg (by omega), if_neg (by omega)]
   rw [List.getElem?_eq_none (by omega), List.getElem?_eq_none (by omega)]
 ·by_cases h3 : j = k
  ·subst h3
   by_cases h4 : j < a.length
   ·rw [if_neg (by omega), if_pos (by omega), if_pos (by omega), ← hk.symm]
    congr 1; omega
   ·rw [if_neg (by omega), if_neg (by omega)]
    rw [List.getElem?_eq_none (by omega), List.getElem?_eq_none (by omega)]
  ·rw [if_neg (by omega), if_neg (by omega)]
   by_cases h4 : k < a.length
   ·congr 1; omega
   ·rw [List.getElem?_eq_none (by omega), List.getElem?_eq_none (by omega)]
def PoolM.stGens (m : PoolM) : List Int := m.gens.mapIdx fun i g => if g = 1000000 ∧ m.lives i = false then g + 1 else g
theorem State_spec {b : Nat} {w : World} {m : PoolM} {O : List Nat} {K : Sl → Sl → World → Prop} (h : PoolAt w b m O) (hm : m.Ok)
  (hK : ∀ w' g f og of_, SlF w' g 3 1 iv m.stGens og → SlF w' f 3 1 iv m.free of_ → (∀ k ∈ og, w.heap.size ≤ k) → (∀ k ∈ of_, w.heap.size ≤ k ∧ k ∉ og) → Fr [] w w' → K g f w') : c35 (some ⟨b, 0, none⟩) w K := by
 refine c35_of ?_
 unfold f35
 simp only [NN_some]
 have h0 := h
 obtain ⟨sg, sa, sf, og, oa, of_, hb, hg, hal, hfr, rfl, hnd⟩ := h0
 have hgl := hg.len
 rw [ints_len] at hgl
 have h200 := hm.len200
 refine ldf (k := .sl) (x := sg) hb rfl ?_
 refine CloneI (sl_ints.1 hg).toR (by omega) fun w1 s1 o1 hs1 ho1 hn1 f1 => ?_
 have hl1 := hs1.len
 have hsl : m.stGens.length = m.gens.length := by simp [PoolM.stGens]
 refine ⟨fun t n w' => ∃ k : Nat, t = k ∧ k ≤ s1.len ∧ n = s1.len - k ∧ SlF w' s1 3 1 iv (m.stGens.take k ++ m.gens.drop k) o1 ∧ Fr [] w w', ⟨s1.len, 0, by simp, by omega, by omega, by simpa using hs1, f1⟩, ?_⟩
 rintro t n w2 ⟨k, rfl, hk, rfl, hs, f2⟩
 by_cases hlt : k < s1.len
 ·rw [if_pos (by simpa using hlt)]
  have hkl : k < m.gens.length := by omega
  have hkl2 : k < m.stGens.length := by omega
  have hgk : (m.stGens.take k ++ m.gens.drop k)[k]? = some m.gens[k] := by
   rw [List.getElem?_append_right (by simp; omega)]
   simp only [List.length_take, List.getElem?_drop]
   rw [show k + (k - min k m.stGens.length) = k by omega]
   simp [hkl]
  have hst : m.stGens[k]? = some (if m.gens[k] = 1000000 ∧ m.lives k = false then m.gens[k] + 1 else m.gens[k]) := by
   simp [PoolM.stGens, hkl]
  refine SlF.ix iv_len hs (Int.natCast_nonneg k) (by simpa using hgk) fun c off cs hc hbc hoff hcs hput => ?_
  refine ld (k := .i .i64) (x := m.gens[k]) hbc (by simpa [Kd.inj] using hcs 0 (by omega)) ?_
  have next : ∀ w3, SlF w3 s1 3 1 iv (m.stGens.take (k + 1) ++ m.gens.drop (k + 1)) o1 → Fr [] w w3 → ∃ m2 : Nat, m2 < s1.len - k ∧ ∃ k_1 : Nat, (IntKind.i64.wrap ((k : Int) + 1)) = k_1 ∧ k_1 ≤ s1.len ∧ m2 = s1.len - k_1 ∧ SlF w3 s1 3 1 iv (m.stGens.take k_1 ++ m.gens.drop k_1) o1 ∧ Fr [] w w3 := by
   intro w3 a1 a2
   exact ⟨s1.len - (k + 1), by omega, k + 1, wr64 (by omega) (by omega), by omega, rfl, a1, a2⟩
  refine ⟨fun t w' => w' = w2 ∧ t = decide (m.gens[k] = 1000000 ∧ m.lives k = false), ?_, ?_⟩
  ·by_cases hmax : m.gens[k] = 1000000
   ·rw [if_pos (by simpa using hmax)]
    obtain ⟨sg, sa, sf, og, oa, of_, hb, hg, hal, hfr, hO, hnd⟩ := h.fr f2 (by simp)
    refine ldf (k := .sl) (x := sa) hb rfl ?_
    have hka : k < m.alive.length := by rw [hm.len]; exact hkl
    refine ixld hal (Int.natCast_nonneg k) (bools_get (i := ((k : Int)).toNat) (by simpa using hka)) ?_
    refine ⟨rfl, ?_⟩
    simp [hmax, PoolM.lives, hka]
   ·rw [if_neg (by simpa using hmax)]
    exact ⟨rfl, by simp [hmax]⟩
  ·rintro t w3 ⟨rfl, rfl⟩
   by_cases hd : m.gens[k] = 1000000 ∧ m.lives k = false
   ·rw [if_pos (by simpa using hd)]
    rw [if_pos hd] at hst
    refine SlF.ix iv_len hs (Int.natCast_nonneg k) (by simpa using hgk) fun c off cs hc hbc hoff hcs hput => ?_
    refine ld (k := .i .i64) (x := m.gens[k]) hbc (by simpa [Kd.inj] using hcs 0 (by omega)) ?_
    refine SlF.ix iv_len hs (Int.natCast_nonneg k) (by simpa using hgk) fun c2 off2 cs2 hc2 hbc2 hoff2 hcs2 hput2 => ?_
    refine st hbc2 (by omega) rfl fun w4 hb4 f4 s4 => ?_
    refine next w4 ?_ (f2.trans f4 (by
     have := ho1 c2 (by rw [hc2]; simp)
     simpa using this))
    have e1 : IntKind.i64.wrap (m.gens[k] + 1) = m.gens[k] + 1 := by rw [hd.1]; rfl
    rw [← tk_set hsl hst, ← e1]
    have := hput2 w4 (IntKind.i64.wrap (m.gens[k] + 1)) (by
     rw [List.set_eq_take_append_cons_drop, if_pos (by omega)] at hb4
     simpa using hb4)
    simpa using this
   ·rw [if_neg (by simpa using hd)]
    rw [if_neg hd] at hst
    refine next w3 ?_ f2
    rw [← tk_same hsl (by rw [hst]; simp [hkl])]
    exact hs
 ·rw [if_neg (by simpa using hlt)]
  have e1 : k = m.gens.length := by omega
  subst e1
  obtain ⟨sg, sa, sf, og, oa, of_, hb, hg, hal, hfr, hO, hnd⟩ := h.fr f2 (by simp)
  refine ldf (k := .sl) (x := sf) hb rfl ?_
  have hfl : m.free.length ≤ 200 := by have := hm.cnt; omega
  refine CloneI (sl_ints.1 hfr).toR (by omega) fun w3 s3 o3 hs3 ho3 hn3 f3 => ?_
  refine hK w3 s1 s3 o1 o3 ?_ hs3 ho1 ?_ (f2.trans f3 (by simp))
  ·have := hs.fr f3 (by simp)
   rw [List.take_of_length_le (by omega), List.drop_length, List.append_nil] at this
   exact this
  ·intro k hk
   have := ho3 k hk
   refine ⟨by have := f2.size; omega, fun hm' => ?_⟩
   have := hs.lt k hm'
   omega
theorem getD_set {α : Type} (l : List α) (i j : Nat) (v d : α) : (l.set i v).getD j d = if i = j ∧ j < l.length then v else l.getD j d := by
 simp only [List.getD_eq_getElem?_getD, List.getElem?_set]
 by_cases h1 : i = j
 ·subst h1
  by_cases h2 : i < l.length
  ·simp [h2]
  ·simp [h2]
 ·simp [h1]
theorem getD_app {α : Type} (l : List α) (j : Nat) (v d : α) : (l ++ [v]).getD j d = if j = l.length then v else l.getD j d := by
 simp only [List.getD_eq_getElem?_getD, List.getElem?_append]
 by_cases h1 : j < l.length
 ·rw [if_pos h1, if_neg (by omega)]
 ·rw [if_neg h1]
  by_cases h2 : j = l.length
  ·subst h2; simp
  ·rw [if_neg h2, List.getElem?_eq_none (by simp; omega), List.getElem?_eq_none (by omega)]
theorem count_set {l : List Bool} {i : Nat} {v : Bool} (h : i < l.length) : (l.set i v).count true + (if l[i] = true then 1 else 0) = l.count true + (if v = true then 1 else 0) := by
 induction l generalizing i with
 | nil => simp at h
 | cons x l ih =>
  cases i with
  | zero => simp only [List.set_cons_zero, List.count_cons, List.getElem_cons_zero]; cases x <;> cases v <;> simp
  | succ i =>
   have := ih (i := i) (by simpa using h)
   simp only [List.set_cons_succ, List.count_cons, List.getElem_cons_succ]
   omega
namespace PoolM
theorem Ok.new {n : Int} (h1 : 1 ≤ n) (h2 : n ≤ 200) : Ok ⟨n, [], [], []⟩ :=
 ⟨h1, h2, rfl, by simp; omega, by simp, by simp, by simp, by simp⟩
theorem lives_takeNew (m : PoolM) (hl : m.alive.length = m.gens.length) (i : Int) : m.takeNew.lives i = if i = m.gens.length then true else m.lives i := by
 simp only [lives, takeNew, getD_app, hl]
 by_cases h : i = m.gens.length
 ·subst h; simp
 ·rw [if_neg h]
  by_cases h0 : 0 ≤ i
  ·rw [if_neg (by omega)]
  ·simp [h0]
theorem gen_takeNew (m : PoolM) {i : Int} (hi : 0 ≤ i) : m.takeNew.gen i = if i = m.gens.length then 1 else m.gen i := by
 simp only [gen, takeNew, getD_app]
 by_cases h : i = m.gens.length
 ·subst h; simp
 ·rw [if_neg h, if_neg (by omega)]
theorem lives_takeFree (m : PoolM) {i : Int} {rest : List Int} (hi : 0 ≤ i) (hl : i.toNat < m.alive.length) (j : Int) : (m.takeFree i rest).lives j = if j = i then true else m.lives j := by
 simp only [lives, takeFree, getD_set]
 by_cases h : j = i
 ·subst h; simp [hi, hl]
 ·rw [if_neg h]
  by_cases h0 : 0 ≤ j
  ·rw [if_neg (by omega)]
  ·simp [h0]
theorem gen_takeFree (m : PoolM) {i : Int} {rest : List Int} (hi : 0 ≤ i) (hl : i.toNat < m.gens.length) {j : Int} (hj : 0 ≤ j) : (m.takeFree i rest).gen j = if j = i then m.gen i + 1 else m.gen j := by
 simp only [gen, takeFree, getD_set]
 by_cases h : j = i
 ·subst h; simp [hi, hl]
 ·rw [if_neg h, if_neg (by omega)]
theorem lives_give (m : PoolM) {i g : Int} (hi : 0 ≤ i) (hl : i.toNat < m.alive.length) (j : Int) : (m.give i g).lives j = if j = i then false else m.lives j := by
 simp only [lives, give, getD_set]
 by_cases h : j = i
 ·subst h; simp [hi, hl]
 ·rw [if_neg h]
  by_cases h0 : 0 ≤ j
  ·rw [if_neg (by omega)]
  ·simp [h0]
theorem gen_give (m : PoolM) {i g : Int} (j : Int) : (m.give i g).gen j = m.gen j := rfl
theorem Ok.gen {m : PoolM} (h : m.Ok) {i : Int} (h0 : 0 ≤ i) (h1 : i < m.gens.length) : 1 ≤ m.gen i ∧ m.gen i ≤ 1000000 := by
 have hl : i.toNat < m.gens.length := by omega
 simp only [PoolM.gen, List.getD_eq_getElem?_getD, List.getElem?_eq_getElem hl, Option.getD_some]
 exact h.gens _ (List.getElem_mem hl)
theorem Ok.takeNew {m : PoolM} (h : m.Ok) (hf : m.free = []) (hl : (m.gens.length : Int) < m.most) : m.takeNew.Ok where
 most1 := h.most1
 most2 := h.most2
 len := by simp [PoolM.takeNew, h.len]
 le := by simp [PoolM.takeNew]; omega
 gens := by
  intro g hg
  simp only [PoolM.takeNew, List.mem_append, List.mem_singleton] at hg
  rcases hg with hg | rfl
  ·exact h.gens g hg
  ·omega
 free := by simp [PoolM.takeNew, hf]
 nodup := h.nodup
 cnt := by have := h.cnt; simp [PoolM.takeNew, hf, List.count_append] at this ⊢; omega
theorem Ok.takeFree {m : PoolM} (h : m.Ok) {i : Int} {rest : List Int} (hf : m.free = i :: rest) : (m.takeFree i rest).Ok := by
 have hi := h.free i (by simp [hf])
 have hnd := h.nodup
 rw [hf, List.nodup_cons] at hnd
 have hla : i.toNat < m.alive.length := by rw [h.len]; omega
 have hlg : i.toNat < m.gens.length := by omega
 refine ⟨h.most1, h.most2, by simp [PoolM.takeFree, h.len], by simpa [PoolM.takeFree] using h.le, ?_, ?_, hnd.2, ?_⟩
 ·intro g hg
  rcases List.mem_or_eq_of_mem_set hg with hg | rfl
  ·exact h.gens g hg
  ·have := h.gen hi.1 hi.2.1
   omega
 ·intro j hj
  have hj' : j ∈ m.free := by rw [hf]; exact List.mem_cons_of_mem _ hj
  have hne : j ≠ i := fun e => hnd.1 (e ▸ hj)
  obtain ⟨a1, a2, a3, a4⟩ := h.free j hj'
  refine ⟨a1, by simpa [PoolM.takeFree] using a2, ?_, ?_⟩
  ·rw [lives_takeFree m hi.1 hla, if_neg hne]; exact a3
  ·rw [gen_takeFree m hi.1 hlg a1, if_neg hne]; exact a4
 ·have hc := h.cnt
  have h1 := count_set (l := m.alive) (v := true) hla
  have h2 : m.alive[i.toNat] = false := by
   have := hi.2.2.1
   simpa [PoolM.lives, hi.1, hla] using this
  rw [h2] at h1
  simp only [PoolM.takeFree, List.length_set]
  rw [hf] at hc
  simp at hc h1
  omega
theorem is_iff {m : PoolM} {i g : Int} : m.is i g = true ↔ m.lives i = true ∧ m.gen i = g := by simp [PoolM.is]
theorem Ok.give {m : PoolM} (h : m.Ok) {i g : Int} (hi : m.is i g = true) : (m.give i g).Ok := by
 obtain ⟨hlv, hg⟩ := is_iff.1 hi
 obtain ⟨h0, hla, hal⟩ := lives_lt hlv
 have hlg : i.toNat < m.gens.length := by rw [← h.len]; exact hla
 have hnf : i ∉ m.free := fun hm => by have := (h.free i hm).2.2.1; rw [hlv] at this; cases this
 refine ⟨h.most1, h.most2, by simp [PoolM.give, h.len], h.le, h.gens, ?_, ?_, ?_⟩
 ·intro j hj
  have : j = i ∧ g < 1000000 ∨ j ∈ m.free := by
   simp only [PoolM.give] at hj
   split at hj
   ·rename_i hlt
    rcases List.mem_append.1 hj with hj | hj
    ·exact .inr hj
    ·exact .inl ⟨by simpa using hj, hlt⟩
   ·exact .inr hj
  rcases this with ⟨rfl, hlt⟩ | hj
  ·exact ⟨h0, by show j < (m.gens.length : Int); omega, by rw [lives_give m h0 hla, if_pos rfl], by rw [gen_give, hg]; exact hlt⟩
  ·obtain ⟨a1, a2, a3, a4⟩ := h.free j hj
   refine ⟨a1, a2, ?_, a4⟩
   rw [lives_give m h0 hla]; split
   ·rfl
   ·exact a3
 ·simp only [PoolM.give]
  split
  ·rw [List.nodup_append]
   exact ⟨h.nodup, by simp, by intro a ha b hb e; simp at hb; subst hb; exact hnf (e ▸ ha)⟩
  ·exact h.nodup
 ·have hc := h.cnt
  have h1 := count_set (l := m.alive) (v := false) hla
  have h2 : m.alive[i.toNat] = true := by
   have := List.getElem?_eq_getElem hla
   rw [hal] at this; simpa using this.symm
  rw [h2] at h1
  simp only [PoolM.give]
  simp at h1
  split <;> simp <;> omega
end PoolM
structure Good (m : PoolM) (L A : List (Int × Int)) (k : Nat) : Prop where
 nd : L.Nodup
 mem : ∀ x, x ∈ L ↔ m.is x.1 x.2 = true
 lenL : L.length = m.alive.count true
 out : ∀ x ∈ A, 0 ≤ x.1 ∧ x.1 < m.gens.length ∧ x.2 ≤ m.gen x.1
 lenA : A.length ≤ k
 gens : ∀ g ∈ m.gens, g ≤ k + 1
 dead : ∀ i : Int, 0 ≤ i → i < m.gens.length → m.lives i = false → i ∈ m.free
 cnt : m.free.length + m.alive.count true = m.gens.length
theorem lives_lt' {m : PoolM} (hm : m.Ok) {i : Int} (h : m.lives i = true) : 0 ≤ i ∧ i < m.gens.length := by
 obtain ⟨h0, h1, _⟩ := lives_lt h
 have := hm.len
 exact ⟨h0, by omega⟩
theorem allU_get (m : PoolM) : ∀ k, (∀ x ∈ m.allU k, 0 ≤ x.1 ∧ x.1 < k ∧ m.lives x.1 = true ∧ m.gen x.1 = x.2) ∧ (m.allU k).Pairwise (fun x y => x.1 < y.1)
 | 0 => by simp [PoolM.allU]
 | k + 1 => by
  obtain ⟨h1, h2⟩ := allU_get m k
  simp only [PoolM.allU]
  split
  ·rename_i hl
   constructor
   ·intro x hx
    rcases List.mem_append.1 hx with hx | hx
    ·obtain ⟨a, b, c⟩ := h1 x hx
     exact ⟨a, by push_cast; omega, c⟩
    ·simp only [List.mem_singleton] at hx; subst hx
     exact ⟨Int.natCast_nonneg _, by push_cast; omega, hl, rfl⟩
   ·rw [List.pairwise_append]
    refine ⟨h2, by simp, ?_⟩
    intro x hx y hy
    simp only [List.mem_singleton] at hy; subst hy
    exact (h1 x hx).2.1
  ·exact ⟨fun x hx => by obtain ⟨a, b, c⟩ := h1 x hx; exact ⟨a, by push_cast; omega, c⟩, h2⟩
theorem inf3 : ∃ inf : TypeInfo, Try.prog.info? 3 = some inf ∧ inf.zero = some (.int .i64 0) ∧ inf.size = 1 ∧ inf.bytes = 8 := infoP (by kernel_rfl)
def poolI (ty : TypeId) (b : Nat) (m : PoolM) (sg sa sf : Sl) : Thing :=
 tStar (tBlk b ty [.int .i64 m.most, .slice sg.a sg.len sg.cap, .slice sa.a sa.len sa.cap, .slice sf.a sf.len sf.cap]) (tStar (tSl sg 3 1 iv m.gens) (tStar (tSl sa 4 1 bv m.alive) (tSl sf 3 1 iv m.free)))
def tPool (ty : TypeId) (b : Nat) (m : PoolM) : Thing := tEx fun x : Sl × Sl × Sl => poolI ty b m x.1 x.2.1 x.2.2
theorem slF_nodup {α : Type} {w : World} {s : Sl} {e : TypeId} {n : Nat} {f : α → List Value} {l : List α} {o : List Nat} (h : SlF w s e n f l o) : o.Nodup := by
 rcases h.2 with ⟨_, _, _, rfl⟩ | ⟨_, _, _, _, rfl, _⟩ <;> simp
theorem ps_of {w : World} {b : Nat} {m : PoolM} {O : List Nat} (h : PoolAt w b m O) : (tPool 112 b m).holds w O := by
 obtain ⟨sg, sa, sf, og, oa, of_, hb, hg, ha, hf, rfl, hnd⟩ := h
 simp only [List.nodup_cons, List.mem_append, List.nodup_append, not_or] at hnd
 refine ⟨(sg, sa, sf), [b], og ++ (oa ++ of_), ⟨hb, rfl⟩, ⟨og, oa ++ of_, sl_ints.1 hg, ⟨oa, of_, sl_bools.1 ha, sl_ints.1 hf, fun k hk hk' => hnd.2.2.2 k (.inr hk) k hk' rfl, by simp⟩, ?_, by simp⟩, ?_, by simp [or_assoc]⟩
 ·intro k hk hk'
  rcases List.mem_append.1 hk' with h | h
  ·exact hnd.2.1.2.2 k hk k h rfl
  ·exact hnd.2.2.2 k (.inl hk) k h rfl
 ·intro k hk hk'
  simp only [List.mem_singleton] at hk
  subst hk
  simp only [List.mem_append] at hk'
  rcases hk' with h | h | h
  ·exact hnd.1.1.1 h
  ·exact hnd.1.1.2 h
  ·exact hnd.1.2 h
theorem ps_to {w : World} {b : Nat} {m : PoolM} {O : List Nat} (h : (tPool 112 b m).holds w O) : ∃ O', PoolAt w b m O' ∧ ∀ k, k ∈ O' ↔ k ∈ O := by
 obtain ⟨⟨sg, sa, sf⟩, O1, O2, ⟨hb, rfl⟩, ⟨og, O3, hg, ⟨oa, of_, ha, hf, d1, e1⟩, d2, e2⟩, d3, e3⟩ := h
 refine ⟨b :: (og ++ oa ++ of_), ⟨sg, sa, sf, og, oa, of_, hb, sl_ints.2 hg, sl_bools.2 ha, sl_ints.2 hf, rfl, ?_⟩, fun k => ?_⟩
 ·have hb' : b ∉ O2 := d3 b (by simp)
  simp only [List.nodup_cons, List.mem_append, List.nodup_append, not_or]
  refine ⟨⟨⟨fun h => hb' ((e2 b).2 (.inl h)), fun h => hb' ((e2 b).2 (.inr ((e1 b).2 (.inl h))))⟩, fun h => hb' ((e2 b).2 (.inr ((e1 b).2 (.inr h))))⟩, ⟨slF_nodup hg, slF_nodup ha, ?_⟩, slF_nodup hf, ?_⟩
  ·rintro x hx y hy rfl; exact d2 x hx ((e1 x).2 (.inl hy))
  ·rintro x (hx | hx) y hy rfl
   ·exact d2 x hx ((e1 x).2 (.inr hy))
   ·exact d1 x hx hy
 ·rw [e3 k, e2 k, e1 k]; simp [or_assoc]
structure PoolM.Ok2 (m : PoolM) : Prop extends m.Ok where
 dead : ∀ i : Int, 0 ≤ i → i < m.gens.length → m.lives i = false → m.gen i < 1000000 → i ∈ m.free
def PoolM.takeM (m : PoolM) : PoolM × (Int × Int) × Int :=
 match m.free with
 | i :: rest => (m.takeFree i rest, (i, m.gen i + 1), 0)
 | [] => if (m.gens.length : Int) < m.most then (m.takeNew, (m.gens.length, 1), 0) else (m, (0, 0), 40)
def PoolM.giveM (m : PoolM) (i g : Int) : PoolM × Int := if m.is i g = true then (m.give i g, 0) else (m, 41)
section
variable {S : List Nat} {w0 w : World} {its : List Thing}
theorem pool_close {b : Nat} {ty : TypeId} {m : PoolM} {sg sa sf : Sl} {rest : List Thing}
  (h : Hp S w0 w (tBlk b ty [.int .i64 m.most, .slice sg.a sg.len sg.cap, .slice sa.a sa.len sa.cap, .slice sf.a sf.len sf.cap] :: tSl sg 3 1 iv m.gens :: tSl sa 4 1 bv m.alive :: tSl sf 3 1 iv m.free :: rest)) : Hp S w0 w (tPool ty b m :: rest) := by
 have h := h.joinStar (i := 2) (j := 3) (by omega) rfl rfl rfl rfl
 have h := h.joinStar (i := 1) (j := 2) (by omega) rfl rfl rfl rfl
 have h := h.joinStar (i := 0) (j := 1) (by omega) rfl rfl rfl rfl
 have h := h.putEx (f := fun x : Sl × Sl × Sl => poolI ty b m x.1 x.2.1 x.2.2) (i := 0) (sg, sa, sf) rfl rfl
 have h : Hp S w0 w (tPool ty b m :: tEmp :: tEmp :: tEmp :: rest) := h
 exact h.drop1.drop1.drop1
theorem pool_see (h : Hp S w0 w its) (i : Nat) {b : Nat} {ty : TypeId} {m : PoolM} (hi : (its[i]?).map Thing.holds = some (tPool ty b m).holds) :
  ∃ sg sa sf : Sl, Hp [] w w [(tBlk b ty [.int .i64 m.most, .slice sg.a sg.len sg.cap, .slice sa.a sa.len sa.cap, .slice sf.a sf.len sf.cap]).ro, (tSl sg 3 1 iv m.gens).ro, (tSl sa 4 1 bv m.alive).ro, (tSl sf 3 1 iv m.free).ro] := by
 obtain ⟨O, ⟨sg, sa, sf⟩, O1, O2, h1, ⟨O3, O4, h2, ⟨O5, O6, h3, h4, _⟩, _⟩, _⟩ := h.see' hi
 exact ⟨sg, sa, sf, ((((Hp.init w).addRo h1 (by simp)).addRo h2 (by simp)).addRo h3 (by simp)).addRo h4 (by simp)⟩
theorem pstep (h : Hp S w0 w its) {i b : Nat} {m : PoolM} (hi : its[i]? = some (tPool 112 b m)) :
  ∃ O, PoolAt w b m O ∧ ∀ {w' : World} {m' : PoolM} {O' : List Nat}, Fr O w w' → PoolAt w' b m' O' → (∀ k ∈ O', k ∈ O ∨ w.heap.size ≤ k) → Hp S w0 w' (its.set i (tPool 112 b m')) := by
 obtain ⟨O, hO, back⟩ := h.step hi rfl
 obtain ⟨O2, h2, e⟩ := ps_to hO
 refine ⟨O2, h2, fun {w' m' O'} hf hp hk => back (hf.mono (fun k hk => .inl ((e k).1 hk))) (ps_of hp) (fun k hk' => (hk k hk').imp_left fun h => (e k).1 h) rfl⟩
theorem psee (h : Hp S w0 w its) (i : Nat) {b : Nat} {m : PoolM} (hi : (its[i]?).map Thing.holds = some (tPool 112 b m).holds) : ∃ O, PoolAt w b m O := by
 obtain ⟨O, hO⟩ := h.see' hi
 obtain ⟨O2, h2, e⟩ := ps_to hO
 exact ⟨O2, h2⟩
theorem New_h (h : Hp S w0 w its) {n : Int} (h1 : 1 ≤ n) (h2 : n ≤ 200) {K : Option Addr → Int → World → Prop} (hK : ∀ b w', Hp S w0 w' (its ++ [tPool 112 b ⟨n, [], [], []⟩]) → K (some ⟨b, 0, none⟩) 0 w') : c28 n w K :=
 New_ok h1 h2 fun b w' hb hb' hp hf => hK b w' (h.grow hf (ps_of hp) (by simpa using hb) rfl)
theorem Take_h (h : Hp S w0 w its) (i : Nat) {b : Nat} {m : PoolM} (hm : m.Ok) (hi : its[i]? = some (tPool 112 b m)) {K : Int → Int → Int → World → Prop}
  (hK : ∀ w', Hp S w0 w' (its.set i (tPool 112 b m.takeM.1)) → K m.takeM.2.1.1 m.takeM.2.1.2 m.takeM.2.2 w') : c70 (some ⟨b, 0, none⟩) w K := by
 obtain ⟨O, hp, back⟩ := pstep h hi
 unfold PoolM.takeM at hK
 cases hf : m.free with
 | cons j rest =>
  simp only [hf] at hK
  exact Take_free hp hm hf fun w' hp' hfr => hK w' (back hfr hp' fun k hk => .inl hk)
 | nil =>
  simp only [hf] at hK
  by_cases hl : (m.gens.length : Int) < m.most
  ·simp only [if_pos hl] at hK
   exact Take_new hp hm hf hl fun w' O' hp' hk hfr => hK w' (back hfr hp' hk)
  ·simp only [if_neg hl] at hK
   have := hm.le
   refine Take_full hp hf (by omega) fun w' hfr => hK w' ?_
   rw [Hp.set_same hi]
   exact h.keep hfr
theorem Give_h (h : Hp S w0 w its) (i : Nat) {b : Nat} {m : PoolM} (hm : m.Ok) (hi : its[i]? = some (tPool 112 b m)) {x g : Int} {K : Int → World → Prop}
  (hK : ∀ w', Hp S w0 w' (its.set i (tPool 112 b (m.giveM x g).1)) → K (m.giveM x g).2 w') : c72 (some ⟨b, 0, none⟩) x g w K := by
 obtain ⟨O, hp, back⟩ := pstep h hi
 refine Give_spec hp hm fun w' O' hp' hk hfr => ?_
 have h2 := back hfr hp' hk
 unfold PoolM.giveM at hK
 split
 ·rename_i he
  simp only [if_pos he] at hK h2
  exact hK w' h2
 ·rename_i he
  simp only [if_neg he] at hK h2
  exact hK w' h2
theorem Lives_h (h : Hp S w0 w its) (i : Nat) {b : Nat} {m : PoolM} (hm : m.Ok) (hi : (its[i]?).map Thing.holds = some (tPool 112 b m).holds) {x g : Int} {K : Bool → World → Prop}
  (hK : ∀ w', Hp S w0 w' its → K (m.is x g) w') : c40 (some ⟨b, 0, none⟩) x g w K := by
 obtain ⟨O, hp⟩ := psee h i hi
 exact Lives_spec hp hm.len fun w' hf => hK w' (h.keep hf)
theorem All_h (h : Hp S w0 w its) (i : Nat) {b : Nat} {m : PoolM} (hm : m.Ok) (hi : (its[i]?).map Thing.holds = some (tPool 112 b m).holds) {K : Sl → World → Prop}
  (hK : ∀ s w', Hp S w0 w' (its ++ [tSl s 33 2 ent (m.allU m.gens.length)]) → K s w') : c31 (some ⟨b, 0, none⟩) w K := by
 obtain ⟨O, hp⟩ := psee h i hi
 exact All_spec hp hm fun w' l o hs ho hf => hK l w' (h.grow hf (t := tSl l 33 2 ent _) hs ho rfl)
theorem State_h (h : Hp S w0 w its) (i : Nat) {b : Nat} {m : PoolM} (hm : m.Ok) (hi : (its[i]?).map Thing.holds = some (tPool 112 b m).holds) {K : Sl → Sl → World → Prop}
  (hK : ∀ g f w', Hp S w0 w' (its ++ [tSl g 3 1 iv m.stGens, tSl f 3 1 iv m.free]) → K g f w') : c35 (some ⟨b, 0, none⟩) w K := by
 obtain ⟨O, hp⟩ := psee h i hi
 refine State_spec hp hm fun w' g f og of_ hg hf hog hof hfr => hK g f w' ?_
 refine h.r0 (rest := [_, _]) rfl ?_
 refine ⟨hfr, fun n => if n = 0 then og else of_, fun n t hn => ?_, fun n n' t u hn hn' hne ht hu k hk hk' => ?_⟩
 ·match n, hn with
  | 0, hn =>
   simp only [List.getElem?_cons_zero, Option.some.injEq] at hn; subst hn
   exact ⟨hg, fun _ k hk => .inr (hog k hk), fun h => by cases h⟩
  | 1, hn =>
   simp only [List.getElem?_cons_succ, List.getElem?_cons_zero, Option.some.injEq] at hn; subst hn
   exact ⟨hf, fun _ k hk => .inr (hof k hk).1, fun h => by cases h⟩
  | n + 2, hn => simp at hn
 ·match n, n', hn, hn', hne with
  | 0, 0, _, _, hne => exact hne rfl
  | 0, 1, _, _, _ => exact (hof k hk').2 hk
  | 1, 0, _, _, _ => exact (hof k hk).2 hk'
  | 1, 1, _, _, hne => exact hne rfl
  | n + 2, _, hn, _, _ => simp at hn
  | 0, n + 2, _, hn, _ => simp at hn
  | 1, n + 2, _, hn, _ => simp at hn
theorem clone_i (h : Hp S w0 w its) (j : Nat) {u : Thing} {v : Sl} {xs : List Int} (hj : its[j]? = some u) (hu : Hp.Reads u v 1 iv xs) (hlen : xs.length ≤ 1000000) {K : Sl → World → Prop} (hK : ∀ s w', Hp S w0 w' (its ++ [tSl s 3 1 iv xs]) → K s w') : c55 v w K := by
 refine c55_of ?_
 unfold f55
 obtain ⟨O, h0⟩ := h.see' (i := j) (t := u) (by rw [hj]; rfl)
 obtain ⟨o, h0⟩ := hu.rd h0
 by_cases hn : v.a = none
 ·refine ifT (by rw [hn]; rfl) ?_
  have := h0.isNil hn
  subst this
  exact hK _ _ (h.nil 3 1 iv)
 ·refine ifF (by cases hv : v.a <;> simp_all) ?_
  have hl := h.lenU j (by rw [hj]; rfl) hu
  have hlt := (List.getElem?_eq_some_iff.1 hj).1
  refine h.nw (c := []) fun b w h => ?_
  have h := h.blkSl (i := its.length) (m := 0) (l := ([] : List Int)) (f := iv) (n := 1) List.getElem?_concat_length rfl rfl iv_len
  rw [List.set_append_right _ _ (Nat.le_refl _), Nat.sub_self, List.set_cons_zero] at h
  obtain ⟨inf, q1, q2, q3, q4⟩ := inf3
  refine h.appS its.length j (s := ⟨some ⟨b, 0, none⟩, 0, 0⟩) List.getElem?_concat_length (u := u) (by rw [List.getElem?_append_left hlt]; exact hj) hu iv_len und22 q1 q3 q2 rfl (by simp [iv, Value.oneCell']) (by rw [q4]; show (0 + v.len) * 8 ≤ _; omega) (by show 0 + v.len ≤ _; omega) fun r w h hl' _ => ?_
  rw [List.set_append_right _ _ (Nat.le_refl _), Nat.sub_self, List.set_cons_zero] at h
  exact hK r w h
theorem clone_b (h : Hp S w0 w its) (j : Nat) {u : Thing} {v : Sl} {xs : List Bool} (hj : its[j]? = some u) (hu : Hp.Reads u v 1 bv xs) (hlen : xs.length ≤ 1000000) {K : Sl → World → Prop} (hK : ∀ s w', Hp S w0 w' (its ++ [tSl s 4 1 bv xs]) → K s w') : c56 v w K := by
 refine c56_of ?_
 unfold f56
 obtain ⟨O, h0⟩ := h.see' (i := j) (t := u) (by rw [hj]; rfl)
 obtain ⟨o, h0⟩ := hu.rd h0
 by_cases hn : v.a = none
 ·refine ifT (by rw [hn]; rfl) ?_
  have := h0.isNil hn
  subst this
  exact hK _ _ (h.nil 4 1 bv)
 ·refine ifF (by cases hv : v.a <;> simp_all) ?_
  have hl := h.lenU j (by rw [hj]; rfl) hu
  have hlt := (List.getElem?_eq_some_iff.1 hj).1
  refine h.nw (c := []) fun b w h => ?_
  have h := h.blkSl (i := its.length) (m := 0) (l := ([] : List Bool)) (f := bv) (n := 1) List.getElem?_concat_length rfl rfl bv_len
  rw [List.set_append_right _ _ (Nat.le_refl _), Nat.sub_self, List.set_cons_zero] at h
  obtain ⟨inf, q1, q2, q3, q4⟩ := bytes4
  refine h.appS its.length j (s := ⟨some ⟨b, 0, none⟩, 0, 0⟩) List.getElem?_concat_length (u := u) (by rw [List.getElem?_append_left hlt]; exact hj) hu bv_len und58 q1 q3 q2 rfl (by simp [bv, Value.oneCell']) (by rw [q4]; show (0 + v.len) * 1 ≤ _; omega) (by show 0 + v.len ≤ _; omega) fun r w h hl' _ => ?_
  rw [List.set_append_right _ _ (Nat.le_refl _), Nat.sub_self, List.set_cons_zero] at h
  exact hK r w h
theorem Ok.free200 {m : PoolM} (hm : m.Ok) : m.free.length ≤ 200 := by have := hm.cnt; have := hm.len200; omega
theorem Clone_h (h : Hp S w0 w its) (i : Nat) {b : Nat} {m : PoolM} (hm : m.Ok) (hi : (its[i]?).map Thing.holds = some (tPool 112 b m).holds) {K : Option Addr → World → Prop}
  (hK : ∀ a w', Hp S w0 w' (its ++ [tPool 112 a m]) → K (some ⟨a, 0, none⟩) w') : c33 (some ⟨b, 0, none⟩) w K := by
 refine c33_of ?_
 unfold f33
 have hl1 := hm.len200
 have hl2 := hm.len
 have hl3 := Ok.free200 hm
 refine h.dr fun w1 h => ?_
 obtain ⟨sg, sa, sf, h1⟩ := pool_see h i hi
 refine nns ?_
 refine h1.ld0 (x := m.most) 0 rfl rfl ?_
 refine nns ?_
 refine h1.ld (x := sg) 0 rfl rfl ?_
 refine nns ?_
 refine h1.ld (x := sa) 0 rfl rfl ?_
 refine nns ?_
 refine h1.ld (x := sf) 0 rfl rfl ?_
 refine clone_i h1 1 rfl ⟨Hp.rdSl.rd⟩ (by omega) fun r w2 h1 => ⟨h1.cel 0 rfl rfl, h1.cel 0 rfl rfl, h1.cel0 0 rfl rfl, ?_⟩
 refine clone_b h1 2 rfl ⟨Hp.rdSl.rd⟩ (by omega) fun r2 w2 h1 => ⟨h1.cel 0 rfl rfl, h1.cel0 0 rfl rfl, ?_⟩
 refine clone_i h1 3 rfl ⟨Hp.rdSl.rd⟩ (by omega) fun r3 w2 h1 => ⟨h1.cel0 0 rfl rfl, ?_⟩
 refine h1.nw (c := [_, _, _, _]) fun a w3 h1 => ?_
 refine hK a w3 (h.r0 rfl (pool_close (m := m) (rest := []) (h1.sel4 7 4 5 6 (by decide) rfl rfl rfl rfl)))
end
end Go.Proofs.Ythmbjlpgbkkjjaa.FI
end

section
namespace Go.Den
open Go.RowKit
theorem findNow_int {j : IntKind} {k : IntKind} (a : Int) : ∀ (l : List Int) (es : List MapEntry) (i : Nat), es.map (·.key) = l.map (Value.int k) → Instr.findNow (.int j) (.int k a) es i = some ((l.findIdx? (fun b => decide (b = a))).bind fun q => (es[q]?).map fun e => (i + q, e.val))
 | [], [], i, _ => by simp [Instr.findNow]
 | [], _ :: _, i, h => by simp at h
 | _ :: _, [], i, h => by simp at h
 | b :: l, e :: es, i, h => by
  simp only [List.map_cons, List.cons.injEq] at h
  obtain ⟨h1, h2⟩ := h
  have ih := findNow_int (j := j) a l es (i + 1) h2
  simp only [Instr.findNow, h1, Instr.sameNow, if_true, List.findIdx?_cons]
  by_cases hb : b = a
  ·have : (a == b) = true := by simp [hb]
   rw [this]
   simp [hb]
  ·have : (a == b) = false := by simpa using fun e => hb e.symm
   rw [this]
   simp only [hb, decide_false, Bool.false_eq_true, if_false, ih]
   congr 1
   cases l.findIdx? (fun b => decide (b = a)) with
   | none => rfl
   | some q => simp [Nat.add_assoc, Nat.add_comm 1 q]
theorem check_int {P : Program} {kt : TypeId} {j k : IntKind} (hu : P.underlying kt = some (.int j)) (n : Nat) (b : Bool) (a : Int) (w : World) : (Instr.checkKey b (n + 1) kt (.int k a)).run P w = .ok () w := by
 simp [Instr.checkKey, run_underlying hu]
theorem same_int {k : IntKind} (n : Nat) (a : Int) : Instr.sameBits (n + 1) (.int k a) (.int k a) = true := by
 simp [Instr.sameBits]
theorem keyT_int {P : Program} {kt : TypeId} {j k : IntKind} (hu : P.underlying kt = some (.int j)) : KeyT P kt (Value.int k) := by
 refine ⟨fun w b a => ?_, fun w a l es hes => ?_, fun a => ?_⟩
 ·exact check_int hu 9999 b a w
 ·simp only [Instr.findKey, Sem.run_bind, run_underlying hu, Result.andThen_ok]
  rw [findNow_int a l es 0 hes]
  simp
 ·exact same_int 9999 a
namespace Hp
variable {κ ν : Type} [DecidableEq κ] {ek : κ → Value} {ev : ν → Value}
variable {S : List Nat} {w0 w : World} {its : List Thing} {P : Program}
theorem lookup1 (h : Hp S w0 w its) (i : Nat) {b : Nat} {g : κ → Option ν} {mt kt vt : TypeId} {kd : Kd} {inf : TypeInfo} {k : κ} {vk : ν → kd.T} {z : kd.T} {K : kd.T → World → Prop} {kv : Value} (hkv : kv = ek k)
  (hi : (its[i]?).map Thing.holds = some (tMp b ek ev g).holds) (hm : P.underlying mt = some (.map kt vt)) (hk : KeyT P kt ek) (hinf : P.info? vt = some inf) (hz : inf.zero = some (kd.inj z)) (hv : ∀ v, ev v = kd.inj (vk v))
  (hK : K (match g k with | some v => vk v | none => z) w) :
  RunRoL [.one kd] P (Instr.lookup mt (.map (some b)) kv false) w K := by
 subst hkv
 obtain ⟨O, l, ⟨⟨es, clock, hb, hes, _⟩, _⟩, hnd, hg⟩ := h.see' hi
 have hb' : ∀ w', Ext w w' → w'.heap[b]? = some (.map es clock) := fun w' he => (he.2 b (Array.getElem?_eq_some_iff.1 hb).1).trans hb
 obtain ⟨k1, k2⟩ := keysOf hes
 refine ⟨kd.inj (match g k with | some v => vk v | none => z), fun w' he => ?_, ?_⟩
 ·have hf := hk.fnd w' k _ _ k1
  simp only [Instr.lookup, Sem.run_bind, run_underlying hm, Result.andThen_ok, MapKept.run_getObj_map (hb' w' he), Sem.run_pure, hk.chk, hf]
  rw [← hg k]
  unfold mget
  cases hx : (l.map (·.1)).findIdx? (fun b => decide (b = k)) with
  | none => simp [zeroValue, typeInfo, hinf, hz]
  | some j =>
   obtain ⟨hlt, _, _⟩ := List.findIdx?_eq_some_iff_getElem.1 hx
   simp only [List.length_map] at hlt
   have e1 : (es.toList.map (·.val))[j]? = some (ev (l[j]).2) := by rw [k2]; simp [hlt]
   rw [List.getElem?_map, Option.map_eq_some_iff] at e1
   obtain ⟨en, h1, h2⟩ := e1
   have h1' : es[j]? = some en := by simpa using h1
   simp [h1', h2, hlt, hv]
 ·show viewRet _ _ _ _
  simp only [viewRet, resList, flat, flat1, viewL, kdsOf, Sh.kds, List.append]
  show Kd.view kd (kd.inj _) _
  rw [Kd.view_inj]
  exact hK
end Hp
end Go.Den
end

section
namespace Go.Proofs.Ythmbjlpgbkkjjaa.FW
open F
open Go Go.Den Go.Proofs
open FI (PoolM tPool)
open FT (TabM tTab Ent entV ent atI keyEnt)
def bit (set : Int) (k : Nat) : Int := (set / 2 ^ k) % 2
theorem bit_eq {set : Int} {k : Nat} (h0 : 0 ≤ set) (h1 : set < 4611686018427387904) (hk : k < 64) :
  IntKind.i64.wrap ((BitVec.ofInt 64 (Int.fdiv set (2 ^ (min (Int.toNat (k : Int)) 64))) &&& BitVec.ofInt 64 1).toNat : Nat) = bit set k := by
 have e1 : min (Int.toNat (k : Int)) 64 = k := by rw [Int.toNat_natCast]; omega
 have hp : (0 : Int) < 2 ^ k := by exact_mod_cast Nat.two_pow_pos k
 rw [e1, Int.fdiv_eq_ediv_of_nonneg _ (by omega)]
 have hq0 : 0 ≤ set / 2 ^ k := Int.ediv_nonneg h0 (by omega)
 have hq1 : set / 2 ^ k ≤ set := Int.ediv_le_self _ h0
 unfold bit
 generalize set / 2 ^ k = q at hq0 hq1
 have e2 : (BitVec.ofInt 64 q &&& BitVec.ofInt 64 1).toNat = q.toNat % 2 := by
  rw [BitVec.toNat_and]
  have a1 : (BitVec.ofInt 64 q).toNat = q.toNat := by rw [BitVec.toNat_ofInt]; omega
  have a2 : (BitVec.ofInt 64 1).toNat = 1 := by decide
  rw [a1, a2, Nat.and_one_is_mod]
 rw [e2, wr64 (by omega) (by omega)]
 omega
def fl (ks : List (ByteArray × List ByteArray)) (kind : Int) : Option Nat := if 1 ≤ kind then (ks[(kind - 1).toNat]?).map (·.2.length) else none
def atF (ks : List (ByteArray × List ByteArray)) (set : Int) : Nat → Nat
 | 0 => 0
 | q + 1 => atF ks set q + if bit set (q + 1) = 1 then ((ks[q]?).map (·.2.length)).getD 0 else 0
theorem atF_le {ks : List (ByteArray × List ByteArray)} (h : ∀ x ∈ ks, x.2.length ≤ 4) (set : Int) : ∀ q, atF ks set q ≤ 4 * q
 | 0 => by simp [atF]
 | q + 1 => by
  have ih := atF_le h set q
  rw [atF]
  split
  ·cases hx : ks[q]? with
   | none => simp; omega
   | some x =>
    have := h x (List.mem_of_getElem? hx)
    simp; omega
  ·omega
section
variable {S : List Nat} {w0 w : World} {its : List Thing}
theorem fields_spec (h : Hp S w0 w its) (i j j2 : Nat) {b : Nat} {sk : Sl} {cells : List Value} {xs : List KS} (hi : (its[i]?).map Thing.holds = some (tBlk b 84 (.slice sk.a sk.len sk.cap :: cells)).holds)
  (hj : (its[j]?).map Thing.holds = some (tSl sk 87 2 kdv xs).holds) (hj2 : (its[j2]?).map Thing.holds = some (tAll (xs.map tF)).holds) (hl : xs.length ≤ 1000) {kind : Int} (h1 : -9223372036854775808 ≤ kind) (h2 : kind ≤ 9223372036854775807) {K : Int → Bool → World → Prop}
  (hK : match fl (kinds xs) kind with | some n => K (n : Nat) true w | none => K 0 false w) : c67 (some ⟨b, 0, none⟩) kind w K := by
 refine c67_of ?_
 unfold f67
 have hsl := h.len j hj
 refine ⟨fun w' => w' = w ∧ 1 ≤ kind ∧ kind ≤ xs.length, ?_, ?_⟩
 ·by_cases k1 : kind < 1
  ·refine ifT (by simpa using k1) ?_
   have : fl (kinds xs) kind = none := by unfold fl; rw [if_neg (by omega)]
   rw [this] at hK; exact hK
  refine ifF (by simpa using k1) ?_
  refine nns ?_
  refine h.ld0 (k := .sl) (x := sk) i hi rfl ?_
  by_cases k2 : kind > xs.length
  ·refine ifT (by simp; omega) ?_
   have : fl (kinds xs) kind = none := by
    unfold fl; rw [if_pos (by omega), List.getElem?_eq_none (by simp [kinds]; omega)]; rfl
   rw [this] at hK; exact hK
  ·exact ifF (by simp; omega) ⟨rfl, by omega, by omega⟩
 rintro _ ⟨rfl, k1, k2⟩
 have hlt : (kind - 1).toNat < xs.length := by omega
 have hx : xs[(kind - 1).toNat]? = some xs[(kind - 1).toNat] := by simp [hlt]
 have hf := tF_cap h j2 hj2 hx
 have e : fl (kinds xs) kind = some (xs[(kind - 1).toNat]).2.2.length := by
  unfold fl
  rw [if_pos k1]
  unfold kinds
  rw [List.getElem?_map, hx]; rfl
 rw [e] at hK
 generalize xs[(kind - 1).toNat] = x at hx hf hK
 refine nns ?_
 refine h.ld0 (k := .sl) (x := sk) i hi rfl ?_
 rw [wr64 (by omega) (by omega)]
 refine h.ixr j hj (by omega) hx kdv_len fun a hc => ?_
 refine ldR (k := .sl) (x := x.2.1) (hc 1 (by omega)) rfl ?_
 rw [hf.2] at hK
 exact hK
theorem at_spec (h : Hp S w0 w its) (i j j2 : Nat) {b : Nat} {sk : Sl} {cells : List Value} {xs : List KS} (hi : (its[i]?).map Thing.holds = some (tBlk b 84 (.slice sk.a sk.len sk.cap :: cells)).holds)
  (hj : (its[j]?).map Thing.holds = some (tSl sk 87 2 kdv xs).holds) (hj2 : (its[j2]?).map Thing.holds = some (tAll (xs.map tF)).holds) (hl : xs.length ≤ 12) (h4 : ∀ x ∈ xs, x.2.2.length ≤ 4) {set : Int} (s0 : 0 ≤ set) (s1 : set < 4611686018427387904) {q : Nat} (hq : q ≤ xs.length) {K : Int → World → Prop}
  (hK : K (atF (kinds xs) set q : Nat) w) : c69 (some ⟨b, 0, none⟩) set ((q + 1 : Nat) : Int) w K := by
 refine c69_of ?_
 unfold f69
 have hsl := h.len j hj
 have hks : ∀ x ∈ kinds xs, x.2.length ≤ 4 := fun x hx => by
  obtain ⟨y, hy, rfl⟩ := List.mem_map.1 hx
  exact h4 y hy
 refine ⟨fun n k m w' => ∃ p : Nat, n = (atF (kinds xs) set p : Nat) ∧ k = ((p + 1 : Nat) : Int) ∧ p ≤ q ∧ m = q - p ∧ w' = w, ⟨q, 0, rfl, rfl, by omega, rfl, rfl⟩, ?_⟩
 rintro n k m w2 ⟨p, rfl, rfl, hp, rfl, rfl⟩
 have hle := atF_le hks set p
 by_cases hlt : p < q
 ·refine ifT (by simp; omega) ⟨by omega, ?_⟩
  have hx : xs[p]? = some xs[p] := List.getElem?_eq_getElem (by omega)
  have hf := tF_cap h j2 hj2 hx
  have ea : atF (kinds xs) set (p + 1) = atF (kinds xs) set p + if bit set (p + 1) = 1 then (xs[p]).2.2.length else 0 := by
   rw [atF]
   have : (kinds xs)[p]? = some ((xs[p]).1, (xs[p]).2.2) := by simp [kinds, hx]
   rw [this]; rfl
  have hx4 := h4 xs[p] (List.getElem_mem (by omega))
  generalize xs[p] = x at hx hf ea hx4
  rw [bit_eq s0 s1 (by omega)]
  by_cases hb : bit set (p + 1) = 1
  ·refine ifT (by simpa using hb) ?_
   rw [if_pos hb] at ea
   refine nns ?_
   refine h.ld0 (k := .sl) (x := sk) i hi rfl ?_
   rw [wr64 (n := ((p + 1 : Nat) : Int) - 1) (by omega) (by omega)]
   refine h.ixr j hj (by omega) (by rw [show (((p + 1 : Nat) : Int) - 1).toNat = p by omega]; exact hx) kdv_len fun a hc => ?_
   refine ldR (k := .sl) (x := x.2.1) (hc 1 (by omega)) rfl ?_
   have := hf.2
   exact ⟨q - (p + 1), by omega, p + 1, by rw [wr64 (by omega) (by omega), ea]; omega, by rw [wr64 (by omega) (by omega)]; omega, by omega, rfl, rfl⟩
  ·refine ifF (by simpa using hb) ?_
   rw [if_neg hb, Nat.add_zero] at ea
   exact ⟨q - (p + 1), by omega, p + 1, by rw [ea]; rfl, by rw [wr64 (by omega) (by omega)]; omega, by omega, rfl, rfl⟩
 ·refine ifF (by simp; omega) ?_
  obtain rfl : p = q := by omega
  exact hK
end
open FT (iv)
theorem und98 : Try.prog.underlying 81 = some (.map 33 3) := by kernel_rfl
theorem und99 : Try.prog.underlying 82 = some (.map 3 95) := by kernel_rfl
theorem inf121 : ∃ inf : TypeInfo, Try.prog.info? 95 = some inf ∧ inf.zero = some (.pointer none) ∧ inf.size = 1 ∧ inf.bytes = 8 := infoP (by kernel_rfl)
theorem key3 : KeyT Try.prog 3 (Value.int .i64) := keyT_int und3
theorem inf3 : ∃ inf : TypeInfo, Try.prog.info? 3 = some inf ∧ inf.zero = some (.int .i64 0) ∧ inf.size = 1 ∧ inf.bytes = 8 := infoP (by kernel_rfl)
structure WM where
 ks : List (ByteArray × List ByteArray)
 pool : PoolM
 sets : Ent → Option Int
 tabs : List (Int × TabM)
abbrev TT := Int × Nat × TabM
def tT (x : TT) : Thing := tTab x.2.1 x.2.2
def tptr (T : List TT) (set : Int) : Option Nat := (T.find? fun x => decide (x.1 = set)).map (·.2.1)
def pv (b : Nat) : Value := .pointer (some ⟨b, 0, none⟩)
structure WH where
 sk : Sl
 xs : List KS
 pb : Nat
 ms : Nat
 mt : Nat
 T : List TT
def WH.blk (b : Nat) (q : WH) : Thing := tBlk b 84 [.slice q.sk.a q.sk.len q.sk.cap, .pointer (some ⟨q.pb, 0, none⟩), .map (some q.ms), .map (some q.mt)]
def WH.rest (m : WM) (q : WH) : List Thing := [tSl q.sk 87 2 kdv q.xs, tAll (q.xs.map tF), tPool 112 q.pb m.pool, tMp q.ms entV (Value.int .i64) m.sets, tMp q.mt (Value.int .i64) pv (tptr q.T), tAll (q.T.map tT)]
def WH.fits (m : WM) (q : WH) : Prop := kinds q.xs = m.ks ∧ q.T.map (fun x => (x.1, x.2.2)) = m.tabs
def tWorld (b : Nat) (m : WM) : Thing := tEx fun q : WH => tAnd (q.fits m) (tStar (q.blk b) (tStar (tSl q.sk 87 2 kdv q.xs) (tStar (tAll (q.xs.map tF)) (tStar (tPool 112 q.pb m.pool) (tStar (tMp q.ms entV (Value.int .i64) m.sets) (tStar (tMp q.mt (Value.int .i64) pv (tptr q.T)) (tAll (q.T.map tT))))))))
section
variable {S : List Nat} {w0 w : World} {its : List Thing}
theorem w_open (h : Hp S w0 w its) {i b : Nat} {m : WM} (hi : its[i]? = some (tWorld b m)) : ∃ q : WH, q.fits m ∧ Hp S w0 w (its.set i (q.blk b) ++ q.rest m) := by
 have hl := (List.getElem?_eq_some_iff.1 hi).1
 obtain ⟨q, h⟩ := h.openEx hi (fun _ => rfl)
 obtain ⟨hn, h⟩ := h.openAnd (i := i) (by simp [hl]; rfl) rfl
 have h := h.split (i := i) (by simp [hl]; rfl) rfl rfl
 have e1 : ∀ (l : List Thing) (t : Thing), (l ++ [t])[l.length]? = some t := fun l t => by simp
 have h := h.split (e1 _ _) rfl rfl
 simp only [List.set_append_right _ _ (Nat.le_refl _), Nat.sub_self, List.set_cons_zero] at h
 have h := h.split (e1 _ _) (tAll_own _) rfl
 rw [List.set_append_right _ _ (Nat.le_refl _), Nat.sub_self, List.set_cons_zero] at h
 have h := h.split (e1 _ _) rfl rfl
 rw [List.set_append_right _ _ (Nat.le_refl _), Nat.sub_self, List.set_cons_zero] at h
 have h := h.split (e1 _ _) rfl rfl
 rw [List.set_append_right _ _ (Nat.le_refl _), Nat.sub_self, List.set_cons_zero] at h
 have h := h.split (e1 _ _) rfl (tAll_own _)
 rw [List.set_append_right _ _ (Nat.le_refl _), Nat.sub_self, List.set_cons_zero] at h
 refine ⟨q, hn, ?_⟩
 unfold WH.rest
 simpa using h
theorem w_close {b : Nat} {m : WM} {q : WH} {rest : List Thing} (hn : q.fits m) (h : Hp S w0 w (q.blk b :: (q.rest m ++ rest))) : Hp S w0 w (tWorld b m :: rest) := by
 unfold WH.rest at h
 simp only [List.cons_append, List.nil_append] at h
 have h := h.joinStar (i := 5) (j := 6) (by omega) rfl rfl rfl (tAll_own _)
 have h := h.joinStar (i := 4) (j := 5) (by omega) rfl rfl rfl rfl
 have h := h.joinStar (i := 3) (j := 4) (by omega) rfl rfl rfl rfl
 have h := h.joinStar (i := 2) (j := 3) (by omega) rfl rfl (tAll_own _) rfl
 have h := h.joinStar (i := 1) (j := 2) (by omega) rfl rfl rfl rfl
 have h := h.joinStar (i := 0) (j := 1) (by omega) rfl rfl rfl rfl
 have h := h.putAnd (i := 0) hn rfl rfl
 have h := h.putEx (f := fun q : WH => tAnd (q.fits m) (tStar (q.blk b) (tStar (tSl q.sk 87 2 kdv q.xs) (tStar (tAll (q.xs.map tF)) (tStar (tPool 112 q.pb m.pool) (tStar (tMp q.ms entV (Value.int .i64) m.sets) (tStar (tMp q.mt (Value.int .i64) pv (tptr q.T)) (tAll (q.T.map tT))))))))) (i := 0) q rfl rfl
 have h : Hp S w0 w (tWorld b m :: tEmp :: tEmp :: tEmp :: tEmp :: tEmp :: tEmp :: rest) := h
 exact h.drop1.drop1.drop1.drop1.drop1.drop1
theorem New_spec (h : Hp S w0 w its) (i j : Nat) {s : Sl} {xs : List KS} (hi : its[i]? = some (tSl s 87 2 kdv xs)) (hj : its[j]? = some (tAll (xs.map tF))) (hl : xs.length ≤ 1000000) (hsz : ∀ x ∈ xs, x.1.size ≤ 1000000000000 ∧ ∀ y ∈ x.2.2, y.size ≤ 1000000000000) {K : Option Addr → Int → World → Prop}
  (hok : mayOk (kinds xs) → ∀ b w', Hp S w0 w' (its ++ [tWorld b ⟨kinds xs, ⟨200, [], [], []⟩, fun _ => none, []⟩]) → K (some ⟨b, 0, none⟩) 0 w') (hno : ¬ mayOk (kinds xs) → ∀ w', Hp S w0 w' its → K none 65 w') : c11 s w K := by
 refine c11_of ?_
 unfold f11
 refine may_spec h i j (by rw [hi]; rfl) (by rw [hj]; rfl) (by omega) hsz fun w1 h => ?_
 by_cases hm : mayOk (kinds xs)
 ·rw [decide_eq_true hm]
  refine ifF (by simp) ?_
  have hil := (List.getElem?_eq_some_iff.1 hi).1
  have hjl := (List.getElem?_eq_some_iff.1 hj).1
  have h4 : ∀ x ∈ xs, x.2.2.length ≤ 4 := fun x hx => (hm.1 (x.1, x.2.2) (List.mem_map.2 ⟨x, hx, rfl⟩)).1
  have h12 : xs.length ≤ 12 := by have := hm.2.2.1; simpa [kinds] using this
  refine FI.New_h h (n := 200) (by omega) (by omega) fun pb w2 h => ?_
  refine ifF (by simp) ?_
  refine copied_spec h i j (by rw [List.getElem?_append_left hil]; exact hi) (by rw [List.getElem?_append_left hjl]; exact hj) (by omega) (fun x hx => by have := h4 x hx; omega) fun r ys w3 hys h => ?_
  refine h.nwMap fun ms w4 h => ?_
  refine h.nwMap fun mt w5 h => ?_
  refine h.nw (c := [_, _, _, _]) fun b w6 h => ?_
  have h := h.grow (Fr.refl _ _) (t := tAll (([] : List TT).map tT)) (O := []) rfl (by simp) rfl
  simp only [List.append_assoc, List.cons_append, List.nil_append] at h
  have getR : ∀ {l : List Thing} (k : Nat), (its ++ l)[its.length + k]? = l[k]? := fun {l} k => by rw [List.getElem?_append_right (by omega)]; simp
  have setR : ∀ {l : List Thing} (k : Nat) (t : Thing), (its ++ l).set (its.length + k) t = its ++ l.set k t := fun {l} k t => by rw [List.set_append_right _ _ (by omega)]; simp
  have h := h.newMp (i := its.length + 3) entV (Value.int .i64) (by rw [getR]; rfl)
  rw [setR] at h
  have h := h.newMp (i := its.length + 4) (Value.int .i64) pv (by rw [getR]; rfl)
  rw [setR] at h
  simp only [List.set_cons_zero, List.set_cons_succ] at h
  have et : (fun _ => none : Int → Option Nat) = tptr [] := rfl
  rw [et] at h
  have q : WH.fits ⟨kinds xs, ⟨200, [], [], []⟩, fun _ => none, []⟩ ⟨r, ys, pb, ms, mt, []⟩ := ⟨hys, rfl⟩
  have h := h.joinStar (i := its.length + 4) (j := its.length + 6) (by omega) (by rw [getR]; rfl) (by rw [getR]; rfl) rfl (tAll_own _)
  rw [setR, setR] at h
  simp only [List.set_cons_zero, List.set_cons_succ] at h
  have h := h.joinStar (i := its.length + 3) (j := its.length + 4) (by omega) (by rw [getR]; rfl) (by rw [getR]; rfl) rfl rfl
  rw [setR, setR] at h
  simp only [List.set_cons_zero, List.set_cons_succ] at h
  have h := h.joinStar (i := its.length + 0) (j := its.length + 3) (by omega) (by rw [getR]; rfl) (by rw [getR]; rfl) rfl rfl
  rw [setR, setR] at h
  simp only [List.set_cons_zero, List.set_cons_succ] at h
  have h := h.joinStar (i := its.length + 2) (j := its.length + 0) (by omega) (by rw [getR]; rfl) (by rw [getR]; rfl) (tAll_own _) rfl
  rw [setR, setR] at h
  simp only [List.set_cons_zero, List.set_cons_succ] at h
  have h := h.joinStar (i := its.length + 1) (j := its.length + 2) (by omega) (by rw [getR]; rfl) (by rw [getR]; rfl) rfl rfl
  rw [setR, setR] at h
  simp only [List.set_cons_zero, List.set_cons_succ] at h
  have h := h.joinStar (i := its.length + 5) (j := its.length + 1) (by omega) (by rw [getR]; rfl) (by rw [getR]; rfl) rfl rfl
  rw [setR, setR] at h
  simp only [List.set_cons_zero, List.set_cons_succ] at h
  have h := h.putAnd (i := its.length + 5) q (by rw [getR]; rfl) rfl
  rw [setR] at h
  simp only [List.set_cons_zero, List.set_cons_succ] at h
  have h := h.putEx (f := fun q : WH => tAnd (q.fits ⟨kinds xs, ⟨200, [], [], []⟩, fun _ => none, []⟩) (tStar (q.blk b) (tStar (tSl q.sk 87 2 kdv q.xs) (tStar (tAll (q.xs.map tF)) (tStar (tPool 112 q.pb ⟨200, [], [], []⟩) (tStar (tMp q.ms entV (Value.int .i64) (fun _ => none)) (tStar (tMp q.mt (Value.int .i64) pv (tptr q.T)) (tAll (q.T.map tT))))))))) (i := its.length + 5) ⟨r, ys, pb, ms, mt, []⟩ (by rw [getR]; rfl) rfl
  rw [setR] at h
  simp only [List.set_cons_zero, List.set_cons_succ] at h
  have h : Hp S w0 w6 (its ++ [tEmp, tEmp, tEmp, tEmp, tEmp] ++ [tWorld b ⟨kinds xs, ⟨200, [], [], []⟩, fun _ => none, []⟩] ++ [tEmp]) := by
   simp only [List.append_assoc, List.cons_append, List.nil_append]
   exact h
  exact hok hm b _ h.front.dropMid
 ·rw [decide_eq_false hm]
  exact ifT rfl (hno hm _ h)
end
end Go.Proofs.Ythmbjlpgbkkjjaa.FW
end

section
namespace Go.Den.Hp
theorem selL {S : List Nat} {w0 w : World} {its : List Thing} (h : Hp S w0 w its) (js : List Nat) (hnd : js.Nodup) {ts : List Thing} (e : js.map (fun j => its[j]?) = ts.map some) : Hp S w0 w ts := by
 have hl : ts.length = js.length := by have := congrArg List.length e; simpa using this.symm
 refine h.sel js hnd hl (fun n j hj => ?_)
 have h1 : (js.map (fun j => its[j]?))[n]? = some (its[j]?) := by rw [List.getElem?_map, hj]; rfl
 rw [e, List.getElem?_map] at h1
 cases ht : ts[n]? with
 | none => rw [ht] at h1; cases h1
 | some t => rw [ht] at h1; exact (Option.some.inj h1).symm
end Go.Den.Hp
namespace Go.Proofs.Ythmbjlpgbkkjjaa.FW
open F
open Go Go.Den Go.Proofs
open FI (PoolM tPool)
open FT (TabM tTab Ent entV ent atI keyEnt iv)
def WH.all (b : Nat) (m : WM) (q : WH) (u : Thing) : List Thing :=
 [q.blk b, u, tSl q.sk 87 2 kdv q.xs, tAll (q.xs.map tF), tPool 112 q.pb m.pool, tMp q.ms entV (Value.int .i64) m.sets, tMp q.mt (Value.int .i64) pv (tptr q.T), tAll (q.T.map tT)]
theorem tptr_new {T : List TT} {set : Int} {tb : Nat} {t : TabM} (hn : tptr T set = none) : upd1 (tptr T) set (some tb) = tptr (T ++ [(set, tb, t)]) := by
 funext k
 unfold upd1 tptr
 rw [List.find?_append]
 unfold tptr at hn
 by_cases hk : k = set
 ·subst hk
  rw [if_pos rfl]
  cases hf : T.find? (fun x => decide (x.1 = k)) with
  | some x => rw [hf] at hn; cases hn
  | none => simp
 ·rw [if_neg hk]
  cases hf : T.find? (fun x => decide (x.1 = k)) with
  | some x => rfl
  | none =>
   have : ¬ set = k := fun e => hk e.symm
   simp [this]
theorem tptr_some {T : List TT} {set : Int} {tb : Nat} (h : tptr T set = some tb) : ∃ (k : Nat) (t : TabM), T[k]? = some (set, tb, t) := by
 unfold tptr at h
 obtain ⟨x, hx, rfl⟩ := Option.map_eq_some_iff.1 h
 have h1 := List.find?_some hx
 have h2 := List.mem_of_find?_eq_some hx
 simp only [decide_eq_true_eq] at h1
 obtain ⟨k, hk, rfl⟩ := List.mem_iff_getElem.1 h2
 exact ⟨k, (T[k]).2.2, by rw [List.getElem?_eq_getElem hk]; rw [← h1]⟩
theorem tptr_none {T : List TT} {set : Int} (h : tptr T set = none) : ∀ x ∈ T, x.1 ≠ set := by
 unfold tptr at h
 intro x hx e
 have := List.find?_eq_none.1 (Option.map_eq_none_iff.1 h) x hx
 simp [e] at this
section
variable {S : List Nat} {w0 w : World} {its : List Thing}
set_option maxHeartbeats 1000000 in
theorem tableOf_spec {b : Nat} {m : WM} {q : WH} {u : Thing} {more : List Thing} (h : Hp S w0 w (q.all b m u ++ more)) (hl : q.xs.length ≤ 12) (h4 : ∀ x ∈ q.xs, x.2.2.length ≤ 4) {set : Int} (s0 : 0 ≤ set) (s1 : set < 4611686018427387904) {K : Option Addr → World → Prop}
  (hK : ∀ T' tb w', (T' = q.T ∧ ∃ (k : Nat) (t : TabM), q.T[k]? = some (set, tb, t)) ∨ (T' = q.T ++ [(set, tb, ⟨atF (kinds q.xs) set q.xs.length, []⟩)] ∧ ∀ x ∈ q.T, x.1 ≠ set) → Hp S w0 w' (({ q with T := T' } : WH).all b m u ++ more) → K (some ⟨tb, 0, none⟩) w') : c85 (some ⟨b, 0, none⟩) set w K := by
 refine c85_of ?_
 unfold f85
 obtain ⟨inf, p1, p2, p3, p4⟩ := inf121
 have hsl := h.len (s := q.sk) 2 rfl
 refine nns ?_
 refine h.ld (n := 3) (k := .m) (x := some q.mt) 0 rfl rfl ?_
 refine h.lookup1 (kd := .p) (vk := fun tb => some ⟨tb, 0, none⟩) (z := (none : Option Addr)) (ek := Value.int .i64) (ev := pv) (g := tptr q.T) (k := set) 6 rfl rfl und99 key3 p1 p2 (fun _ => rfl) ?_
 cases ht : tptr q.T set with
 | some tb =>
  refine ifF (by simp) ?_
  exact hK q.T tb w (Or.inl ⟨rfl, tptr_some ht⟩) h
 | none =>
  refine ifT (by simp) ?_
  refine nns ?_
  refine h.ld0 (k := .sl) (x := q.sk) 0 rfl rfl ?_
  rw [show IntKind.i64.wrap ((q.sk.len : Int) + 1) = ((q.xs.length + 1 : Nat) : Int) by rw [wr64 (by omega) (by omega)]; omega]
  refine at_spec h 0 2 3 (cells := [_, _, _]) rfl rfl rfl hl h4 s0 s1 (Nat.le_refl _) ?_
  have hks : ∀ x ∈ kinds q.xs, x.2.length ≤ 4 := fun x hx => by
   obtain ⟨y, hy, rfl⟩ := List.mem_map.1 hx
   exact h4 y hy
  have hle := atF_le hks set q.xs.length
  refine FT.New_spec h (by omega) (by omega) fun tb w1 h => ?_
  rw [Int.toNat_natCast] at h
  refine nns ?_
  refine h.ld (n := 3) (k := .m) (x := some q.mt) 0 rfl rfl ?_
  refine h.update (ek := Value.int .i64) (ev := pv) (g := tptr q.T) (k := set) (v := tb) 6 rfl rfl und99 key3 rfl fun w2 h => ?_
  obtain ⟨t0, ht0⟩ : ∃ t0 : TabM, t0 = ⟨atF (kinds q.xs) set q.xs.length, []⟩ := ⟨_, rfl⟩
  rw [← ht0] at h
  rw [tptr_new (t := t0) ht] at h
  obtain ⟨A, hA⟩ : ∃ A : List Thing, A = [q.blk b, u, tSl q.sk 87 2 kdv q.xs, tAll (q.xs.map tF), tPool 112 q.pb m.pool, tMp q.ms entV (Value.int .i64) m.sets, tMp q.mt (Value.int .i64) pv (tptr (q.T ++ [(set, tb, t0)])), tAll (q.T.map tT)] ++ more := ⟨_, rfl⟩
  have h : Hp S w0 w2 (A ++ [tT (set, tb, t0)]) := by rw [hA]; exact h
  have hAl : 7 < A.length := by rw [hA]; simp
  have h := h.join (i := 7) (j := A.length) (a := tAll (q.T.map tT)) (b := tT (set, tb, t0)) (c := tAll ((q.T ++ [(set, tb, t0)]).map tT)) (by omega) (by rw [List.getElem?_append_left hAl, hA]; rfl) (by simp) (tAll_own _) rfl (tAll_own _) (fun w O1 O2 g1 g2 g3 => by
   rw [List.map_append]
   exact tAll_append g1 (us := [tT (set, tb, t0)]) (O2 := O2) ⟨O2, [], g2, rfl, by simp, by simp⟩ g3)
  have e : ((A ++ [tT (set, tb, t0)]).set 7 (tAll ((q.T ++ [(set, tb, t0)]).map tT))).set A.length tEmp = A.set 7 (tAll ((q.T ++ [(set, tb, t0)]).map tT)) ++ [tEmp] := by
   rw [List.set_append_left _ _ hAl, List.set_append_right _ _ (by rw [List.length_set]; omega), List.length_set, Nat.sub_self]; rfl
  rw [e] at h
  have h := h.front
  rw [hA] at h
  exact hK (q.T ++ [(set, tb, t0)]) tb w2 (.inr ⟨by rw [ht0], tptr_none ht⟩) h
theorem tptr_set {T : List TT} {k : Nat} {set : Int} {tb : Nat} {t t' : TabM} (hk : T[k]? = some (set, tb, t)) : tptr (T.set k (set, tb, t')) = tptr T := by
 have : (T.set k (set, tb, t')).map (fun x => (x.1, x.2.1)) = T.map (fun x => (x.1, x.2.1)) := by
  rw [List.map_set]
  apply List.ext_getElem?
  intro j
  by_cases hj : j = k
  ·subst hj
   have hlt := (List.getElem?_eq_some_iff.1 hk).1
   rw [List.getElem?_set_self (by simpa using hlt), List.getElem?_map, hk]; rfl
  ·rw [List.getElem?_set_ne (fun e => hj e.symm)]
 have key : ∀ (A : List TT) (s : Int), tptr A s = ((A.map (fun x => (x.1, x.2.1))).find? (fun x => decide (x.1 = s))).map (·.2) := fun A s => by
  unfold tptr
  induction A with
  | nil => rfl
  | cons a A ih =>
   rw [List.map_cons, List.find?_cons, List.find?_cons]
   by_cases h : a.1 = s
   ·simp [h]
   ·simp only [h, decide_false]
    exact ih
 funext s
 rw [key, key, this]
set_option maxHeartbeats 1000000 in
theorem enter_spec {b : Nat} {m : WM} {q : WH} {u : Thing} {more : List Thing} (h : Hp S w0 w (q.all b m u ++ more)) (hl : q.xs.length ≤ 12) (h4 : ∀ x ∈ q.xs, x.2.2.length ≤ 4) (hok : ∀ x ∈ q.T, x.2.2.Ok) {set : Int} (s0 : 0 ≤ set) (s1 : set < 4611686018427387904) {e : Ent} {vs : Sl} {xs : List Int} (hu : Hp.Reads u vs 1 iv xs) {K : World → Prop}
  (hK : ∀ (T1 : List TT) (k tb : Nat) (t : TabM) w', (T1 = q.T ∨ (T1 = q.T ++ [(set, tb, ⟨atF (kinds q.xs) set q.xs.length, []⟩)] ∧ ∀ x ∈ q.T, x.1 ≠ set)) → T1[k]? = some (set, tb, t) →
   Hp S w0 w' (({ q with T := T1.set k (set, tb, (t.addM e xs).1) } : WH).all b { m with sets := upd1 m.sets e (some set) } u ++ more) → K w') : c71 (some ⟨b, 0, none⟩) e.1 e.2 set vs w K := by
 refine c71_of ?_
 unfold f71
 refine h.nw (c := [_, _]) fun eb w1 h => ?_
 have h : Hp S w0 w1 (q.all b m u ++ (more ++ [tBlk eb 33 [.int .i64 e.1, .int .i64 e.2]])) := by rw [← List.append_assoc]; exact h
 refine h.dr fun w2 h => ?_
 refine nns ?_
 refine h.ld (n := 2) (k := .m) (x := some q.ms) 0 rfl rfl ?_
 have ge : ∀ {q : WH} {m : WM}, ((q.all b m u ++ (more ++ [tBlk eb 33 [.int .i64 e.1, .int .i64 e.2]]))[8 + more.length]?).map Thing.holds = some (tBlk eb 33 [.int .i64 e.1, .int .i64 e.2]).holds := fun {q m} => by
  have : (q.all b m u).length = 8 := rfl
  rw [List.getElem?_append_right (by omega), List.getElem?_append_right (by omega), this]
  simp
 refine h.ld0 (k := .i .i64) (x := e.1) (8 + more.length) ge rfl ?_
 refine h.ld (n := 1) (k := .i .i64) (x := e.2) (8 + more.length) ge rfl ?_
 refine h.update (ek := entV) (ev := Value.int .i64) (g := m.sets) (k := e) (v := set) 5 rfl rfl und98 keyEnt rfl fun w3 h => ?_
 have h : Hp S w0 w3 (q.all b { m with sets := upd1 m.sets e (some set) } u ++ (more ++ [tBlk eb 33 [.int .i64 e.1, .int .i64 e.2]])) := h
 refine h.dr fun w4 h => ?_
 refine h.ld0 (k := .i .i64) (x := e.1) (8 + more.length) ge rfl ?_
 refine h.ld (n := 1) (k := .i .i64) (x := e.2) (8 + more.length) ge rfl ?_
 refine tableOf_spec h hl h4 s0 s1 fun T1 tb w5 hT h => ?_
 refine ⟨h.cel0 (8 + more.length) ge rfl, h.cel (n := 1) (8 + more.length) ge rfl, ?_⟩
 obtain ⟨k, t, hk, hT'⟩ : ∃ (k : Nat) (t : TabM), T1[k]? = some (set, tb, t) ∧ (T1 = q.T ∨ (T1 = q.T ++ [(set, tb, ⟨atF (kinds q.xs) set q.xs.length, []⟩)] ∧ ∀ x ∈ q.T, x.1 ≠ set)) := by
  rcases hT with ⟨rfl, k, t, hk⟩ | ⟨rfl, hno⟩
  ·exact ⟨k, t, hk, .inl rfl⟩
  ·exact ⟨q.T.length, ⟨atF (kinds q.xs) set q.xs.length, []⟩, by simp, .inr ⟨rfl, hno⟩⟩
 have hks : ∀ x ∈ kinds q.xs, x.2.length ≤ 4 := fun x hx => by
  obtain ⟨y, hy, rfl⟩ := List.mem_map.1 hx
  exact h4 y hy
 have htok : t.Ok := by
  rcases hT' with rfl | ⟨rfl, _⟩
  ·exact hok _ (List.mem_of_getElem? hk)
  ·have hm := List.mem_of_getElem? hk
   rcases List.mem_append.1 hm with hm | hm
   ·exact hok _ hm
   ·simp only [List.mem_singleton, Prod.mk.injEq] at hm
    obtain ⟨_, _, rfl⟩ := hm
    have := atF_le hks set q.xs.length
    exact ⟨by show atF (kinds q.xs) set q.xs.length ≤ 48; omega, by simp, by simp [TabM.owners], by simp⟩
 obtain ⟨A, hA⟩ : ∃ A : List Thing, A = ({ q with T := T1 } : WH).all b { m with sets := upd1 m.sets e (some set) } u ++ (more ++ [tBlk eb 33 [.int .i64 e.1, .int .i64 e.2]]) := ⟨_, rfl⟩
 have hAl : 7 < A.length := by rw [hA]; simp [WH.all]
 have hA7 : A[7]? = some (tAll (T1.map tT)) := by rw [hA]; rfl
 have hA1 : A[1]? = some u := by rw [hA]; rfl
 rw [← hA] at h
 have htk : (T1.map tT)[k]? = some (tT (set, tb, t)) := by rw [List.getElem?_map, hk]; rfl
 have h := h.pick (i := 7) (k := k) hA7 htk rfl
 have hBl : (A.set 7 (tAll ((T1.map tT).set k tEmp))).length = A.length := List.length_set
 refine FT.Add_spec h A.length 1 (by omega) (e := e) (u := u) (b := tb) (m := t) htok (by rw [← hBl, List.getElem?_append_right (Nat.le_refl _), Nat.sub_self]; rfl) (by rw [List.getElem?_append_left (by omega), List.getElem?_set_ne (by decide)]; exact hA1) hu fun w6 h => ?_
 have hkl := (List.getElem?_eq_some_iff.1 hk).1
 rw [← hBl, List.set_append_right _ _ (Nat.le_refl _), Nat.sub_self] at h
 have h : Hp S w0 w6 (A.set 7 (tAll ((T1.map tT).set k tEmp)) ++ [tT (set, tb, (t.addM e xs).1)]) := h
 have h := h.unpick (i := 7) (j := A.length) (k := k) (ts := (T1.map tT).set k tEmp) (t := tT (set, tb, (t.addM e xs).1)) (by omega) (by rw [List.getElem?_append_left (by omega), List.getElem?_set_self hAl]) (by rw [← hBl, List.getElem?_append_right (Nat.le_refl _), Nat.sub_self]; rfl) (by rw [List.getElem?_set_self (by simpa using hkl)]) rfl
 rw [List.set_set, List.set_append_left _ _ (by omega), List.set_set, ← hBl] at h
 have e1 : (A.set 7 (tAll ((T1.map tT).set k (tT (set, tb, (t.addM e xs).1)))) ++ [tT (set, tb, (t.addM e xs).1)]).set (A.set 7 (tAll ((T1.map tT).set k tEmp))).length tEmp = A.set 7 (tAll ((T1.map tT).set k (tT (set, tb, (t.addM e xs).1)))) ++ [tEmp] := by
  rw [hBl, List.set_append_right _ _ (by rw [List.length_set]; omega), List.length_set, Nat.sub_self]; rfl
 rw [e1] at h
 have h := h.front
 have e2 : (T1.map tT).set k (tT (set, tb, (t.addM e xs).1)) = (T1.set k (set, tb, (t.addM e xs).1)).map tT := by rw [List.map_set]
 rw [e2, hA] at h
 have h : Hp S w0 w6 (({ q with T := T1.set k (set, tb, (t.addM e xs).1) } : WH).all b { m with sets := upd1 m.sets e (some set) } u ++ (more ++ [tBlk eb 33 [.int .i64 e.1, .int .i64 e.2]])) := by
  unfold WH.all
  rw [show tptr ({ q with T := T1.set k (set, tb, (t.addM e xs).1) } : WH).T = tptr T1 from tptr_set hk]
  exact h
 rw [← List.append_assoc] at h
 exact hK T1 k tb t w6 hT' hk h.front
end
end Go.Proofs.Ythmbjlpgbkkjjaa.FW
end

section
namespace Go.Proofs.Ythmbjlpgbkkjjaa.FW
open F
open Go Go.Den Go.Proofs
open FI (PoolM tPool)
open FT (TabM tTab Ent entV ent atI keyEnt iv)
section
variable {S : List Nat} {w0 w : World} {its : List Thing}
theorem ge_at {b : Nat} {m : WM} {q : WH} {u t : Thing} {more : List Thing} : (q.all b m u ++ (more ++ [t]))[8 + more.length]? = some t := by
 have : (q.all b m u).length = 8 := rfl
 rw [List.getElem?_append_right (by omega), List.getElem?_append_right (by omega), this]
 simp
theorem Lives_spec {b : Nat} {m : WM} {q : WH} {u : Thing} {more : List Thing} (h : Hp S w0 w (q.all b m u ++ more)) (hp : m.pool.Ok) {e : Ent} {K : Bool → World → Prop} (hK : ∀ w', Hp S w0 w' (q.all b m u ++ more) → K (m.pool.is e.1 e.2) w') : c18 (some ⟨b, 0, none⟩) e.1 e.2 w K := by
 refine c18_of ?_
 unfold f18
 refine h.nw (c := [_, _]) fun eb w1 h => ?_
 have h : Hp S w0 w1 (q.all b m u ++ (more ++ [tBlk eb 33 [.int .i64 e.1, .int .i64 e.2]])) := by rw [← List.append_assoc]; exact h
 refine h.dr fun w2 h => ?_
 refine nns ?_
 refine h.ld (n := 1) (k := .p) (x := some ⟨q.pb, 0, none⟩) 0 rfl rfl ?_
 refine h.ld0 (k := .i .i64) (x := e.1) (8 + more.length) (by rw [ge_at]; rfl) rfl ?_
 refine h.ld (n := 1) (k := .i .i64) (x := e.2) (8 + more.length) (by rw [ge_at]; rfl) rfl ?_
 refine FI.Lives_h h 4 hp rfl fun w3 h => ?_
 rw [← List.append_assoc] at h
 exact hK _ h.front
set_option maxHeartbeats 1000000 in
theorem asked_spec {b : Nat} {m : WM} {q : WH} {u : Thing} {more : List Thing} (h : Hp S w0 w (q.all b m u ++ more)) (hp : m.pool.Ok) (hl : q.xs.length ≤ 12) {e : Ent} (hset : ∀ s, m.sets e = some s → 0 ≤ s ∧ s < 4611686018427387904) {kind : Int} (k1 : -9223372036854775808 ≤ kind) (k2 : kind ≤ 9223372036854775807) {K : Int → Bool → Int → Int → World → Prop}
  (hK : ∀ w', Hp S w0 w' (q.all b m u ++ more) → (m.pool.is e.1 e.2 = false → K 0 false 0 41 w') ∧ (m.pool.is e.1 e.2 = true → fl (kinds q.xs) kind = none → K 0 false 0 60 w') ∧ (∀ n, m.pool.is e.1 e.2 = true → fl (kinds q.xs) kind = some n → K ((m.sets e).getD 0) (bit ((m.sets e).getD 0) kind.toNat == 1) (n : Nat) 0 w')) :
  c74 (some ⟨b, 0, none⟩) e.1 e.2 kind w K := by
 refine c74_of ?_
 unfold f74
 obtain ⟨inf, p1, p2, p3, p4⟩ := inf3
 refine h.nw (c := [_, _]) fun eb w1 h => ?_
 have h : Hp S w0 w1 (q.all b m u ++ (more ++ [tBlk eb 33 [.int .i64 e.1, .int .i64 e.2]])) := by rw [← List.append_assoc]; exact h
 have bk : ∀ {w}, Hp S w0 w (q.all b m u ++ (more ++ [tBlk eb 33 [.int .i64 e.1, .int .i64 e.2]])) → Hp S w0 w (q.all b m u ++ more) := fun {w} h => by
  rw [← List.append_assoc] at h; exact h.front
 refine h.dr fun w2 h => ?_
 refine nns ?_
 refine h.ld (n := 1) (k := .p) (x := some ⟨q.pb, 0, none⟩) 0 rfl rfl ?_
 refine h.ld0 (k := .i .i64) (x := e.1) (8 + more.length) (by rw [ge_at]; rfl) rfl ?_
 refine h.ld (n := 1) (k := .i .i64) (x := e.2) (8 + more.length) (by rw [ge_at]; rfl) rfl ?_
 refine FI.Lives_h h 4 hp rfl fun w3 h => ?_
 by_cases hlv : m.pool.is e.1 e.2 = true
 ·refine ifF (by rw [hlv]; simp) ?_
  refine fields_spec h 0 2 3 (cells := [_, _, _]) rfl rfl rfl (by omega) k1 k2 ?_
  cases hf : fl (kinds q.xs) kind with
  | none => exact ifT rfl ((hK _ (bk h)).2.1 hlv hf)
  | some n =>
   have hk : 1 ≤ kind ∧ kind ≤ 12 := by
    unfold fl at hf
    by_cases h1 : 1 ≤ kind
    ·rw [if_pos h1] at hf
     obtain ⟨x, hx, _⟩ := Option.map_eq_some_iff.1 hf
     have := (List.getElem?_eq_some_iff.1 hx).1
     simp only [kinds, List.length_map] at this
     omega
    ·rw [if_neg h1] at hf; cases hf
   refine ifF (by simp) ?_
   refine h.dr fun w4 h => ?_
   refine nns ?_
   refine h.ld (n := 2) (k := .m) (x := some q.ms) 0 rfl rfl ?_
   refine h.ld0 (k := .i .i64) (x := e.1) (8 + more.length) (by rw [ge_at]; rfl) rfl ?_
   refine h.ld (n := 1) (k := .i .i64) (x := e.2) (8 + more.length) (by rw [ge_at]; rfl) rfl ?_
   refine h.lookup1 (kd := .i .i64) (vk := id) (z := (0 : Int)) (ek := entV) (ev := Value.int .i64) (g := m.sets) (k := e) 5 rfl rfl und98 keyEnt p1 p2 (fun _ => rfl) ?_
   refine h.dr fun w5 h => ?_
   have hr : 0 ≤ (m.sets e).getD 0 ∧ (m.sets e).getD 0 < 4611686018427387904 := by
    cases hse : m.sets e with
    | none => simp
    | some s => exact hset s hse
   have fin : ∀ s : Int, s = (m.sets e).getD 0 → (0 ≤ kind ∧ K s (IntKind.i64.wrap ((BitVec.ofInt 64 (Int.fdiv s (2 ^ (min (Int.toNat kind) 64))) &&& BitVec.ofInt 64 1).toNat : Nat) == 1) (n : Nat) 0 w5) := fun s hs => by
    subst hs
    refine ⟨by omega, ?_⟩
    obtain ⟨kn, hkn⟩ : ∃ kn : Nat, kind = kn := ⟨kind.toNat, by omega⟩
    have hb := bit_eq (k := kn) hr.1 hr.2 (by omega)
    have := (hK _ (bk h)).2.2 n hlv hf
    rw [hkn] at this ⊢
    rw [hb]
    rw [Int.toNat_natCast] at this
    exact this
   cases hse : m.sets e with
   | none => exact fin 0 (by rw [hse]; rfl)
   | some s => exact fin s (by rw [hse]; rfl)
 ·have hlv : m.pool.is e.1 e.2 = false := by simpa using hlv
  refine ifT (by rw [hlv]; rfl) ?_
  exact (hK _ (bk h)).1 hlv
end
section
variable {S : List Nat} {w0 w : World} {its : List Thing}
theorem tptr_at {T : List TT} {k : Nat} {set : Int} {tb : Nat} {t : TabM} (hnd : (T.map (·.1)).Nodup) (hk : T[k]? = some (set, tb, t)) : tptr T set = some tb := by
 have hm := List.mem_of_getElem? hk
 unfold tptr
 cases hf : T.find? (fun x => decide (x.1 = set)) with
 | none =>
  have := List.find?_eq_none.1 hf _ hm
  simp at this
 | some x =>
  have h1 := List.find?_some hf
  simp only [decide_eq_true_eq] at h1
  have h2 := List.mem_of_find?_eq_some hf
  obtain ⟨j, hj, rfl⟩ := List.mem_iff_getElem.1 h2
  have hkl := (List.getElem?_eq_some_iff.1 hk).1
  have hke := (List.getElem?_eq_some_iff.1 hk).2
  have : j = k := (List.getElem?_inj (i := j) (j := k) (l := T.map (·.1)) (by simpa using hj) hnd).1 (by rw [List.getElem?_map, List.getElem?_map, hk, List.getElem?_eq_getElem hj]; simp [h1])
  subst this
  rw [hke]; rfl
theorem tAll_erase : ∀ {ts : List Thing} {k : Nat} {w : World} {O : List Nat}, k < ts.length → (tAll (ts.set k tEmp)).holds w O → ∃ O', (tAll (ts.eraseIdx k)).holds w O' ∧ ∀ x ∈ O', x ∈ O
 | t :: ts, 0, w, O, _, h => by
  obtain ⟨O1, O2, h1, h2, h3, h4⟩ := h
  exact ⟨O2, h2, fun x hx => (h4 x).2 (.inr hx)⟩
 | t :: ts, k + 1, w, O, hk, h => by
  obtain ⟨O1, O2, h1, h2, h3, h4⟩ := h
  obtain ⟨O', g1, g2⟩ := tAll_erase (k := k) (by simpa using hk) h2
  exact ⟨O1 ++ O', ⟨O1, O', h1, g1, fun x hx hx' => h3 x hx (g2 x hx'), by simp⟩, fun x hx => by
   rcases List.mem_append.1 hx with hx | hx
   ·exact (h4 x).2 (.inl hx)
   ·exact (h4 x).2 (.inr (g2 x hx))⟩
theorem tptr_cons (x : TT) (T : List TT) (s : Int) : tptr (x :: T) s = if x.1 = s then some x.2.1 else tptr T s := by
 unfold tptr
 rw [List.find?_cons]
 by_cases h : x.1 = s <;> simp [h]
theorem tptr_out : ∀ {T : List TT} {s : Int}, s ∉ T.map (·.1) → tptr T s = none
 | [], _, _ => rfl
 | x :: T, s, h => by
  simp only [List.map_cons, List.mem_cons, not_or] at h
  rw [tptr_cons, if_neg (fun e => h.1 e.symm)]
  exact tptr_out h.2
theorem tptr_erase : ∀ {T : List TT} {k : Nat} {set : Int} {tb : Nat} {t : TabM}, (T.map (·.1)).Nodup → T[k]? = some (set, tb, t) → upd1 (tptr T) set none = tptr (T.eraseIdx k)
 | x :: T, 0, set, tb, t, hnd, hk => by
  simp only [List.getElem?_cons_zero, Option.some.injEq] at hk
  subst hk
  simp only [List.map_cons, List.nodup_cons] at hnd
  funext s
  show (if s = set then none else _) = tptr T s
  by_cases hs : s = set
  ·rw [if_pos hs, hs]; exact (tptr_out hnd.1).symm
  ·rw [if_neg hs, tptr_cons, if_neg (fun e => hs e.symm)]
 | x :: T, k + 1, set, tb, t, hnd, hk => by
  simp only [List.getElem?_cons_succ] at hk
  simp only [List.map_cons, List.nodup_cons] at hnd
  have ih := tptr_erase hnd.2 hk
  have hne : x.1 ≠ set := fun e => hnd.1 (by rw [e]; exact List.mem_map.2 ⟨_, List.mem_of_getElem? hk, rfl⟩)
  funext s
  have ih := congrFun ih s
  show (if s = set then none else tptr (x :: T) s) = tptr (x :: T.eraseIdx k) s
  have ih : (if s = set then none else tptr T s) = tptr (T.eraseIdx k) s := ih
  rw [tptr_cons, tptr_cons, ← ih]
  by_cases hs : s = set
  ·subst hs; simp [hne]
  ·simp [hs]
set_option maxHeartbeats 2000000 in
theorem leave_spec {b : Nat} {m : WM} {q : WH} {u : Thing} {more : List Thing} (h : Hp S w0 w (q.all b m u ++ more)) {e : Ent} {set : Int} {k tb row : Nat} {t : TabM} {vals : List Int} (hset : m.sets e = some set) (hnd : (q.T.map (·.1)).Nodup) (hk : q.T[k]? = some (set, tb, t)) (hok : t.Ok) (hat : atI t e = some (row : Int)) (hrow : t.rows[row]? = some (e, vals)) {K : Sl → World → Prop}
  (hK : ∀ (s : Sl) (T' : List TT) w', (((t.del row).rows.length ≠ 0 ∧ T' = q.T.set k (set, tb, t.del row)) ∨ ((t.del row).rows.length = 0 ∧ T' = q.T.eraseIdx k)) →
   Hp S w0 w' (({ q with T := T' } : WH).all b { m with sets := upd1 m.sets e none } u ++ more ++ [tSl s 2 1 iv vals]) → K s w') : c73 (some ⟨b, 0, none⟩) e.1 e.2 w K := by
 refine c73_of ?_
 unfold f73
 obtain ⟨inf, p1, p2, p3, p4⟩ := inf3
 obtain ⟨inf', r1, r2, r3, r4⟩ := inf121
 refine h.nw (c := [_, _]) fun eb w1 h => ?_
 have h : Hp S w0 w1 (q.all b m u ++ (more ++ [tBlk eb 33 [.int .i64 e.1, .int .i64 e.2]])) := by rw [← List.append_assoc]; exact h
 refine h.dr fun w2 h => ?_
 refine nns ?_
 refine h.ld (n := 2) (k := .m) (x := some q.ms) 0 rfl rfl ?_
 refine h.ld0 (k := .i .i64) (x := e.1) (8 + more.length) (by rw [ge_at]; rfl) rfl ?_
 refine h.ld (n := 1) (k := .i .i64) (x := e.2) (8 + more.length) (by rw [ge_at]; rfl) rfl ?_
 refine h.lookup1 (kd := .i .i64) (vk := id) (z := (0 : Int)) (ek := entV) (ev := Value.int .i64) (g := m.sets) (k := e) 5 rfl rfl und98 keyEnt p1 p2 (fun _ => rfl) ?_
 rw [hset]
 refine nns ?_
 refine h.ld (n := 3) (k := .m) (x := some q.mt) 0 rfl rfl ?_
 refine h.lookup1 (kd := .p) (vk := fun tb => some ⟨tb, 0, none⟩) (z := (none : Option Addr)) (ek := Value.int .i64) (ev := pv) (g := tptr q.T) (k := set) 6 rfl rfl und99 key3 r1 r2 (fun _ => rfl) ?_
 rw [tptr_at hnd hk]
 refine h.ld0 (k := .i .i64) (x := e.1) (8 + more.length) (by rw [ge_at]; rfl) rfl ?_
 refine h.ld (n := 1) (k := .i .i64) (x := e.2) (8 + more.length) (by rw [ge_at]; rfl) rfl ?_
 -- the table, apart
 obtain ⟨A, hA⟩ : ∃ A : List Thing, A = q.all b m u ++ (more ++ [tBlk eb 33 [.int .i64 e.1, .int .i64 e.2]]) := ⟨_, rfl⟩
 have hAl : A.length = 9 + more.length := by rw [hA]; simp [WH.all]; omega
 have hA7 : A[7]? = some (tAll (q.T.map tT)) := by rw [hA]; rfl
 have hAe : A[8 + more.length]? = some (tBlk eb 33 [.int .i64 e.1, .int .i64 e.2]) := by rw [hA]; exact ge_at
 have hA5 : A[5]? = some (tMp q.ms entV (Value.int .i64) m.sets) := by rw [hA]; rfl
 have hA0 : A[0]? = some (q.blk b) := by rw [hA]; rfl
 rw [← hA] at h
 have htk : (q.T.map tT)[k]? = some (tT (set, tb, t)) := by rw [List.getElem?_map, hk]; rfl
 have h := h.pick (i := 7) (k := k) hA7 htk rfl
 obtain ⟨B, hB⟩ : ∃ B : List Thing, B = A.set 7 (tAll ((q.T.map tT).set k tEmp)) := ⟨_, rfl⟩
 have hBl : B.length = A.length := by rw [hB]; exact List.length_set
 have hB' : ∀ j, j ≠ 7 → B[j]? = A[j]? := fun j hj => by rw [hB, List.getElem?_set_ne (fun e => hj e.symm)]
 rw [← hB] at h
 have getB : ∀ {l : List Thing} (j : Nat), (B ++ l)[B.length + j]? = l[j]? := fun {l} j => by rw [List.getElem?_append_right (by omega)]; simp
 have setB : ∀ {l : List Thing} (j : Nat) (t : Thing), (B ++ l).set (B.length + j) t = B ++ l.set j t := fun {l} j t => by rw [List.set_append_right _ _ (by omega)]; simp
 have inB : ∀ {l : List Thing} {j : Nat}, j < B.length → (B ++ l)[j]? = B[j]? := fun {l j} hj => List.getElem?_append_left hj
 refine FT.Find_spec h (B.length + 0) (b := tb) (m := t) (by rw [getB]; rfl) fun w3 h => ?_
 rw [hat]
 refine FT.Row_spec h (B.length + 0) (b := tb) (m := t) hok (by rw [getB]; rfl) fun s w4 => ⟨fun rr hr0 hrr h => ?_, fun hno => ?_⟩
 ·have hrr : t.rows[row]? = some rr := hrr
  rw [hrow] at hrr
  have hrr := Option.some.inj hrr
  subst hrr
  have h : Hp S w0 w4 (B ++ [tT (set, tb, t), tSl s 2 1 iv vals]) := by
   have := h
   rw [List.append_assoc] at this
   exact this
  refine h.nw (c := [_, _]) fun xb w5 h => ?_
  have h : Hp S w0 w5 (B ++ [tT (set, tb, t), tSl s 2 1 iv vals, tBlk xb 33 [.int .i64 0, .int .i64 0]]) := by
   have := h
   rw [List.append_assoc] at this
   exact this
  refine h.st0 (B.length + 2) (by rw [getB]; rfl) (by simp) rfl fun w6 h => ?_
  rw [setB] at h
  refine h.st (n := 1) (B.length + 2) (by rw [getB]; rfl) (by simp) rfl fun w7 h => ?_
  rw [setB] at h
  simp only [List.set_cons_zero, List.set_cons_succ] at h
  have hBe : ∀ {l : List Thing}, (B ++ l)[8 + more.length]? = some (tBlk eb 33 [.int .i64 e.1, .int .i64 e.2]) := fun {l} => by rw [inB (by omega), hB' _ (by omega)]; exact hAe
  refine h.ld0 (k := .i .i64) (x := e.1) (8 + more.length) (by rw [hBe]; rfl) rfl ?_
  refine h.ld (n := 1) (k := .i .i64) (x := e.2) (8 + more.length) (by rw [hBe]; rfl) rfl ?_
  refine FT.Find_spec h (B.length + 0) (b := tb) (m := t) (by rw [getB]; rfl) fun w8 h => ?_
  rw [hat]
  refine FT.Remove_spec h (B.length + 0) (b := tb) (m := t) hok (by rw [getB]; rfl) fun w9 h => ?_
  have hrl : row < t.rows.length := (List.getElem?_eq_some_iff.1 hrow).1
  have ed : (t.delM ((some (row : Int)).getD (-1))).1 = t.del row := by
   show (t.delM (row : Int)).1 = _
   unfold TabM.delM
   rw [if_pos ⟨by omega, by omega⟩, Int.toNat_natCast]
  rw [ed, setB] at h
  simp only [List.set_cons_zero, List.set_cons_succ] at h
  refine h.dr fun w10 h => ?_
  refine nns ?_
  have hB0 : ∀ {l : List Thing}, (B ++ l)[0]? = some (q.blk b) := fun {l} => by rw [inB (by omega), hB' _ (by omega)]; exact hA0
  refine h.ld (n := 2) (k := .m) (x := some q.ms) 0 (by rw [hB0]; rfl) rfl ?_
  refine h.ld0 (k := .i .i64) (x := e.1) (8 + more.length) (by rw [hBe]; rfl) rfl ?_
  refine h.ld (n := 1) (k := .i .i64) (x := e.2) (8 + more.length) (by rw [hBe]; rfl) rfl ?_
  have hB5 : ∀ {l : List Thing}, (B ++ l)[5]? = some (tMp q.ms entV (Value.int .i64) m.sets) := fun {l} => by rw [inB (by omega), hB' _ (by omega)]; exact hA5
  refine h.delete (ek := entV) (ev := Value.int .i64) (g := m.sets) (k := e) 5 rfl hB5 und98 keyEnt fun nv w11 h => ?_
  rw [List.set_append_left _ _ (by omega)] at h
  obtain ⟨C, hC⟩ : ∃ C : List Thing, C = B.set 5 (tMp q.ms entV (Value.int .i64) (upd1 m.sets e none)) := ⟨_, rfl⟩
  have hCl : C.length = B.length := by rw [hC]; exact List.length_set
  rw [← hC] at h
  have getC : ∀ {l : List Thing} (j : Nat), (C ++ l)[C.length + j]? = l[j]? := fun {l} j => by rw [List.getElem?_append_right (by omega)]; simp
  have setC : ∀ {l : List Thing} (j : Nat) (t : Thing), (C ++ l).set (C.length + j) t = C ++ l.set j t := fun {l} j t => by rw [List.set_append_right _ _ (by omega)]; simp
  have inC : ∀ {l : List Thing} {j : Nat}, j < C.length → (C ++ l)[j]? = C[j]? := fun {l j} hj => List.getElem?_append_left hj
  have hkl : k < q.T.length := (List.getElem?_eq_some_iff.1 hk).1
  have hC7 : C[7]? = some (tAll ((q.T.map tT).set k tEmp)) := by rw [hC, List.getElem?_set_ne (by decide), hB, List.getElem?_set_self (by omega)]
  refine FT.Len_spec h (C.length + 0) (b := tb) (m := t.del row) (by rw [getC]; rfl) ?_
  by_cases hz : (t.del row).rows.length = 0
  ·refine ifT (by simp [hz]) ?_
   refine nns ?_
   have hC0 : C[0]? = some (q.blk b) := by rw [hC, List.getElem?_set_ne (by decide), hB' _ (by decide)]; exact hA0
   have hC6 : C[6]? = some (tMp q.mt (Value.int .i64) pv (tptr q.T)) := by rw [hC, List.getElem?_set_ne (by decide), hB' _ (by decide), hA]; rfl
   refine h.ld (n := 3) (k := .m) (x := some q.mt) 0 (by rw [inC (by omega), hC0]; rfl) rfl ?_
   refine h.delete (ek := Value.int .i64) (ev := pv) (g := tptr q.T) (k := set) 6 rfl (by rw [inC (by omega)]; exact hC6) und99 key3 fun nv2 w12 h => ?_
   have h := h.lose (i := C.length + 0) (t := tTab tb (t.del row)) (by rw [List.getElem?_set_ne (by omega), getC]; rfl) rfl
   have h := h.less (i := 7) (t := tAll ((q.T.map tT).set k tEmp)) (t' := tAll ((q.T.eraseIdx k).map tT)) (by rw [List.getElem?_set_ne (by omega), List.getElem?_set_ne (by decide), inC (by omega)]; exact hC7) (tAll_own _) (fun w O hO => by
    obtain ⟨O', g1, g2⟩ := tAll_erase (by simpa using hkl) hO
    refine ⟨O', ?_, g2⟩
    rw [map_eraseIdx']
    exact g1) (tAll_own _)
   rw [tptr_erase hnd hk, List.set_append_left _ _ (by omega), List.set_append_right _ _ (by rw [List.length_set]; omega), List.length_set, List.set_append_left _ _ (by rw [List.length_set]; omega)] at h
   have h : Hp S w0 w12 ((C.set 6 (tMp q.mt (Value.int .i64) pv (tptr (q.T.eraseIdx k)))).set 7 (tAll ((q.T.eraseIdx k).map tT)) ++ [tEmp, tSl s 2 1 iv vals, tBlk xb 33 [.int .i64 e.1, .int .i64 e.2]]) := by
    simpa using h
   rw [hC, hB, hA] at h
   have h : Hp S w0 w12 ((({ q with T := q.T.eraseIdx k } : WH).all b { m with sets := upd1 m.sets e none } u ++ (more ++ [tBlk eb 33 [.int .i64 e.1, .int .i64 e.2]])) ++ [tEmp, tSl s 2 1 iv vals, tBlk xb 33 [.int .i64 e.1, .int .i64 e.2]]) := h
   have h : Hp S w0 w12 (((({ q with T := q.T.eraseIdx k } : WH).all b { m with sets := upd1 m.sets e none } u ++ more) ++ [tBlk eb 33 [.int .i64 e.1, .int .i64 e.2], tEmp] ++ [tSl s 2 1 iv vals]) ++ [tBlk xb 33 [.int .i64 e.1, .int .i64 e.2]]) := by
    simp only [List.append_assoc, List.cons_append, List.nil_append] at h ⊢
    exact h
   exact hK s _ w12 (.inr ⟨hz, rfl⟩) h.front.dropMid
  ·refine ifF (by simpa using hz) ?_
   have h := h.unpick (i := 7) (j := C.length + 0) (k := k) (ts := (q.T.map tT).set k tEmp) (t := tT (set, tb, t.del row)) (by omega) (by rw [inC (by omega)]; exact hC7) (by rw [getC]; rfl) (by rw [List.getElem?_set_self (by simpa using hkl)]) rfl
   rw [List.set_append_left _ _ (by omega), List.set_set] at h
   have h : Hp S w0 w11 (C.set 7 (tAll ((q.T.map tT).set k (tT (set, tb, t.del row)))) ++ [tEmp, tSl s 2 1 iv vals, tBlk xb 33 [.int .i64 e.1, .int .i64 e.2]]) := by
    rw [List.set_append_right _ _ (by rw [List.length_set]; omega), List.length_set] at h
    simpa using h
   have e2 : (q.T.map tT).set k (tT (set, tb, t.del row)) = (q.T.set k (set, tb, t.del row)).map tT := by rw [List.map_set]
   rw [e2, hC, hB, hA] at h
   have h : Hp S w0 w11 ((({ q with T := q.T.set k (set, tb, t.del row) } : WH).all b { m with sets := upd1 m.sets e none } u ++ (more ++ [tBlk eb 33 [.int .i64 e.1, .int .i64 e.2]])) ++ [tEmp, tSl s 2 1 iv vals, tBlk xb 33 [.int .i64 e.1, .int .i64 e.2]]) := by
    unfold WH.all
    rw [show tptr ({ q with T := q.T.set k (set, tb, t.del row) } : WH).T = tptr q.T from tptr_set hk]
    exact h
   have h : Hp S w0 w11 (((({ q with T := q.T.set k (set, tb, t.del row) } : WH).all b { m with sets := upd1 m.sets e none } u ++ more) ++ [tBlk eb 33 [.int .i64 e.1, .int .i64 e.2], tEmp] ++ [tSl s 2 1 iv vals]) ++ [tBlk xb 33 [.int .i64 e.1, .int .i64 e.2]]) := by
    simp only [List.append_assoc, List.cons_append, List.nil_append] at h ⊢
    exact h
   exact hK s _ w11 (.inl ⟨hz, rfl⟩) h.front.dropMid
 ·exact absurd ⟨by show (0 : Int) ≤ row; omega, by show (row : Int) < _; have := (List.getElem?_eq_some_iff.1 hrow).1; omega⟩ hno
end
abbrev KD := List (ByteArray × List ByteArray)
abbrev PL := List (Option (List Int))
def setN : PL → Nat
 | [] => 0
 | o :: p => (if o.isSome then 1 else 0) + 2 * setN p
def setI (p : PL) : Int := (setN (none :: p) : Nat)
def flat (p : PL) : List Int := p.flatMap fun o => o.getD []
def PL.fit (ks : KD) (p : PL) : Prop := p.length = ks.length ∧ ∀ (i : Nat) (v : List Int) (k : ByteArray × List ByteArray), p[i]? = some (some v) → ks[i]? = some k → v.length = k.2.length
theorem setN_bit : ∀ (p : PL) (i : Nat), (setN p).testBit i = (p.getD i none).isSome
 | [], i => by simp [setN]
 | o :: p, 0 => by
  rw [setN, Nat.testBit_zero]
  cases o <;> simp <;> omega
 | o :: p, i + 1 => by
  rw [setN, Nat.testBit_succ]
  have : ((if o.isSome = true then 1 else 0) + 2 * setN p) / 2 = setN p := by split <;> omega
  rw [this, setN_bit p i]; rfl
theorem setN_lt : ∀ p : PL, setN p < 2 ^ p.length
 | [] => by simp [setN]
 | o :: p => by
  have := setN_lt p
  rw [setN, List.length_cons, Nat.pow_succ]
  split <;> omega
theorem setI_nn (p : PL) : 0 ≤ setI p := by unfold setI; omega
theorem setI_lt {p : PL} (h : p.length ≤ 12) : setI p < 8192 := by
 have h1 := setN_lt (none :: p)
 have h2 : 2 ^ (none :: p : PL).length ≤ 2 ^ 13 := Nat.pow_le_pow_right (by omega) (by simp; omega)
 unfold setI; omega
theorem bit_setN (p : PL) (i : Nat) : bit ((setN p : Nat) : Int) i = if (p.getD i none).isSome then 1 else 0 := by
 have h := setN_bit p i
 rw [Nat.testBit_eq_decide_div_mod_eq] at h
 unfold bit
 have e : (((setN p : Nat) : Int) / 2 ^ i) % 2 = ((setN p / 2 ^ i % 2 : Nat) : Int) := by simp
 rw [e]
 cases hs : (p.getD i none).isSome with
 | true => rw [hs] at h; have := of_decide_eq_true h; rw [this]; rfl
 | false =>
  rw [hs] at h
  have := of_decide_eq_false h
  have : setN p / 2 ^ i % 2 = 0 := by omega
  rw [this]; rfl
theorem bit_setI (p : PL) (i : Nat) : bit (setI p) (i + 1) = if (p.getD i none).isSome then 1 else 0 := bit_setN (none :: p) (i + 1)
theorem bit_is {p : PL} {i : Nat} : bit (setI p) (i + 1) = 1 ↔ (p.getD i none).isSome = true := by
 rw [bit_setI]; split <;> simp_all
theorem getD_setL (p : PL) (i j : Nat) (o : Option (List Int)) : (p.set i o).getD j none = if i = j ∧ j < p.length then o else p.getD j none := by
 rw [List.getD_eq_getElem?_getD, List.getElem?_set, List.getD_eq_getElem?_getD]
 by_cases h : i = j
 ·subst h
  by_cases hl : i < p.length
  ·simp [hl]
  ·simp [hl]
 ·simp [h]
theorem two_lt {k : Nat} (hk : k ≤ 61) : (2 : Nat) ^ k ≤ 2305843009213693952 := Nat.le_trans (Nat.pow_le_pow_right (by omega) hk) (by decide)
theorem shl_eq {k : Nat} (hk : k ≤ 61) : IntKind.i64.wrap (1 * 2 ^ (min (Int.toNat (k : Int)) 64)) = ((2 ^ k : Nat) : Int) := by
 have h := two_lt hk
 rw [Int.toNat_natCast, show min k 64 = k by omega, Int.one_mul]
 have e : (2 : Int) ^ k = ((2 ^ k : Nat) : Int) := by simp
 rw [e]
 generalize 2 ^ k = t at h
 exact wr64 (by omega) (by omega)
theorem or_eq {s k : Nat} (hs : s < 4611686018427387904) (hk : k ≤ 61) :
  IntKind.i64.wrap ((BitVec.ofInt 64 (s : Int) ||| BitVec.ofInt 64 (IntKind.i64.wrap (1 * 2 ^ (min (Int.toNat (k : Int)) 64)))).toNat : Nat) = ((s ||| 2 ^ k : Nat) : Int) := by
 have h := two_lt hk
 rw [shl_eq hk]
 have e : (BitVec.ofInt 64 (s : Int) ||| BitVec.ofInt 64 ((2 ^ k : Nat) : Int)).toNat = s ||| 2 ^ k := by
  rw [BitVec.toNat_or]
  congr 1
  ·rw [BitVec.toNat_ofInt]; omega
  ·rw [BitVec.toNat_ofInt]; generalize 2 ^ k = t at h; omega
 rw [e]
 have : s ||| 2 ^ k < 2 ^ 62 := Nat.or_lt_two_pow (by omega) (by generalize 2 ^ k = t at h; omega)
 generalize s ||| 2 ^ k = t at this
 exact wr64 (by omega) (by omega)
theorem andn_eq {s k : Nat} (hs : s < 4611686018427387904) (hk : k ≤ 61) {t : Nat} (ht : ∀ i, t.testBit i = (s.testBit i && !decide (k = i))) :
  IntKind.i64.wrap ((BitVec.ofInt 64 (s : Int) &&& ~~~ BitVec.ofInt 64 (IntKind.i64.wrap (1 * 2 ^ (min (Int.toNat (k : Int)) 64)))).toNat : Nat) = (t : Int) := by
 have h := two_lt hk
 rw [shl_eq hk]
 have a1 : (BitVec.ofInt 64 (s : Int)).toNat = s := by rw [BitVec.toNat_ofInt]; omega
 have a2 : (BitVec.ofInt 64 ((2 ^ k : Nat) : Int)).toNat = 2 ^ k := by rw [BitVec.toNat_ofInt]; generalize 2 ^ k = t at h; omega
 have e : (BitVec.ofInt 64 (s : Int) &&& ~~~ BitVec.ofInt 64 ((2 ^ k : Nat) : Int)).toNat = t := by
  apply Nat.eq_of_testBit_eq
  intro i
  rw [ht i, BitVec.toNat_and, Nat.testBit_and, a1]
  show (s.testBit i && (~~~ BitVec.ofInt 64 ((2 ^ k : Nat) : Int)).getLsbD i) = _
  rw [BitVec.getLsbD_not]
  show (s.testBit i && (decide (i < 64) && !(BitVec.ofInt 64 ((2 ^ k : Nat) : Int)).toNat.testBit i)) = _
  rw [a2, Nat.testBit_two_pow]
  by_cases hi : i < 64
  ·simp [hi]
  ·have : s.testBit i = false := Nat.testBit_lt_two_pow (Nat.lt_of_lt_of_le (show s < 2 ^ 64 by omega) (Nat.pow_le_pow_right (by omega) (by omega)))
   simp [this]
 rw [e]
 have : t ≤ s := by
  rw [← e, BitVec.toNat_and, a1]; exact Nat.and_le_left
 exact wr64 (by omega) (by omega)
theorem setI_put {p : PL} (h : p.length ≤ 12) {i : Nat} (hi : i < p.length) (v : List Int) :
  IntKind.i64.wrap ((BitVec.ofInt 64 (setI p) ||| BitVec.ofInt 64 (IntKind.i64.wrap (1 * 2 ^ (min (Int.toNat ((i + 1 : Nat) : Int)) 64)))).toNat : Nat) = setI (p.set i (some v)) := by
 have h1 := setI_lt h
 unfold setI at h1 ⊢
 rw [or_eq (by omega) (by omega)]
 congr 1
 apply Nat.eq_of_testBit_eq
 intro j
 rw [Nat.testBit_or, setN_bit, setN_bit, Nat.testBit_two_pow]
 show _ = (((none :: p).set (i + 1) (some v)).getD j none).isSome
 rw [getD_setL]
 by_cases hj : i + 1 = j
 ·subst hj; simp [hi]
 ·simp [hj]
theorem setI_del {p : PL} (h : p.length ≤ 12) {i : Nat} (hi : i < p.length) :
  IntKind.i64.wrap ((BitVec.ofInt 64 (setI p) &&& ~~~ BitVec.ofInt 64 (IntKind.i64.wrap (1 * 2 ^ (min (Int.toNat ((i + 1 : Nat) : Int)) 64)))).toNat : Nat) = setI (p.set i none) := by
 have h1 := setI_lt h
 unfold setI at h1 ⊢
 refine andn_eq (by omega) (by omega) fun j => ?_
 rw [setN_bit, setN_bit]
 show (((none :: p).set (i + 1) none).getD j none).isSome = _
 rw [getD_setL]
 by_cases hj : i + 1 = j
 ·subst hj; simp [hi]
 ·simp [hj]
theorem flat_take {p : PL} {i : Nat} {o : Option (List Int)} (h : p[i]? = some o) : flat (p.take (i + 1)) = flat (p.take i) ++ o.getD [] := by
 have hl := (List.getElem?_eq_some_iff.1 h).1
 have he := (List.getElem?_eq_some_iff.1 h).2
 unfold flat
 rw [List.take_succ_eq_append_getElem hl, List.flatMap_append, he]; simp
theorem flat_split {p : PL} {i : Nat} {o : Option (List Int)} (h : p[i]? = some o) : flat p = flat (p.take i) ++ (o.getD [] ++ flat (p.drop (i + 1))) := by
 have hl := (List.getElem?_eq_some_iff.1 h).1
 have he := (List.getElem?_eq_some_iff.1 h).2
 have : p = p.take i ++ o :: p.drop (i + 1) := by rw [← he]; simp
 conv => lhs; rw [this]
 unfold flat
 rw [List.flatMap_append, List.flatMap_cons]
theorem flat_set {p : PL} {i : Nat} (o : Option (List Int)) (hl : i < p.length) : flat (p.set i o) = flat (p.take i) ++ (o.getD [] ++ flat (p.drop (i + 1))) := by
 rw [flat_split (p := p.set i o) (i := i) (o := o) (by simp [hl])]
 rw [List.take_set_of_le (Nat.le_refl _), List.drop_set_of_lt (by omega)]
theorem PL.fit.at {ks : KD} {p : PL} (h : p.fit ks) : ∀ {q : Nat}, q ≤ p.length → atF ks (setI p) q = (flat (p.take q)).length
 | 0, _ => by simp [atF, flat]
 | q + 1, hq => by
  have ih := PL.fit.at h (q := q) (by omega)
  have hp : p[q]? = some p[q] := by simp [show q < p.length by omega]
  have hk : ks[q]? = some (ks[q]'(by have := h.1; omega)) := by simp [show q < ks.length by have := h.1; omega]
  rw [flat_take hp, List.length_append, atF, ih, hk]
  congr 1
  by_cases hb : bit (setI p) (q + 1) = 1
  ·rw [if_pos hb]
   have := bit_is.1 hb
   rw [List.getD_eq_getElem?_getD, hp] at this
   cases ho : p[q] with
   | none => rw [ho] at this; cases this
   | some v =>
    have := h.2 q v _ (by rw [hp, ho]) hk
    simp [this]
  ·rw [if_neg hb]
   cases ho : p[q] with
   | none => rfl
   | some v => exact absurd (bit_is.2 (by rw [List.getD_eq_getElem?_getD, hp, ho]; rfl)) hb
theorem PL.fit.all {ks : KD} {p : PL} (h : p.fit ks) : (flat p).length = atF ks (setI p) ks.length := by
 rw [h.at (q := ks.length) (by rw [h.1]; exact Nat.le_refl _), ← h.1, List.take_length]
theorem PL.fit.ins {ks : KD} {p : PL} (h : p.fit ks) {i : Nat} (hi : i < p.length) (hn : p.getD i none = none) (v : List Int) :
  flat (p.set i (some v)) = (flat p).take (atF ks (setI p) i) ++ v ++ (flat p).drop (atF ks (setI p) i) := by
 have hp : p[i]? = some none := by
  have : p[i]? = some p[i] := by simp [hi]
  rw [this]; rw [List.getD_eq_getElem?_getD, this] at hn; simpa using hn
 rw [flat_set _ hi, flat_split hp, h.at (by omega)]
 simp
theorem PL.fit.cut {ks : KD} {p : PL} (h : p.fit ks) {i : Nat} {v : List Int} (hp : p[i]? = some (some v)) :
  flat (p.set i none) = (flat p).take (atF ks (setI p) i) ++ (flat p).drop (atF ks (setI p) i + v.length) := by
 have hi := (List.getElem?_eq_some_iff.1 hp).1
 rw [flat_set _ hi, flat_split hp, h.at (by omega)]
 simp [List.drop_append]
theorem PL.fit.get {ks : KD} {p : PL} (h : p.fit ks) {i : Nat} {v : List Int} (hp : p[i]? = some (some v)) :
  ((flat p).take (atF ks (setI p) i + v.length)).drop (atF ks (setI p) i) = v := by
 have hi := (List.getElem?_eq_some_iff.1 hp).1
 rw [flat_split hp, h.at (by omega)]
 simp [List.take_append]
theorem PL.fit.set {ks : KD} {p : PL} (h : p.fit ks) {i : Nat} {v : List Int} {k : ByteArray × List ByteArray} (hk : ks[i]? = some k) (hl : v.length = k.2.length) : (PL.fit ks (p.set i (some v))) := by
 refine ⟨by rw [List.length_set]; exact h.1, fun j x k' hx hk' => ?_⟩
 rw [List.getElem?_set] at hx
 by_cases hj : i = j
 ·subst hj
  by_cases hlt : i < p.length
  ·rw [if_pos rfl, if_pos hlt] at hx
   obtain rfl := Option.some.inj (Option.some.inj hx)
   rw [hk] at hk'; obtain rfl := Option.some.inj hk'; exact hl
  ·rw [if_pos rfl, if_neg hlt] at hx; cases hx
 ·rw [if_neg hj] at hx; exact h.2 j x k' hx hk'
theorem PL.fit.off {ks : KD} {p : PL} (h : p.fit ks) (i : Nat) : (PL.fit ks (p.set i none)) := by
 refine ⟨by rw [List.length_set]; exact h.1, fun j x k' hx hk' => ?_⟩
 rw [List.getElem?_set] at hx
 by_cases hj : i = j
 ·subst hj
  by_cases hlt : i < p.length
  ·rw [if_pos rfl, if_pos hlt] at hx; cases hx
  ·rw [if_pos rfl, if_neg hlt] at hx; cases hx
 ·rw [if_neg hj] at hx; exact h.2 j x k' hx hk'
theorem fit_new (ks : KD) : PL.fit ks (List.replicate ks.length none) := by
 refine ⟨by simp, fun i v k hx _ => ?_⟩
 rw [List.getElem?_replicate] at hx
 split at hx <;> cases hx
theorem setN_new : ∀ n, setN (List.replicate n none) = 0
 | 0 => rfl
 | n + 1 => by rw [List.replicate_succ, setN, setN_new n]; rfl
theorem setI_new (n : Nat) : setI (List.replicate n none) = 0 := by
 unfold setI
 show ((setN (List.replicate (n + 1) none) : Nat) : Int) = 0
 rw [setN_new]; rfl
theorem flat_new (n : Nat) : flat (List.replicate n none) = [] := by
 unfold flat
 induction n with
 | zero => rfl
 | succ n ih => rw [List.replicate_succ, List.flatMap_cons, ih]; rfl
structure Tabs (ks : KD) (row : Ent → Option PL) (sets : Ent → Option Int) (tabs : List (Int × TabM)) : Prop where
 sets : sets = fun e => (row e).map setI
 nd : (tabs.map (·.1)).Nodup
 tok : ∀ x ∈ tabs, x.2.Ok ∧ x.2.n = atF ks x.1 ks.length ∧ x.2.rows ≠ [] ∧ ∀ r ∈ x.2.rows, ∃ p, row r.1 = some p ∧ setI p = x.1 ∧ flat p = r.2
 has : ∀ e p, row e = some p → ∃ t, (setI p, t) ∈ tabs ∧ (e, flat p) ∈ t.rows
 fit : ∀ e p, row e = some p → p.fit ks
theorem Tabs.new (ks : KD) : Tabs ks (fun _ => none) (fun _ => none) [] :=
 ⟨rfl, by simp, by simp, by simp, by simp⟩
theorem nodup_lt : ∀ (n : Nat) (L : List Nat), L.Nodup → (∀ x ∈ L, x < n) → L.length ≤ n
 | 0, L, _, h => by
  cases L with
  | nil => simp
  | cons x L => exact absurd (h x (by simp)) (by omega)
 | n + 1, L, hnd, h => by
  have h1 := nodup_lt n (L.erase n) (hnd.erase n) (fun x hx => by
   have hm := (hnd.mem_erase_iff).1 hx
   have := h x hm.2
   have := hm.1
   omega)
  have h2 := List.length_erase (a := n) (l := L)
  split at h2 <;> omega
theorem Tabs.enter {ks : KD} {row : Ent → Option PL} {sets : Ent → Option Int} {tabs T1 : List (Int × TabM)} (h : Tabs ks row sets tabs) {e : Ent} {p : PL} (hne : row e = none) (hp : p.fit ks)
  (hb : ∀ L : List Ent, L.Nodup → (∀ x ∈ L, (row x).isSome = true) → L.length < 200) (hmk : ∀ x ∈ ks, x.2.length ≤ 4) (hml : ks.length ≤ 12)
  (hT : T1 = tabs ∨ (T1 = tabs ++ [(setI p, ⟨atF ks (setI p) ks.length, []⟩)] ∧ ∀ x ∈ tabs, x.1 ≠ setI p)) {k : Nat} {t : TabM} (hk : T1[k]? = some (setI p, t)) :
  (t.addM e (flat p)).1 = t.add e (flat p) ∧ Tabs ks (upd1 row e (some p)) (upd1 sets e (some (setI p))) (T1.set k (setI p, t.add e (flat p))) := by
 -- the old tables, with perhaps one that is empty
 have hnd1 : (T1.map (·.1)).Nodup := by
  rcases hT with rfl | ⟨rfl, hno⟩
  ·exact h.nd
  ·rw [List.map_append, List.nodup_append]
   refine ⟨h.nd, by simp, fun a ha b hb => ?_⟩
   simp only [List.map_cons, List.map_nil, List.mem_singleton] at hb
   subst hb
   obtain ⟨x, hx, rfl⟩ := List.mem_map.1 ha
   exact hno x hx
 have htok1 : ∀ x ∈ T1, x.2.Ok ∧ x.2.n = atF ks x.1 ks.length ∧ ∀ r ∈ x.2.rows, ∃ p, row r.1 = some p ∧ setI p = x.1 ∧ flat p = r.2 := by
  intro x hx
  rcases hT with rfl | ⟨rfl, hno⟩
  ·exact ⟨(h.tok x hx).1, (h.tok x hx).2.1, (h.tok x hx).2.2.2⟩
  ·rcases List.mem_append.1 hx with hx | hx
   ·exact ⟨(h.tok x hx).1, (h.tok x hx).2.1, (h.tok x hx).2.2.2⟩
   ·simp only [List.mem_singleton] at hx
    subst hx
    have := atF_le hmk (setI p) ks.length
    exact ⟨⟨by show atF ks (setI p) ks.length ≤ 48; omega, by simp, by simp [TabM.owners], by simp⟩, rfl, by simp⟩
 have hne1 : ∀ x ∈ T1, x.1 ≠ setI p → x.2.rows ≠ [] := by
  intro x hx hxp
  rcases hT with rfl | ⟨rfl, hno⟩
  ·exact (h.tok x hx).2.2.1
  ·rcases List.mem_append.1 hx with hx | hx
   ·exact (h.tok x hx).2.2.1
   ·simp only [List.mem_singleton] at hx
    subst hx; exact absurd rfl hxp
 have hhas1 : ∀ e p, row e = some p → ∃ t, (setI p, t) ∈ T1 ∧ (e, flat p) ∈ t.rows := by
  intro e p hr
  obtain ⟨t, h1, h2⟩ := h.has e p hr
  rcases hT with rfl | ⟨rfl, hno⟩
  ·exact ⟨t, h1, h2⟩
  ·exact ⟨t, List.mem_append_left _ h1, h2⟩
 have hkl := (List.getElem?_eq_some_iff.1 hk).1
 have hmem := List.mem_of_getElem? hk
 obtain ⟨tk, tn, tr⟩ := htok1 _ hmem
 have hout : e ∉ t.owners := fun hm => by
  obtain ⟨r, hr, rfl⟩ := List.mem_map.1 hm
  obtain ⟨p', hp', _⟩ := tr r hr
  rw [hne] at hp'; cases hp'
 have h200 : t.rows.length < 200 := by
  have := hb t.owners tk.nd (fun x hx => by
   obtain ⟨r, hr, rfl⟩ := List.mem_map.1 hx
   obtain ⟨p', hp', _⟩ := tr r hr
   rw [hp']; rfl)
  rwa [TabM.owners_len] at this
 have hfl : (flat p).length = t.n := by rw [tn]; exact hp.all
 refine ⟨?_, ?_⟩
 ·unfold TabM.addM
  rw [if_neg (by simp [hfl]), if_neg hout, if_neg (by omega)]
 have hke : ∀ x ∈ T1.set k (setI p, t.add e (flat p)), x = (setI p, t.add e (flat p)) ∨ (x ∈ T1 ∧ x.1 ≠ setI p) := by
  intro x hx
  obtain ⟨j, hj⟩ := List.getElem?_of_mem hx
  rw [List.getElem?_set] at hj
  by_cases hkj : k = j
  ·subst hkj; simp only [if_true, if_pos hkl, Option.some.injEq] at hj; exact .inl hj.symm
  ·rw [if_neg hkj] at hj
   refine .inr ⟨List.mem_of_getElem? hj, fun he => hkj ?_⟩
   have hjl := (List.getElem?_eq_some_iff.1 hj).1
   exact (List.getElem?_inj (i := k) (j := j) (l := T1.map (·.1)) (by simpa using hkl) hnd1).1 (by rw [List.getElem?_map, List.getElem?_map, hk, hj]; simp [he])
 refine ⟨?_, ?_, ?_, ?_, ?_⟩
 ·funext x
  unfold upd1
  split
  ·rfl
  ·exact congrFun h.sets x
 ·have : (T1.set k (setI p, t.add e (flat p))).map (·.1) = T1.map (·.1) := by
   rw [List.map_set]
   apply List.ext_getElem?
   intro j
   rw [List.getElem?_set]
   split
   ·rename_i hj
    subst hj
    rw [List.getElem?_map, hk, if_pos (by simpa using hkl)]; rfl
   ·rfl
  rw [this]; exact hnd1
 ·intro x hx
  rcases hke x hx with rfl | ⟨hx, hxp⟩
  ·refine ⟨tk.add hfl h200 hout, tn, by simp [TabM.add], fun r hr => ?_⟩
   rcases List.mem_append.1 hr with hr | hr
   ·obtain ⟨p', h1, h2, h3⟩ := tr r hr
    refine ⟨p', ?_, h2, h3⟩
    unfold upd1
    rw [if_neg (fun he => by rw [he, hne] at h1; cases h1)]; exact h1
   ·simp only [List.mem_singleton] at hr
    subst hr
    exact ⟨p, by unfold upd1; rw [if_pos rfl], rfl, rfl⟩
  ·obtain ⟨a1, a2, a3⟩ := htok1 x hx
   refine ⟨a1, a2, hne1 x hx hxp, fun r hr => ?_⟩
   obtain ⟨p', h1, h2, h3⟩ := a3 r hr
   refine ⟨p', ?_, h2, h3⟩
   unfold upd1
   rw [if_neg (fun he => by rw [he, hne] at h1; cases h1)]; exact h1
 ·intro e' p' he'
  unfold upd1 at he'
  by_cases hee : e' = e
  ·rw [if_pos hee] at he'
   obtain rfl := Option.some.inj he'
   subst hee
   exact ⟨t.add e' (flat p), List.mem_of_getElem? (i := k) (by simp [hkl]), by simp [TabM.add]⟩
  ·rw [if_neg hee] at he'
   obtain ⟨t', h1, h2⟩ := hhas1 e' p' he'
   obtain ⟨j, hj⟩ := List.getElem?_of_mem h1
   by_cases hkj : k = j
   ·subst hkj
    rw [hk] at hj
    obtain ⟨hs, rfl⟩ := Prod.mk.inj (Option.some.inj hj)
    exact ⟨t.add e (flat p), List.mem_of_getElem? (i := k) (by rw [List.getElem?_set_self hkl, ← hs]), List.mem_append_left _ h2⟩
   ·exact ⟨t', List.mem_of_getElem? (i := j) (by rw [List.getElem?_set_ne hkj]; exact hj), h2⟩
 ·intro e' p' he'
  unfold upd1 at he'
  by_cases hee : e' = e
  ·rw [if_pos hee] at he'
   obtain rfl := Option.some.inj he'
   exact hp
  ·rw [if_neg hee] at he'
   exact h.fit e' p' he'
theorem Tabs.find {ks : KD} {row : Ent → Option PL} {sets : Ent → Option Int} {tabs : List (Int × TabM)} (h : Tabs ks row sets tabs) {e : Ent} {p : PL} (hr : row e = some p) :
  ∃ (k r : Nat) (t : TabM), tabs[k]? = some (setI p, t) ∧ t.Ok ∧ atI t e = some (r : Int) ∧ t.rows[r]? = some (e, flat p) := by
 obtain ⟨t, h1, h2⟩ := h.has e p hr
 obtain ⟨k, hk⟩ := List.getElem?_of_mem h1
 obtain ⟨r, hrr⟩ := List.getElem?_of_mem h2
 have tk := (h.tok _ h1).1
 exact ⟨k, r, t, hk, tk, (TabM.atI_iff tk.nd).2 (by unfold TabM.owners; rw [List.getElem?_map, hrr]; rfl), hrr⟩
theorem del_mem {t : TabM} (tk : t.Ok) {r : Nat} {x : Ent × List Int} (hr : t.rows[r]? = some x) (y : Ent × List Int) : y ∈ (t.del r).rows ↔ y ∈ t.rows ∧ y.1 ≠ x.1 := by
 have hl := (List.getElem?_eq_some_iff.1 hr).1
 have h0 : 0 < t.rows.length := by omega
 have inj : ∀ {i j : Nat} {a b : Ent × List Int}, t.rows[i]? = some a → t.rows[j]? = some b → a.1 = b.1 → i = j := fun {i j a b} hi hj he =>
  (List.getElem?_inj (i := i) (j := j) (l := t.owners) (by unfold TabM.owners; simpa using (List.getElem?_eq_some_iff.1 hi).1) tk.nd).1 (by unfold TabM.owners; rw [List.getElem?_map, List.getElem?_map, hi, hj]; simp [he])
 constructor
 ·intro hy
  obtain ⟨j, hj⟩ := List.getElem?_of_mem hy
  rw [TabM.del_rows t r j h0] at hj
  split at hj
  ·rename_i hjl
   split at hj
   ·refine ⟨List.mem_of_getElem? hj, fun he => ?_⟩
    have := inj hj hr he
    omega
   ·rename_i hjr
    exact ⟨List.mem_of_getElem? hj, fun he => hjr (inj hj hr he)⟩
  ·cases hj
 ·rintro ⟨hy, hne⟩
  obtain ⟨j, hj⟩ := List.getElem?_of_mem hy
  have hjl := (List.getElem?_eq_some_iff.1 hj).1
  have hjr : j ≠ r := fun e => by subst e; rw [hj] at hr; exact hne (by rw [Option.some.inj hr])
  by_cases hlast : j = t.rows.length - 1
  ·refine List.mem_of_getElem? (i := r) ?_
   rw [TabM.del_rows t r r h0, if_pos (by omega), if_pos rfl, ← hlast]; exact hj
  ·refine List.mem_of_getElem? (i := j) ?_
   rw [TabM.del_rows t r j h0, if_pos (by omega), if_neg hjr]; exact hj
theorem Tabs.leave {ks : KD} {row : Ent → Option PL} {sets : Ent → Option Int} {tabs T' : List (Int × TabM)} (h : Tabs ks row sets tabs) {e : Ent} {p : PL} (hr : row e = some p)
  {k r : Nat} {t : TabM} (hk : tabs[k]? = some (setI p, t)) (hrr : t.rows[r]? = some (e, flat p)) (hT : ((t.del r).rows.length ≠ 0 ∧ T' = tabs.set k (setI p, t.del r)) ∨ ((t.del r).rows.length = 0 ∧ T' = tabs.eraseIdx k)) :
  Tabs ks (upd1 row e none) (upd1 sets e none) T' := by
 have hkl := (List.getElem?_eq_some_iff.1 hk).1
 have hmem := List.mem_of_getElem? hk
 obtain ⟨tk, tn, tne, tr⟩ := h.tok _ hmem
 have hrl := (List.getElem?_eq_some_iff.1 hrr).1
 have dm := del_mem tk hrr
 have keyInj : ∀ {i j : Nat} {a b : Int × TabM}, tabs[i]? = some a → tabs[j]? = some b → a.1 = b.1 → i = j := fun {i j a b} hi hj he =>
  (List.getElem?_inj (i := i) (j := j) (l := tabs.map (·.1)) (by simpa using (List.getElem?_eq_some_iff.1 hi).1) h.nd).1 (by rw [List.getElem?_map, List.getElem?_map, hi, hj]; simp [he])
 -- what is in the new list
 have hin : ∀ x, x ∈ T' ↔ (x ∈ tabs ∧ x.1 ≠ setI p) ∨ ((t.del r).rows.length ≠ 0 ∧ x = (setI p, t.del r)) := by
  intro x
  rcases hT with ⟨hz, rfl⟩ | ⟨hz, rfl⟩
  ·constructor
   ·intro hx
    obtain ⟨j, hj⟩ := List.getElem?_of_mem hx
    rw [List.getElem?_set] at hj
    by_cases hkj : k = j
    ·subst hkj; simp only [if_true, if_pos hkl, Option.some.injEq] at hj; exact .inr ⟨hz, hj.symm⟩
    ·rw [if_neg hkj] at hj
     exact .inl ⟨List.mem_of_getElem? hj, fun he => hkj (keyInj hk hj he.symm)⟩
   ·rintro (⟨hx, hxp⟩ | ⟨_, rfl⟩)
    ·obtain ⟨j, hj⟩ := List.getElem?_of_mem hx
     have hkj : k ≠ j := fun e => by subst e; rw [hk] at hj; exact hxp (by rw [← Option.some.inj hj])
     exact List.mem_of_getElem? (i := j) (by rw [List.getElem?_set_ne hkj]; exact hj)
    ·exact List.mem_of_getElem? (i := k) (by simp [hkl])
  ·constructor
   ·intro hx
    obtain ⟨j, hj⟩ := List.getElem?_of_mem hx
    rw [List.getElem?_eraseIdx] at hj
    split at hj
    ·exact .inl ⟨List.mem_of_getElem? hj, fun he => by have := keyInj hk hj he.symm; omega⟩
    ·exact .inl ⟨List.mem_of_getElem? hj, fun he => by have := keyInj hk hj he.symm; omega⟩
   ·rintro (⟨hx, hxp⟩ | ⟨hz', _⟩)
    ·obtain ⟨j, hj⟩ := List.getElem?_of_mem hx
     have hkj : k ≠ j := fun e => by subst e; rw [hk] at hj; exact hxp (by rw [← Option.some.inj hj])
     by_cases hlt : j < k
     ·exact List.mem_of_getElem? (i := j) (by rw [List.getElem?_eraseIdx, if_pos hlt]; exact hj)
     ·exact List.mem_of_getElem? (i := j - 1) (by rw [List.getElem?_eraseIdx, if_neg (by omega), show j - 1 + 1 = j by omega]; exact hj)
    ·exact absurd hz hz'
 refine ⟨?_, ?_, ?_, ?_, ?_⟩
 ·funext x
  unfold upd1
  split
  ·rfl
  ·exact congrFun h.sets x
 ·rcases hT with ⟨hz, rfl⟩ | ⟨hz, rfl⟩
  ·have : (tabs.set k (setI p, t.del r)).map (·.1) = tabs.map (·.1) := by
    rw [List.map_set]
    apply List.ext_getElem?
    intro j
    rw [List.getElem?_set]
    split
    ·rename_i hj
     subst hj
     rw [List.getElem?_map, hk, if_pos (by simpa using hkl)]; rfl
    ·rfl
   rw [this]; exact h.nd
  ·rw [map_eraseIdx']
   exact h.nd.sublist (List.eraseIdx_sublist _ _)
 ·intro x hx
  rcases (hin x).1 hx with ⟨hx, hxp⟩ | ⟨hz, rfl⟩
  ·obtain ⟨a1, a2, a3, a4⟩ := h.tok x hx
   refine ⟨a1, a2, a3, fun y hy => ?_⟩
   obtain ⟨p', h1, h2, h3⟩ := a4 y hy
   refine ⟨p', ?_, h2, h3⟩
   unfold upd1
   rw [if_neg (fun he => by rw [he, hr] at h1; obtain rfl := Option.some.inj h1; exact hxp h2.symm)]; exact h1
  ·refine ⟨tk.del hrl, tn, fun e => hz (by rw [e]; rfl), fun y hy => ?_⟩
   obtain ⟨hy, hne⟩ := (dm y).1 hy
   obtain ⟨p', h1, h2, h3⟩ := tr y hy
   refine ⟨p', ?_, h2, h3⟩
   unfold upd1
   rw [if_neg hne]; exact h1
 ·intro e' p' he'
  unfold upd1 at he'
  by_cases hee : e' = e
  ·rw [if_pos hee] at he'; cases he'
  ·rw [if_neg hee] at he'
   obtain ⟨t', h1, h2⟩ := h.has e' p' he'
   by_cases hs : setI p' = setI p
   ·obtain ⟨j, hj⟩ := List.getElem?_of_mem h1
    have hkj := keyInj hk hj hs.symm
    subst hkj
    rw [hk] at hj
    obtain ⟨_, rfl⟩ := Prod.mk.inj (Option.some.inj hj)
    have hm := (dm (e', flat p')).2 ⟨h2, hee⟩
    refine ⟨t.del r, (hin _).2 (.inr ⟨fun hz => ?_, by rw [hs]⟩), hm⟩
    rw [List.length_eq_zero_iff.1 hz] at hm; simp at hm
   ·exact ⟨t', (hin _).2 (.inl ⟨h1, hs⟩), h2⟩
 ·intro e' p' he'
  unfold upd1 at he'
  by_cases hee : e' = e
  ·rw [if_pos hee] at he'; cases he'
  ·rw [if_neg hee] at he'
   exact h.fit e' p' he'
end Go.Proofs.Ythmbjlpgbkkjjaa.FW
end

section
namespace Go.Proofs.Ythmbjlpgbkkjjaa.FI
open F
open Go Go.Den Go.Proofs
def capG (g : Int) : Int := if 1000000 < g then 1000000 else g
structure FrI (most : Int) (gens : List Int) (m : PoolM) : Prop where
 most_ : m.most = most
 gens_ : m.gens = gens.map capG
 len : m.alive.length = gens.length
 nodup : m.free.Nodup
 free : ∀ i ∈ m.free, 0 ≤ i ∧ i < gens.length ∧ m.alive.getD i.toNat false = false ∧ gens.getD i.toNat 0 < 1000000
 dead : ∀ i : Int, 0 ≤ i → i < gens.length → m.alive.getD i.toNat false = false → gens.getD i.toNat 0 < 1000000 → i ∈ m.free
 cnt : m.free.length + m.alive.count true ≤ gens.length
theorem ok2_new {n : Int} (h1 : 1 ≤ n) (h2 : n ≤ 200) : PoolM.Ok2 ⟨n, [], [], []⟩ :=
 ⟨PoolM.Ok.new h1 h2, by intro i h0 h1; simp at h1; omega⟩
theorem takeM_ok {m : PoolM} (h : m.Ok2) : m.takeM.1.Ok2 ∧ m.takeM.1.most = m.most := by
 unfold PoolM.takeM
 cases hf : m.free with
 | cons i rest =>
  refine ⟨⟨h.toOk.takeFree hf, ?_⟩, rfl⟩
  have hi := h.free i (by simp [hf])
  intro j h0 h1 h2 h3
  have h1 : j < (m.gens.set i.toNat (m.gen i + 1)).length := h1
  rw [List.length_set] at h1
  rw [PoolM.lives_takeFree m hi.1 (by rw [h.len]; omega)] at h2
  split at h2
  ·cases h2
  ·rename_i hne
   rw [PoolM.gen_takeFree m hi.1 (by omega) h0, if_neg hne] at h3
   have := h.dead j h0 h1 h2 h3
   rw [hf] at this
   rcases List.mem_cons.1 this with e | e
   ·exact absurd e hne
   ·exact e
 | nil =>
  simp only []
  split
  ·rename_i hl
   refine ⟨⟨h.toOk.takeNew hf hl, ?_⟩, rfl⟩
   intro j h0 h1 h2 h3
   have h1 : j < (m.gens ++ [1]).length := h1
   rw [List.length_append, List.length_singleton] at h1
   rw [PoolM.lives_takeNew m h.len] at h2
   split at h2
   ·cases h2
   ·rename_i hne
    rw [PoolM.gen_takeNew m h0, if_neg hne] at h3
    exact h.dead j h0 (by omega) h2 h3
  ·exact ⟨h, rfl⟩
theorem giveM_ok {m : PoolM} (h : m.Ok2) (i g : Int) : (m.giveM i g).1.Ok2 ∧ (m.giveM i g).1.most = m.most := by
 unfold PoolM.giveM
 split
 ·rename_i hi
  refine ⟨⟨h.toOk.give hi, ?_⟩, rfl⟩
  obtain ⟨hlv, hg⟩ := PoolM.is_iff.1 hi
  obtain ⟨i0, hla, _⟩ := lives_lt hlv
  intro j h0 h1 h2 h3
  show j ∈ if g < 1000000 then m.free ++ [i] else m.free
  rw [PoolM.gen_give] at h3
  rw [PoolM.lives_give m i0 hla] at h2
  by_cases hj : j = i
  ·subst hj
   rw [if_pos (by omega)]
   simp
  ·rw [if_neg hj] at h2
   have := h.dead j h0 h1 h2 h3
   split
   ·simp [this]
   ·exact this
 ·exact ⟨h, rfl⟩
end Go.Proofs.Ythmbjlpgbkkjjaa.FI
end

section
namespace Go.Proofs.Ythmbjlpgbkkjjaa.FP
open F
open Go Go.Den Go.Proofs
theorem w8 (n : Int) : IntKind.u8.wrap n = n % 256 := by simp only [IntKind.wrap, IntKind.bits, IntKind.signed, Bool.false_and]; simp
theorem w64 (n : Int) : IntKind.u64.wrap n = n % 18446744073709551616 := by simp only [IntKind.wrap, IntKind.bits, IntKind.signed, Bool.false_and]; simp
theorem wi64 (n : Int) : IntKind.i64.wrap n = if n % 18446744073709551616 ≥ 9223372036854775808 then n % 18446744073709551616 - 18446744073709551616 else n % 18446744073709551616 := by
 simp only [IntKind.wrap, IntKind.bits, IntKind.signed, Bool.true_and, decide_eq_true_eq, ge_iff_le]; split <;> split <;> omega
theorem or128 : ∀ x : BitVec 8, (x ||| 128#8).toNat = x.toNat % 128 + 128 := by decide +kernel
theorem ofInt_toNat (k : Nat) (n : Int) : (BitVec.ofInt k n).toNat = (n % 2 ^ k).toNat := by
 rw [BitVec.toNat_ofInt]; norm_cast
theorem top8 {n : Int} : IntKind.u8.wrap ((BitVec.ofInt 8 (IntKind.u8.wrap n) ||| BitVec.ofInt 8 128).toNat : Nat) = n % 128 + 128 := by
 have e : BitVec.ofInt 8 128 = 128#8 := by decide
 rw [e, or128, ofInt_toNat, w8, w8]
 omega
theorem shr7 (n : Int) : Int.fdiv n (2 ^ (min (Int.toNat 7) 64)) = n / 128 := by
 show Int.fdiv n 128 = _
 rw [Int.fdiv_eq_ediv_of_nonneg _ (by omega)]
def putF : Nat → Int → List Int
 | 0, _ => []
 | f + 1, n => if n < 128 then [n] else (n % 128 + 128) :: putF f (n / 128)
def putU (n : Int) : List Int := putF 10 n
theorem putF_more : ∀ (f : Nat) (n : Int), 0 ≤ n → n < 128 ^ (f + 1) → ∀ g, f ≤ g → putF (g + 1) n = putF (f + 1) n
 | 0, n, h0, h1, g, hg => by
  have h1 : n < 128 := by simpa using h1
  rw [putF, putF, if_pos h1, if_pos h1]
 | f + 1, n, h0, h1, 0, hg => by omega
 | f + 1, n, h0, h1, g + 1, hg => by
  have u1 : putF (g + 1 + 1) n = if n < 128 then [n] else (n % 128 + 128) :: putF (g + 1) (n / 128) := by rw [putF]
  have u2 : putF (f + 1 + 1) n = if n < 128 then [n] else (n % 128 + 128) :: putF (f + 1) (n / 128) := by rw [putF]
  rw [u1, u2]
  by_cases h : n < 128
  ·rw [if_pos h, if_pos h]
  ·rw [if_neg h, if_neg h]
   rw [Int.pow_succ] at h1
   have h3 : n / 128 < 128 ^ (f + 1) := by
    generalize (128 : Int) ^ (f + 1) = p at h1 ⊢
    omega
   rw [putF_more f (n / 128) (by omega) h3 g (by omega)]
theorem putU_lt {n : Int} (h : n < 128) : putU n = [n] := by unfold putU; rw [putF, if_pos h]
theorem putU_ge {n : Int} (h : 128 ≤ n) (h2 : n < 18446744073709551616) : putU n = (n % 128 + 128) :: putU (n / 128) := by
 unfold putU
 rw [putF, if_neg (by omega), putF_more 8 (n / 128) (by omega) (by omega) 9 (by omega)]
theorem putF_len : ∀ (f : Nat) (n : Int), (putF f n).length ≤ f
 | 0, n => by simp [putF]
 | f + 1, n => by
  rw [putF]; split
  ·simp
  ·have := putF_len f (n / 128); simp; omega
theorem putU_len (n : Int) : (putU n).length ≤ 10 := putF_len 10 n
theorem putF_pos (f : Nat) (n : Int) : 1 ≤ (putF (f + 1) n).length := by
 rw [putF]; split <;> simp
theorem putU_pos (n : Int) : 1 ≤ (putU n).length := putF_pos 9 n
theorem putF_byte : ∀ (f : Nat) (n : Int), 0 ≤ n → ∀ x ∈ putF f n, 0 ≤ x ∧ x < 256
 | 0, n, h, x, hx => by simp [putF] at hx
 | f + 1, n, h, x, hx => by
  rw [putF] at hx
  split at hx
  ·simp only [List.mem_singleton] at hx; omega
  ·rcases List.mem_cons.1 hx with rfl | hx
   ·omega
   ·exact putF_byte f (n / 128) (by omega) x hx
def zig (n : Int) : Int := if n < 0 then -2 * n - 1 else 2 * n
theorem zig_range {n : Int} (h1 : -9223372036854775808 ≤ n) (h2 : n ≤ 9223372036854775807) : 0 ≤ zig n ∧ zig n < 18446744073709551616 := by unfold zig; split <;> omega
theorem xor_ones {k : Nat} (x : BitVec k) : (x ^^^ BitVec.allOnes k).toNat = 2 ^ k - 1 - x.toNat := by
 rw [BitVec.xor_allOnes, BitVec.toNat_not]
theorem signed_eq {n : Int} (h1 : -9223372036854775808 ≤ n) (h2 : n ≤ 9223372036854775807) :
  IntKind.u64.wrap ((BitVec.ofInt 64 (IntKind.u64.wrap (IntKind.i64.wrap (n * 2 ^ (min (Int.toNat 1) 64)))) ^^^ BitVec.ofInt 64 (IntKind.u64.wrap (Int.fdiv n (2 ^ (min (Int.toNat 63) 64))))).toNat : Nat) = zig n := by
 have e1 : n * 2 ^ (min (Int.toNat 1) 64) = n * 2 := rfl
 have e2 : Int.fdiv n (2 ^ (min (Int.toNat 63) 64)) = n / 9223372036854775808 := by
  show Int.fdiv n 9223372036854775808 = _
  rw [Int.fdiv_eq_ediv_of_nonneg _ (by omega)]
 rw [e1, e2]
 unfold zig
 by_cases h : n < 0
 ·have e3 : n / 9223372036854775808 = -1 := by omega
  have e4 : BitVec.ofInt 64 (IntKind.u64.wrap (-1)) = BitVec.allOnes 64 := by decide
  rw [e3, e4, xor_ones, ofInt_toNat, if_pos h, w64, w64, wi64]
  split <;> omega
 ·have e3 : n / 9223372036854775808 = 0 := by omega
  have e4 : BitVec.ofInt 64 (IntKind.u64.wrap 0) = 0#64 := by decide
  rw [e3, e4, BitVec.xor_zero, ofInt_toNat, if_neg h, w64, w64, wi64]
  split <;> omega
abbrev iv (x : Int) : List Value := [.int .i64 x]
theorem iv_len (x : Int) : (iv x).length = 1 := rfl
theorem inf5 : ∃ inf : TypeInfo, Try.prog.info? 5 = some inf ∧ inf.zero = some (.int .u8 0) ∧ inf.size = 1 ∧ inf.bytes = 1 := infoP (by kernel_rfl)
theorem und22 : Try.prog.underlying 58 = some (.slice 5) := by kernel_rfl
abbrev tB (s : Sl) (l : List Int) : Thing := tSl s 5 1 u8v l
section
variable {S : List Nat} {w0 w : World} {its : List Thing}
theorem set_last {α : Type} (l : List α) (t u : α) : (l ++ [t]).set l.length u = l ++ [u] := by
 rw [List.set_append_right _ _ (Nat.le_refl _), Nat.sub_self, List.set_cons_zero]
theorem add_spec (h : Hp S w0 w its) (i : Nat) {b : Sl} {l : List Int} {n : Int} (hi : its[i]? = some (tB b l)) (h0 : 0 ≤ n) (h1 : n < 18446744073709551616) (hl : l.length + 10 ≤ 140737488355328) {K : Sl → World → Prop}
  (hK : ∀ s w', Hp S w0 w' (its.set i (tB s (l ++ putU n))) → K s w') : c61 b n w K := by
 refine c61_of ?_
 unfold f61
 have hil := (List.getElem?_eq_some_iff.1 hi).1
 obtain ⟨inf, q1, q2, q3, q4⟩ := inf5
 refine ⟨fun b2 n2 m w' => ∃ pre : List Int, 0 ≤ n2 ∧ n2 < 18446744073709551616 ∧ l ++ putU n = l ++ pre ++ putU n2 ∧ pre.length + (putU n2).length ≤ 10 ∧ m = n2.toNat ∧ Hp S w0 w' (its.set i (tB b2 (l ++ pre))),
  ⟨n.toNat, [], h0, h1, by simp, by have := putU_len n; simpa using this, rfl, by rw [List.append_nil, Hp.set_same hi]; exact h⟩, ?_⟩
 rintro b2 n2 m w2 ⟨pre, g0, g1, g2, g3, rfl, h⟩
 have hit : (its.set i (tB b2 (l ++ pre)))[i]? = some (tB b2 (l ++ pre)) := by simp [hil]
 have hbl := h.len (s := b2) i (by rw [hit]; rfl)
 simp only [List.length_append] at hbl
 have hp := putU_pos n2
 by_cases hge : n2 ≥ 128
 ·refine ifT (by simpa using hge) ?_
  rw [top8]
  refine h.nwapp (c := [_]) i (n2 % 128 + 128) hit u8v_len und22 q1 q3 q2 rfl rfl (by simp [Value.oneCell']) (by rw [q4]; omega) (by omega) fun s2 w1 h hs2 _ => ?_
  rw [List.set_set] at h
  refine ⟨by omega, (n2 / 128).toNat, by omega, pre ++ [n2 % 128 + 128], ?_, ?_, ?_, ?_, ?_, ?_⟩
  ·rw [shr7]; omega
  ·rw [shr7]; omega
  ·rw [g2, shr7, putU_ge hge g1]; simp
  ·rw [shr7, putU_ge hge g1] at *; simp at g3 ⊢; omega
  ·rw [shr7]
  ·rw [← List.append_assoc]; exact h
 ·refine ifF (by simpa using hge) ?_
  have e : IntKind.u8.wrap n2 = n2 := by rw [w8]; omega
  rw [e]
  refine h.nwapp (c := [_]) i n2 hit u8v_len und22 q1 q3 q2 rfl rfl (by simp [Value.oneCell']) (by rw [q4]; omega) (by omega) fun s2 w1 h hs2 _ => ?_
  rw [List.set_set] at h
  refine hK s2 w1 ?_
  rw [g2, putU_lt (by omega)]
  exact h
theorem fresh_spec (h : Hp S w0 w its) (j : Nat) {u : Thing} {b : Sl} {l : List Int} (hj : its[j]? = some u) (hu : Hp.Reads u b 1 u8v l) (hl : l.length ≤ 140737488355328) {K : Sl → World → Prop}
  (hK : ∀ s w', Hp S w0 w' (its ++ [tB s l]) → K s w') : Run .sl Try.prog (Builtin.append_ #[58, 58] 58 #[.slice none 0 0, .slice b.a b.len b.cap]) w K := by
 have hbl := h.lenU j (by rw [hj]; rfl) hu
 have hlt := (List.getElem?_eq_some_iff.1 hj).1
 have h := h.nil 5 1 u8v
 obtain ⟨inf, q1, q2, q3, q4⟩ := inf5
 refine h.appS its.length j (s := ⟨none, 0, 0⟩) List.getElem?_concat_length (u := u) (by rw [List.getElem?_append_left hlt]; exact hj) hu u8v_len und22 q1 q3 q2 rfl (by simp [Value.oneCell']) (by rw [q4]; show (0 + b.len) * 1 ≤ _; omega) (by show 0 + b.len ≤ _; omega) fun r w h _ _ => ?_
 rw [set_last] at h
 exact hK r w h
theorem Put_spec (h : Hp S w0 w its) (j : Nat) {u : Thing} {b : Sl} {l : List Int} {n : Int} (hj : its[j]? = some u) (hu : Hp.Reads u b 1 u8v l) (h0 : 0 ≤ n) (h1 : n < 18446744073709551616) (hl : l.length + 10 ≤ 140737488355328) {K : Sl → World → Prop}
  (hK : ∀ s w', Hp S w0 w' (its ++ [tB s (l ++ putU n)]) → K s w') : c38 b n w K := by
 refine c38_of ?_
 unfold f38
 refine c59_of ?_
 unfold f59
 refine fresh_spec h j hj hu (by omega) fun s w1 h => ?_
 refine add_spec h its.length List.getElem?_concat_length h0 h1 hl fun s w2 h => ?_
 rw [set_last] at h
 exact hK s w2 h
theorem PutInt_spec (h : Hp S w0 w its) (j : Nat) {u : Thing} {b : Sl} {l : List Int} {n : Int} (hj : its[j]? = some u) (hu : Hp.Reads u b 1 u8v l) (h0 : -9223372036854775808 ≤ n) (h1 : n ≤ 9223372036854775807) (hl : l.length + 10 ≤ 140737488355328) {K : Sl → World → Prop}
  (hK : ∀ s w', Hp S w0 w' (its ++ [tB s (l ++ putU (zig n))]) → K s w') : c39 b n w K := by
 refine c39_of ?_
 unfold f39
 refine c62_of ?_
 unfold f62
 refine ⟨by omega, by omega, ?_⟩
 rw [signed_eq h0 h1]
 have := zig_range h0 h1
 exact Put_spec h j hj hu this.1 this.2 hl hK
end
def R64 (l : List Int) : Prop := ∀ x ∈ l, -9223372036854775808 ≤ x ∧ x ≤ 9223372036854775807
def encZ (l : List Int) : List Int := l.flatMap fun x => putU (zig x)
def encS : Int → List Int → List Int
 | _, [] => []
 | last, x :: r => putU (zig (IntKind.i64.wrap (x - last))) ++ encS x r
def cnt (x : Int) : List Int → Nat
 | [] => 0
 | y :: r => if y = x then cnt x r + 1 else 0
def runT : Option Int → List Int → List (Int × Int)
 | _, [] => []
 | p, x :: r => if p = some x then runT (some x) r else (((cnt x r + 1 : Nat) : Int), x) :: runT (some x) r
def runsL (l : List Int) : List (Int × Int) := runT none l
def encP (x : Int × Int) : List Int := putU x.1 ++ putU (zig x.2)
def encR (l : List Int) : List Int := putU (runsL l).length ++ (runsL l).flatMap encP
def formU (f : Int) (l : List Int) : List Int := if f = 0 then encZ l else if f = 1 then encS 0 l else encR l
def shorter (a b : List Int) : List Int := if b.length < a.length then b else a
def bestU (l : List Int) : List Int := shorter (shorter (0 :: formU 0 l) (1 :: formU 1 l)) (2 :: formU 2 l)
def rowU (l : List Int) : List Int := putU l.length ++ (if l = [] then [] else bestU l)
def runStep (out : List (Int × Int)) (x : Int) : List (Int × Int) :=
 match out.getLast? with
 | some (n, y) => if y = x then out.dropLast ++ [(n + 1, y)] else out ++ [(1, x)]
 | none => [(1, x)]
theorem runStep_eq (out : List (Int × Int)) (n y : Int) : runStep (out ++ [(n, y)]) y = out ++ [(n + 1, y)] := by
 unfold runStep
 simp
theorem runStep_ne (out : List (Int × Int)) (n : Int) {x y : Int} (h : y ≠ x) : runStep (out ++ [(n, y)]) x = out ++ [(n, y)] ++ [(1, x)] := by
 unfold runStep
 simp [h]
theorem fold_runs : ∀ (r : List Int) (out : List (Int × Int)) (n y : Int), r.foldl runStep (out ++ [(n, y)]) = out ++ [(n + cnt y r, y)] ++ runT (some y) r
 | [], out, n, y => by simp [runT, cnt]
 | x :: r, out, n, y => by
  rw [List.foldl_cons]
  by_cases h : x = y
  ·subst h
   rw [runStep_eq, fold_runs r out (n + 1) x, runT, if_pos rfl]
   simp only [cnt, if_true]
   have e : n + 1 + (cnt x r : Int) = n + ((cnt x r + 1 : Nat) : Int) := by omega
   rw [e]
  ·rw [runStep_ne _ _ (Ne.symm h), fold_runs r (out ++ [(n, y)]) 1 x, runT, if_neg (by simpa using Ne.symm h)]
   have e : cnt y (x :: r) = 0 := by simp [cnt, h]
   rw [e]
   have e2 : (1 : Int) + (cnt x r : Int) = ((cnt x r + 1 : Nat) : Int) := by omega
   rw [e2]
   simp
theorem fold_all (l : List Int) : l.foldl runStep [] = runsL l := by
 cases l with
 | nil => rfl
 | cons x r =>
  rw [List.foldl_cons]
  have e : runStep [] x = [] ++ [(1, x)] := rfl
  rw [e, fold_runs]
  unfold runsL
  rw [runT, if_neg (by simp)]
  have e2 : (1 : Int) + (cnt x r : Int) = ((cnt x r + 1 : Nat) : Int) := by omega
  rw [e2]
  simp
theorem cnt_le (x : Int) : ∀ r : List Int, cnt x r ≤ r.length
 | [] => by simp [cnt]
 | y :: r => by
  rw [cnt]; split
  ·have := cnt_le x r; simp; omega
  ·simp
theorem runT_len : ∀ (p : Option Int) (l : List Int), (runT p l).length ≤ l.length
 | p, [] => by simp [runT]
 | p, x :: r => by
  have := runT_len (some x) r
  rw [runT]; split
  ·simp; omega
  ·simp; omega
theorem runsL_len (l : List Int) : (runsL l).length ≤ l.length := runT_len none l
theorem runT_mem : ∀ (p : Option Int) (l : List Int) (y : Int × Int), y ∈ runT p l → 1 ≤ y.1 ∧ y.1 ≤ l.length ∧ y.2 ∈ l
 | p, [], y, h => by simp [runT] at h
 | p, x :: r, y, h => by
  rw [runT] at h
  split at h
  ·have := runT_mem (some x) r y h
   exact ⟨this.1, by simp; omega, by simp [this.2.2]⟩
  ·rcases List.mem_cons.1 h with rfl | h
   ·have := cnt_le x r
    exact ⟨by show (1 : Int) ≤ _; omega, by show ((cnt x r + 1 : Nat) : Int) ≤ _; simp; omega, by simp⟩
   ·have := runT_mem (some x) r y h
    exact ⟨this.1, by simp; omega, by simp [this.2.2]⟩
theorem encZ_len (l : List Int) : (encZ l).length ≤ 10 * l.length := by
 induction l with
 | nil => simp [encZ]
 | cons x r ih =>
  have := putU_len (zig x)
  simp only [encZ, List.flatMap_cons, List.length_append, List.length_cons] at ih ⊢
  omega
theorem bestU_len (l : List Int) : (bestU l).length ≤ 11 + 10 * l.length := by
 have h0 : (0 :: formU 0 l).length ≤ 11 + 10 * l.length := by
  have := encZ_len l
  simp only [formU, if_true, List.length_cons]; omega
 unfold bestU
 have hs : ∀ a b : List Int, (shorter a b).length ≤ a.length := fun a b => by unfold shorter; split <;> omega
 have := hs (0 :: formU 0 l) (1 :: formU 1 l)
 have := hs (shorter (0 :: formU 0 l) (1 :: formU 1 l)) (2 :: formU 2 l)
 omega
end Go.Proofs.Ythmbjlpgbkkjjaa.FP
end

section
namespace Go.Den
open Go.RowKit
theorem FlN_of {objs : List Obj} {K : List (Option Addr) → World → Prop} {P : List (Option Addr) → World → Prop} (hK : ∀ ys w, P ys w → K ys w)
  (hs : ∀ ys w q o, P ys w → objs[q]? = some o → ys[q]? = some none → P (ys.set q (some ⟨w.heap.size, 0, none⟩)) (w.alloc o)) : ∀ n ys w, P ys w → FlN objs K n ys w
 | 0, ys, w, h => hK ys w h
 | n + 1, ys, w, h => ⟨hK ys w h, fun q o ho hy => FlN_of hK hs n _ _ (hs ys w q o h ho hy)⟩
namespace Hp
variable {S : List Nat} {w0 w : World} {its : List Thing}
end Hp
end Go.Den
end

section
namespace Go.Proofs.Ythmbjlpgbkkjjaa.FP
open F
open Go Go.Den Go.Proofs
abbrev rv (x : Int × Int) : List Value := [.int .u64 x.1, .int .i64 x.2]
theorem rv_len (x : Int × Int) : (rv x).length = 2 := rfl
theorem inf76 : ∃ inf : TypeInfo, Try.prog.info? 163 = some inf ∧ inf.zero = some (.agg #[.int .u64 0, .int .i64 0]) ∧ inf.size = 2 ∧ inf.bytes = 16 := infoP (by kernel_rfl)
theorem und73 : Try.prog.underlying 160 = some (.slice 163) := by kernel_rfl
section
variable {S : List Nat} {w0 w : World} {its : List Thing}
theorem ixst1of2 {α : Type} {f : α → List Value} {e : TypeId} (h : Hp S w0 w its) (i : Nat) {s : Sl} {l : List α} {j : Int} {x y : α} {v a b' : Value} {K : World → Prop} (hi : its[i]? = some (tSl s e 2 f l)) (h0 : 0 ≤ j) (hx : l[j.toNat]? = some x) (hf : ∀ x, (f x).length = 2) (hfx : f x = [a, b']) (hy : f y = [v, b']) (hv : v.oneCell' = true)
  (hK : ∀ w', Hp S w0 w' (its.set i (tSl s e 2 f (l.set j.toNat y))) → K w') : Ix s.a s.len j 2 fun a => St a v w K := by
 obtain ⟨O, hO, back⟩ := h.step hi rfl
 refine SlF.ix hf hO h0 hx fun b off c ho hb hoff hcs hput => ?_
 refine Go.Den.st hb (by omega) hv fun w' hb' hf' _ => hK w' (back (t' := tSl s e 2 f (l.set j.toNat y)) (O' := O) (by rw [ho]; exact hf') (hput w' y ?_) (fun k hk => .inl hk) rfl)
 have c1 := hcs 1 (by omega)
 rw [hfx] at c1
 simp only [List.getElem?_cons_succ, List.getElem?_cons_zero] at c1
 have e1 : c.set off v = c.take off ++ f y ++ c.drop (off + 2) := by
  apply List.ext_getElem?
  intro m
  rw [hy]
  have l1 : (List.take off c).length = off := by rw [List.length_take]; omega
  simp only [List.getElem?_set, List.getElem?_append, List.length_append, l1, List.length_cons, List.length_nil, List.getElem?_take, List.getElem?_drop]
  by_cases h1 : m < off
  ·rw [if_neg (by omega), if_pos (by omega), if_pos h1, if_pos h1]
  ·by_cases h2 : m = off
   ·subst h2
    rw [if_pos rfl, if_pos (by omega), if_pos (by omega), if_neg (by omega)]
    simp
   ·by_cases h3 : m = off + 1
    ·subst h3
     rw [if_neg (by omega), if_pos (by omega), if_neg (by omega), c1]
     simp
    ·rw [if_neg (by omega), if_neg (by omega)]
     congr 1; omega
 rw [← e1]; exact hb'
theorem runs_spec (h : Hp S w0 w its) (j : Nat) {u : Thing} {b : Sl} {l : List Int} (hj : its[j]? = some u) (hu : Hp.Reads u b 1 iv l) (hr : R64 l) (hl : l.length ≤ 1000000000000) {K : Sl → World → Prop}
  (hK : ∀ s w', Hp S w0 w' (its ++ [tSl s 163 2 rv (runsL l)]) → K s w') : c90 b w K := by
 refine c90_of ?_
 unfold f90
 have hbl := h.lenU j (by rw [hj]; rfl) hu
 have hlt := (List.getElem?_eq_some_iff.1 hj).1
 have h := h.nil 163 2 rv
 obtain ⟨inf, q1, q2, q3, q4⟩ := inf76
 refine ⟨fun out t m w' => ∃ (i : Nat) (R : List (Int × Int)), t = i ∧ i ≤ l.length ∧ R.length ≤ i ∧ (∀ x ∈ R, 0 ≤ x.1 ∧ x.1 ≤ i) ∧ (l.drop i).foldl runStep R = runsL l ∧ m = l.length - i ∧ Hp S w0 w' (its ++ [tSl out 163 2 rv R]), ⟨l.length, 0, [], rfl, by omega, by simp, by simp, fold_all l, rfl, h⟩, ?_⟩
 rintro out t m w2 ⟨i, R, rfl, hi, hRl, hR, hfold, rfl, h⟩
 have hol := h.len (s := out) its.length (by rw [List.getElem?_concat_length]; rfl)
 have hj' : ∀ t : Thing, (its ++ [t])[j]? = some u := fun t => by rw [List.getElem?_append_left hlt]; exact hj
 by_cases hli : i < l.length
 ·refine ifT (by simp; omega) ?_
  have hd : l.drop i = l[i] :: l.drop (i + 1) := List.drop_eq_getElem_cons hli
  refine h.ixldU (k := .i .i64) (u := u) (y := l[i]) (x := l[i]) j (by rw [hj']; rfl) hu (by omega) (by simp [hli]) iv_len rfl ?_
  rw [hd, List.foldl_cons] at hfold
  generalize l[i] = x at hfold
  have ew : IntKind.i64.wrap ((out.len : Int) - 1) = (out.len : Int) - 1 := wr64 (by omega) (by omega)
  rw [ew]
  rcases List.eq_nil_or_concat R with rfl | ⟨R', ⟨n, y⟩, rfl⟩
  ·simp only [List.length_nil] at hol
   refine ⟨fun t w' => t = false ∧ w' = w2, ifF (by simp; omega) ⟨rfl, rfl⟩, ?_⟩
   rintro t w' ⟨rfl, rfl⟩
   refine ifF (by simp) ?_
   refine h.nwapp (c := [_, _]) its.length ((1 : Int), x) List.getElem?_concat_length rv_len und73 q1 q3 q2 rfl rfl (by simp [Value.oneCell']) (by rw [q4]; omega) (by omega) fun s2 w1 h _ _ => ?_
   rw [set_last] at h
   exact ⟨l.length - (i + 1), by omega, i + 1, [(1, x)], by rw [wr64 (by omega) (by omega)]; omega, by omega, by simp, by simp; omega, hfold, rfl, h⟩
  ·simp only [List.concat_eq_append] at *
   simp only [List.length_append, List.length_cons, List.length_nil] at hol hRl
   have hget : (R' ++ [(n, y)])[((out.len : Int) - 1).toNat]? = some (n, y) := by
    rw [List.getElem?_append_right (by omega), show ((out.len : Int) - 1).toNat - R'.length = 0 by omega]; rfl
   obtain ⟨n0, n1⟩ := hR (n, y) (by simp)
   dsimp only at n0 n1
   refine ⟨fun t w' => t = (y == x) ∧ w' = w2, ?_, ?_⟩
   ·refine ifT (by simp; omega) ?_
    refine h.ixr its.length (by rw [List.getElem?_concat_length]; rfl) (by omega) hget rv_len fun a hc => ?_
    exact ldR (k := .i .i64) (x := y) (hc 1 (by omega)) rfl ⟨rfl, rfl⟩
   ·rintro t w' ⟨rfl, rfl⟩
    by_cases hyx : y = x
    ·subst hyx
     refine ifT (by simp) ?_
     refine h.ixr its.length (by rw [List.getElem?_concat_length]; rfl) (by omega) hget rv_len fun a hc => ?_
     refine ldR0 (k := .i .u64) (x := n) (hc 0 (by omega)) rfl ?_
     have ew2 : IntKind.u64.wrap (n + 1) = n + 1 := by rw [w64]; omega
     rw [ew2]
     refine ixst1of2 h its.length (y := (n + 1, y)) List.getElem?_concat_length (by omega) hget rv_len rfl rfl rfl fun w1 h => ?_
     rw [set_last] at h
     have es : (R' ++ [(n, y)]).set ((out.len : Int) - 1).toNat (n + 1, y) = R' ++ [(n + 1, y)] := by
      rw [List.set_append_right _ _ (by omega), show ((out.len : Int) - 1).toNat - R'.length = 0 by omega]; rfl
     rw [es] at h
     rw [runStep_eq] at hfold
     refine ⟨l.length - (i + 1), by omega, i + 1, _, by rw [wr64 (by omega) (by omega)]; omega, by omega, by simp; omega, ?_, hfold, rfl, h⟩
     intro z hz
     rcases List.mem_append.1 hz with hz | hz
     ·have := hR z (by simp [hz]); omega
     ·simp only [List.mem_singleton] at hz; subst hz; dsimp only; omega
    ·refine ifF (by simpa using hyx) ?_
     refine h.nwapp (c := [_, _]) its.length ((1 : Int), x) List.getElem?_concat_length rv_len und73 q1 q3 q2 rfl rfl (by simp [Value.oneCell']) (by rw [q4]; omega) (by omega) fun s2 w1 h _ _ => ?_
     rw [set_last] at h
     rw [runStep_ne _ _ hyx] at hfold
     refine ⟨l.length - (i + 1), by omega, i + 1, _, by rw [wr64 (by omega) (by omega)]; omega, by omega, by simp; omega, ?_, hfold, rfl, h⟩
     intro z hz
     rcases List.mem_append.1 hz with hz | hz
     ·have := hR z hz; omega
     ·simp only [List.mem_singleton] at hz; subst hz; dsimp only; omega
 ·refine ifF (by simp; omega) ?_
  rw [List.drop_of_length_le (by omega), List.foldl_nil] at hfold
  subst hfold
  exact hK out _ h
end
section
variable {S : List Nat} {w0 w : World} {its : List Thing}
theorem signed_spec {n : Int} {K : Int → World → Prop} (h1 : -9223372036854775808 ≤ n) (h2 : n ≤ 9223372036854775807) (hK : K (zig n) w) : c62 n w K := by
 refine c62_of ?_
 unfold f62
 refine ⟨by omega, by omega, ?_⟩
 rw [signed_eq h1 h2]
 exact hK
theorem written_spec (h : Hp S w0 w its) (i j : Nat) (hij : i ≠ j) {u : Thing} {b v : Sl} {pre l : List Int} (hi : its[i]? = some (tB b pre)) (hj : its[j]? = some u) (hu : Hp.Reads u v 1 iv l) (hr : R64 l) (hl : l.length ≤ 1000000000000) (hp : pre.length ≤ 10000000000000) {form : Int} (hf : form = 0 ∨ form = 1 ∨ form = 2) {K : Sl → World → Prop}
  (hK : ∀ s w', Hp S w0 w' (its.set i (tB s (pre ++ formU form l))) → K s w') : c80 form b v w K := by
 refine c80_of ?_
 unfold f80
 have hvl := h.lenU j (by rw [hj]; rfl) hu
 have hil := (List.getElem?_eq_some_iff.1 hi).1
 have hj' : ∀ t : Thing, (its.set i t)[j]? = some u := fun t => by rw [List.getElem?_set_ne hij]; exact hj
 have hi' : ∀ t : Thing, (its.set i t)[i]? = some t := fun t => by simp [hil]
 rcases hf with rfl | rfl | rfl
 ·refine ifT rfl ?_
  refine ⟨fun b2 t m w' => ∃ (k : Nat) (cur : List Int), t = k ∧ k ≤ l.length ∧ cur ++ encZ (l.drop k) = pre ++ encZ l ∧ cur.length ≤ pre.length + 10 * k ∧ m = l.length - k ∧ Hp S w0 w' (its.set i (tB b2 cur)), ⟨l.length, 0, pre, rfl, by omega, rfl, by omega, rfl, by rw [Hp.set_same hi]; exact h⟩, ?_⟩
  rintro b2 t m w2 ⟨k, cur, rfl, hk, hc, hcl, rfl, h⟩
  by_cases hlt : k < l.length
  ·refine ifT (by simp; omega) ?_
   have hd : l.drop k = l[k] :: l.drop (k + 1) := List.drop_eq_getElem_cons hlt
   have hx := hr l[k] (List.getElem_mem hlt)
   refine h.ixldU (k := .i .i64) (u := u) (y := l[k]) (x := l[k]) j (by rw [hj']; rfl) hu (by omega) (by simp [hlt]) iv_len rfl ?_
   rw [hd] at hc
   generalize l[k] = x at hc hx
   refine signed_spec hx.1 hx.2 ?_
   have hz := zig_range hx.1 hx.2
   refine add_spec h i (hi' _) hz.1 hz.2 (by omega) fun s w1 h => ?_
   rw [List.set_set] at h
   have := putU_len (zig x)
   refine ⟨l.length - (k + 1), by omega, k + 1, _, by rw [wr64 (by omega) (by omega)]; omega, by omega, ?_, by simp only [List.length_append]; omega, rfl, h⟩
   rw [← hc]
   simp [encZ]
  ·refine ifF (by simp; omega) ?_
   rw [List.drop_of_length_le (by omega)] at hc
   have hc : cur = pre ++ encZ l := by simpa [encZ] using hc
   rw [hc] at h
   exact hK b2 _ h
 ·refine ifF (by simp) ?_
  refine ifT rfl ?_
  refine ⟨fun b2 last t m w' => ∃ (k : Nat) (cur : List Int), t = k ∧ k ≤ l.length ∧ cur ++ encS last (l.drop k) = pre ++ encS 0 l ∧ cur.length ≤ pre.length + 10 * k ∧ m = l.length - k ∧ Hp S w0 w' (its.set i (tB b2 cur)), ⟨l.length, 0, pre, rfl, by omega, rfl, by omega, rfl, by rw [Hp.set_same hi]; exact h⟩, ?_⟩
  rintro b2 last t m w2 ⟨k, cur, rfl, hk, hc, hcl, rfl, h⟩
  by_cases hlt : k < l.length
  ·refine ifT (by simp; omega) ?_
   have hd : l.drop k = l[k] :: l.drop (k + 1) := List.drop_eq_getElem_cons hlt
   refine h.ixldU (k := .i .i64) (u := u) (y := l[k]) (x := l[k]) j (by rw [hj']; rfl) hu (by omega) (by simp [hlt]) iv_len rfl ?_
   rw [hd, encS] at hc
   generalize l[k] = x at hc
   have hx1 := wr64lo (x - last)
   have hx2 := wr64hi (x - last)
   generalize IntKind.i64.wrap (x - last) = y at hc hx1 hx2 ⊢
   refine signed_spec hx1 hx2 ?_
   have hz := zig_range hx1 hx2
   refine add_spec h i (hi' _) hz.1 hz.2 (by omega) fun s w1 h => ?_
   rw [List.set_set] at h
   have := putU_len (zig y)
   refine ⟨l.length - (k + 1), by omega, k + 1, _, by rw [wr64 (by omega) (by omega)]; omega, by omega, ?_, by simp only [List.length_append]; omega, rfl, h⟩
   rw [← hc, List.append_assoc]
  ·refine ifF (by simp; omega) ?_
   rw [List.drop_of_length_le (by omega), encS, List.append_nil] at hc
   rw [hc] at h
   exact hK b2 _ h
 ·refine ifF (by simp) ?_
  refine ifF (by simp) ?_
  refine runs_spec h j hj hu hr hl fun all w1 h => ?_
  have hal := h.len (s := all) its.length (by rw [List.getElem?_concat_length]; rfl)
  have hrl := runsL_len l
  have hrm := runT_mem none l
  have ew : IntKind.u64.wrap (all.len : Int) = ((runsL l).length : Int) := by rw [w64]; omega
  rw [ew]
  refine add_spec h i (by rw [List.getElem?_append_left hil]; exact hi) (by omega) (by omega) (by omega) fun b6 w1 h => ?_
  rw [List.set_append_left _ _ hil] at h
  have hpl := putU_len (runsL l).length
  have hKs : ∀ s w', Hp S w0 w' (its.set i (tB s (pre ++ putU (runsL l).length ++ (runsL l).flatMap encP))) → K s w' := fun s w' h => hK s w' (by
   have e : formU 2 l = encR l := rfl
   rw [e, encR, ← List.append_assoc]; exact h)
  change ∀ y ∈ runsL l, _ at hrm
  generalize runsL l = R at hal hrl hrm hpl h hKs ⊢
  have hR : ∀ y ∈ R, 0 ≤ y.1 ∧ y.1 < 18446744073709551616 ∧ -9223372036854775808 ≤ y.2 ∧ y.2 ≤ 9223372036854775807 := fun y hy => by
   obtain ⟨a1, a2, a3⟩ := hrm y hy
   have := hr _ a3
   omega
  refine ⟨fun b7 t m w' => ∃ (k : Nat) (cur : List Int), t = k ∧ k ≤ R.length ∧ cur ++ (R.drop k).flatMap encP = pre ++ putU R.length ++ R.flatMap encP ∧ cur.length ≤ pre.length + 10 + 20 * k ∧ m = R.length - k ∧ Hp S w0 w' (its.set i (tB b7 cur) ++ [tSl all 163 2 rv R]), ⟨R.length, 0, _, rfl, by omega, rfl, by simp; omega, rfl, h⟩, ?_⟩
  rintro b7 t m w2 ⟨k, cur, rfl, hk, hc, hcl, rfl, h⟩
  have hsl : (its.set i (tB b7 cur)).length = its.length := by simp
  by_cases hlt : k < R.length
  ·refine ifT (by simp; omega) ?_
   have hd : R.drop k = R[k] :: R.drop (k + 1) := List.drop_eq_getElem_cons hlt
   have hy := hR R[k] (List.getElem_mem hlt)
   have hget : R[((k : Int)).toNat]? = some R[k] := by simp [hlt]
   rw [hd] at hc
   generalize R[k] = y at hc hy hget
   refine h.ixr its.length (by rw [List.getElem?_append_right (by omega), hsl, Nat.sub_self]; rfl) (by omega) hget rv_len fun a ha => ?_
   refine ldR0 (k := .i .u64) (x := y.1) (ha 0 (by omega)) rfl ?_
   refine ldR (k := .i .i64) (x := y.2) (ha 1 (by omega)) rfl ?_
   have e1 : ∀ t : Thing, (its.set i (tB b7 cur) ++ [tSl all 163 2 rv R] ++ [t])[its.length + 1]? = some t := fun t => by
    rw [List.getElem?_append_right (by simp), List.length_append, hsl]; simp
   have e1' : ∀ t t' : Thing, (its.set i (tB b7 cur) ++ [tSl all 163 2 rv R] ++ [t]).set (its.length + 1) t' = its.set i (tB b7 cur) ++ [tSl all 163 2 rv R] ++ [t'] := fun t t' => by
    rw [List.set_append_right _ _ (by simp), List.length_append, hsl]; simp
   refine h.nw (c := [_, _]) fun r3 w1 h => ?_
   refine h.st0 (its.length + 1) (e1 _) (by simp) rfl fun w1 h => ?_
   rw [e1'] at h
   refine h.st (its.length + 1) (e1 _) (by simp) rfl fun w1 h => ?_
   rw [e1'] at h
   refine h.dr fun w1 h => ?_
   refine h.ld0 (k := .i .u64) (x := y.1) (its.length + 1) (by rw [e1]; rfl) rfl ?_
   refine h.ld (x := y.2) (its.length + 1) (by rw [e1]; rfl) rfl ?_
   have hii : ∀ t t' t'' : Thing, (its.set i t ++ [t'] ++ [t''])[i]? = some t := fun t t' t'' => by
    rw [List.append_assoc, List.getElem?_append_left (by simp; omega)]; exact hi' t
   have hss : ∀ t t' t'' q : Thing, (its.set i t ++ [t'] ++ [t'']).set i q = its.set i q ++ [t'] ++ [t''] := fun t t' t'' q => by
    rw [List.append_assoc, List.set_append_left _ _ (by simp; omega), List.set_set, List.append_assoc]
   refine add_spec h i (hii _ _ _) hy.1 hy.2.1 (by omega) fun r4 w1 h => ?_
   rw [hss] at h
   have e2 : ∀ q t : Thing, (its.set i q ++ [tSl all 163 2 rv R] ++ [t])[its.length + 1]? = some t := fun q t => by
    rw [List.getElem?_append_right (by simp), List.length_append, List.length_set]; simp
   refine ⟨h.cel (its.length + 1) (by rw [e2]; rfl) rfl, ?_⟩
   refine signed_spec hy.2.2.1 hy.2.2.2 ?_
   have hz := zig_range hy.2.2.1 hy.2.2.2
   have := putU_len y.1
   refine add_spec h i (hii _ _ _) hz.1 hz.2 (by simp only [List.length_append]; omega) fun b8 w1 h => ?_
   rw [hss] at h
   have := putU_len (zig y.2)
   refine ⟨R.length - (k + 1), by omega, k + 1, _, by rw [wr64 (by omega) (by omega)]; omega, by omega, ?_, by simp only [List.length_append]; omega, rfl, h.front⟩
   rw [← hc]
   simp [encP]
  ·refine ifF (by simp; omega) ?_
   rw [List.drop_of_length_le (by omega), List.flatMap_nil, List.append_nil] at hc
   rw [hc] at h
   exact hKs b7 _ h.front
theorem tried_spec (h : Hp S w0 w its) (i i' j : Nat) {u : Thing} {bh bl : Nat} {head v : Sl} {hd : List Int} {l : List Int} {t1 t2 : TypeId} {ih : Nat} {uh : Thing} (hi : (its[i]?).map Thing.holds = some (tBlk bh t1 [.slice head.a head.len head.cap]).holds) (hi' : (its[i']?).map Thing.holds = some (tBlk bl t2 [.slice v.a v.len v.cap]).holds)
  (hih : its[ih]? = some uh) (huh : Hp.Reads uh head 1 u8v hd) (hj : its[j]? = some u) (hu : Hp.Reads u v 1 iv l) (hr : R64 l) (hl : l.length ≤ 1000000000000) (hp : hd.length ≤ 1000000000000) {form : Int} (hf : form = 0 ∨ form = 1 ∨ form = 2) {K : Sl → World → Prop}
  (hK : ∀ s w', Hp S w0 w' (its ++ [tB s (hd ++ form :: formU form l)]) → K s w') : c79 form (some ⟨bh, 0, none⟩) (some ⟨bl, 0, none⟩) w K := by
 refine c79_of ?_
 unfold f79
 have hjl := (List.getElem?_eq_some_iff.1 hj).1
 have hihl := (List.getElem?_eq_some_iff.1 hih).1
 have hi'l : i' < its.length := by
  refine Nat.lt_of_not_le fun hle => ?_
  rw [List.getElem?_eq_none hle] at hi'
  cases hi'
 obtain ⟨inf, q1, q2, q3, q4⟩ := inf5
 refine h.dr fun w1 h => ?_
 refine nns ?_
 refine h.ld0 (k := .sl) (x := head) i hi rfl ?_
 refine nns ?_
 refine h.ld0 (k := .sl) (x := v) i' hi' rfl ?_
 have h := h.opt 5 [.int .u8 form]
 refine h.fls its.length List.getElem?_concat_length fun y w1 h => ?_
 rw [set_last] at h
 refine c59_of ?_
 unfold f59
 refine fresh_spec h ih (by rw [List.getElem?_append_left hihl]; exact hih) huh (by omega) fun r w1 h => ?_
 refine ⟨h.cel0 i' (by rw [List.append_assoc, List.getElem?_append_left hi'l]; exact hi') rfl, ?_⟩
 have e1 : ∀ t t' : Thing, (its ++ [t] ++ [t'])[its.length]? = some t := fun t t' => by
  rw [List.append_assoc, List.getElem?_append_right (Nat.le_refl _), Nat.sub_self]; rfl
 have e1' : ∀ t t' q : Thing, (its ++ [t] ++ [t']).set its.length q = its ++ [q] ++ [t'] := fun t t' q => by
  rw [List.append_assoc, List.set_append_right _ _ (Nat.le_refl _), Nat.sub_self]; simp
 have e2 : ∀ t t' : Thing, (its ++ [t] ++ [t'])[its.length + 1]? = some t' := fun t t' => by
  rw [List.getElem?_append_right (by simp)]; simp
 have e2' : ∀ t t' q : Thing, (its ++ [t] ++ [t']).set (its.length + 1) q = its ++ [t] ++ [q] := fun t t' q => by
  rw [List.set_append_right _ _ (by simp)]; simp
 have hrl := h.len (s := r) (its.length + 1) (by rw [e2]; rfl)
 refine h.fls its.length (e1 _ _) fun y2 w1 h => ?_
 rw [e1'] at h
 refine h.need its.length (e1 _ _) fun b3 h => ?_
 rw [e1'] at h
 refine h.app (its.length + 1) its.length (y := form) (c := [.int .u8 form]) (e2 _ _) (by rw [e1]; rfl) u8v_len und22 q1 q3 q2 rfl rfl (by simp [Value.oneCell']) (by rw [q4]; omega) (by omega) fun s w1 h _ _ => ?_
 rw [e2'] at h
 refine ⟨h.cel0 i' (by rw [List.append_assoc, List.getElem?_append_left hi'l]; exact hi') rfl, ?_⟩
 refine written_spec h (its.length + 1) j (by omega) (e2 _ _) (by rw [List.append_assoc, List.getElem?_append_left hjl]; exact hj) hu hr hl (by simp; omega) hf fun s2 w1 h => ?_
 rw [e2'] at h
 refine hK s2 w1 ?_
 have e3 : hd ++ [form] ++ formU form l = hd ++ form :: formU form l := by simp
 rw [e3] at h
 refine h.sel (List.range its.length ++ [its.length + 1]) ?_ (by simp) ?_
 ·rw [List.nodup_append]
  refine ⟨List.nodup_range, by simp, ?_⟩
  intro a ha b hb
  simp only [List.mem_range] at ha
  simp only [List.mem_singleton] at hb
  omega
 ·intro n m hnm
  by_cases hn : n < its.length
  ·rw [List.getElem?_append_left (by simpa using hn), List.getElem?_range hn] at hnm
   cases hnm
   rw [List.append_assoc, List.getElem?_append_left hn, List.getElem?_append_left hn]
  ·have hn2 : n = its.length := by
    have := (List.getElem?_eq_some_iff.1 hnm).1
    simp at this
    omega
   subst hn2
   rw [List.getElem?_append_right (by simp)] at hnm
   simp at hnm
   subst hnm
   rw [e2, List.getElem?_append_right (Nat.le_refl _), Nat.sub_self]; rfl
end
def bk (l : List Int) (k : Nat) : List Int := if k = 1 then 0 :: formU 0 l else if k = 2 then shorter (0 :: formU 0 l) (1 :: formU 1 l) else bestU l
theorem bk_step (l : List Int) {k : Nat} (h1 : 1 ≤ k) (h2 : k < 3) : bk l (k + 1) = shorter (bk l k) ((k : Int) :: formU k l) := by
 have : k = 1 ∨ k = 2 := by omega
 rcases this with rfl | rfl <;> rfl
section
variable {S : List Nat} {w0 w : World} {its : List Thing}
theorem ne_none {α : Type} {f : α → List Value} {n : Nat} {e : TypeId} (h : Hp S w0 w its) (i : Nat) {s : Sl} {l : List α} (hi : (its[i]?).map Thing.holds = some (tSl s e n f l).holds) (hl : l ≠ []) : s.a ≠ none := by
 obtain ⟨O, hO⟩ := h.see' hi
 intro hn
 rcases hO.2 with ⟨_, h0, _⟩ | ⟨b, off, c, h1, _⟩
 ·exact hl (List.eq_nil_of_length_eq_zero (by rw [hO.1, h0]))
 ·rw [hn] at h1; cases h1
theorem row_spec (h : Hp S w0 w its) (j : Nat) {u : Thing} {v : Sl} {l : List Int} (hj : its[j]? = some u) (hu : Hp.Reads u v 1 iv l) (hr : R64 l) (hl : l.length ≤ 1000000000000) {K : Sl → World → Prop}
  (hK : ∀ s w', Hp S w0 w' (its ++ [tB s (rowU l)]) → K s w') : c60 v w K := by
 refine c60_of ?_
 unfold f60
 have hvl := h.lenU j (by rw [hj]; rfl) hu
 have h1 := h.ro1 (j := j) (u := u) (by rw [hj]; rfl)
 have hu' : Hp.Reads u.ro v 1 iv l := ⟨hu.rd⟩
 refine h1.nw (c := [_]) fun l2 w1 h1 => ?_
 refine h1.ld0 (k := .sl) (x := v) 1 rfl rfl ?_
 have h1 := h1.nil 5 1 u8v
 have ew : IntKind.u64.wrap (v.len : Int) = (l.length : Int) := by rw [w64]; omega
 rw [ew]
 refine add_spec h1 2 rfl (by omega) (by omega) (by simp) fun head w1 h1 => ?_
 rw [List.nil_append] at h1
 have hhl := putU_len l.length
 refine h1.nw (c := [_]) fun head2 w1 h1 => ?_
 refine h1.st0 3 rfl (by simp) rfl fun w1 h1 => ?_
 simp only [List.cons_append, List.nil_append, List.set_cons_zero, List.set_cons_succ] at h1
 refine h1.ld0 (k := .sl) (x := v) 1 rfl rfl ?_
 by_cases hz : l = []
 ·refine ifT (by rw [hz] at hvl; simp at hvl ⊢; omega) ?_
  refine h1.ld0 (k := .sl) (x := head) 3 rfl rfl ?_
  have e : rowU l = putU l.length := by unfold rowU; rw [if_pos hz, List.append_nil]
  have := hK head w1
  rw [e] at this
  exact this (h.r0 rfl (h1.sel1 2 rfl))
 have hlp : 1 ≤ l.length := by cases l with | nil => exact absurd rfl hz | cons _ _ => simp
 refine ifF (by simp; omega) ?_
 have hrow : rowU l = putU l.length ++ bestU l := by unfold rowU; rw [if_neg hz]
 rw [hrow] at hK
 generalize putU l.length = hd at hhl h1 hK
 refine ⟨fun best t m w' => ∃ k : Nat, t = k ∧ k ≤ 3 ∧ m = 3 - k ∧ ((k = 0 ∧ best = ⟨none, 0, 0⟩ ∧ Hp [] w w' [u.ro, tBlk l2 34 [.slice v.a v.len v.cap], tB head hd, tBlk head2 58 [.slice head.a head.len head.cap]]) ∨
   (1 ≤ k ∧ best.a ≠ none ∧ Hp [] w w' [u.ro, tBlk l2 34 [.slice v.a v.len v.cap], tB head hd, tBlk head2 58 [.slice head.a head.len head.cap], tB best (hd ++ bk l k)])), ⟨3, 0, rfl, by omega, rfl, .inl ⟨rfl, rfl, h1⟩⟩, ?_⟩
 rintro best t m w2 ⟨k, rfl, hk, rfl, hh⟩
 have callv : ∀ {w' : World} {K' : Sl → World → Prop}, c79 (k : Int) (some ⟨head2, 0, none⟩) (some ⟨l2, 0, none⟩) w' K' → CallV Try.prog (.func (.func 79) #[] #[.pointer (some ⟨head2, 0, none⟩), .pointer (some ⟨l2, 0, none⟩)]) [.int .u8 (k : Int)] [.one .sl] w' K' :=
  fun hc => ⟨79, #[], #[.pointer (some ⟨head2, 0, none⟩), .pointer (some ⟨l2, 0, none⟩)], rfl, ⟨_, Try.func79, by kernel_rfl⟩, hc⟩
 have ew2 : k < 3 → IntKind.u8.wrap ((k : Int) + 1) = ((k + 1 : Nat) : Int) := fun h => by rw [w8]; omega
 by_cases hlt : k < 3
 ·refine ifT (by simp; omega) ?_
  rw [ew2 hlt]
  refine callv ?_
  rcases hh with ⟨rfl, rfl, h1⟩ | ⟨hk1, hne, h1⟩
  ·refine tried_spec h1 3 1 0 rfl rfl (ih := 2) rfl Hp.rdSl rfl hu' hr hl (by omega) (by omega) fun r w3 h1 => ?_
   refine ifT rfl ?_
   have hne := ne_none h1 4 rfl (by simp)
   exact ⟨2, by omega, 1, rfl, by omega, rfl, .inr ⟨by omega, hne, h1⟩⟩
  ·refine tried_spec h1 3 1 0 rfl rfl (ih := 2) rfl Hp.rdSl rfl hu' hr hl (by omega) (by omega) fun r w3 h1 => ?_
   have hbl := h1.len (s := best) 4 rfl
   have hrl := h1.len (s := r) 5 rfl
   simp only [List.length_append] at hbl hrl
   have hs := bk_step l hk1 hlt
   have hbn : best.a.isNone = false := by cases hb : best.a with | none => exact absurd hb hne | some _ => rfl
   rw [hbn]
   by_cases hsh : ((k : Int) :: formU k l).length < (bk l k).length
   ·refine ifT (by simp only [cond_false, decide_eq_true_eq]; omega) ?_
    have e : bk l (k + 1) = (k : Int) :: formU k l := by rw [hs]; unfold shorter; rw [if_pos hsh]
    have hne2 := ne_none h1 5 rfl (by simp)
    refine ⟨3 - (k + 1), by omega, k + 1, rfl, by omega, rfl, .inr ⟨by omega, hne2, ?_⟩⟩
    rw [e]
    exact h1.sel5 0 1 2 3 5 (by decide) rfl rfl rfl rfl rfl
   ·refine ifF (by simp only [cond_false, decide_eq_true_eq]; omega) ?_
    have e : bk l (k + 1) = bk l k := by rw [hs]; unfold shorter; rw [if_neg hsh]
    refine ⟨3 - (k + 1), by omega, k + 1, rfl, by omega, rfl, .inr ⟨by omega, hne, ?_⟩⟩
    rw [e]
    exact h1.trim 5
 ·refine ifF (by simp; omega) ?_
  obtain rfl : k = 3 := by omega
  rcases hh with ⟨h, _⟩ | ⟨_, _, h1⟩
  ·omega
  ·exact hK best _ (h.r0 rfl (h1.sel1 4 rfl))
theorem rowU_len (l : List Int) : (rowU l).length ≤ 21 + 10 * l.length := by
 have := putU_len l.length
 have := bestU_len l
 unfold rowU
 rw [List.length_append]
 split
 ·simp; omega
 ·omega
theorem PutRow_spec (h : Hp S w0 w its) (j j' : Nat) {u u' : Thing} {b v : Sl} {bs l : List Int} (hj : its[j]? = some u) (hu : Hp.Reads u b 1 u8v bs) (hj' : its[j']? = some u') (hu' : Hp.Reads u' v 1 iv l) (hr : R64 l) (hl : l.length ≤ 1000000000000) (hb : bs.length ≤ 10000000000000) {K : Sl → World → Prop}
  (hK : ∀ s w', Hp S w0 w' (its ++ [tB s (bs ++ rowU l)]) → K s w') : c36 b v w K := by
 refine c36_of ?_
 unfold f36
 have hjl := (List.getElem?_eq_some_iff.1 hj').1
 refine c59_of ?_
 unfold f59
 refine fresh_spec h j hj hu (by omega) fun r w1 h => ?_
 refine row_spec h j' (by rw [List.getElem?_append_left hjl]; exact hj') hu' hr hl fun r2 w1 h => ?_
 have hrl := h.len (s := r) its.length (by rw [List.append_assoc, List.getElem?_append_right (Nat.le_refl _), Nat.sub_self]; rfl)
 have hr2 := h.len (s := r2) (its.length + 1) (by rw [List.getElem?_append_right (by simp)]; simp; rfl)
 have hrw := rowU_len l
 obtain ⟨inf, q1, q2, q3, q4⟩ := inf5
 refine h.appS its.length (its.length + 1) (s := r) (by rw [List.append_assoc, List.getElem?_append_right (Nat.le_refl _), Nat.sub_self]; rfl) (by rw [List.getElem?_append_right (by simp)]; simp; rfl) Hp.rdSl u8v_len und22 q1 q3 q2 rfl (by simp [Value.oneCell']) (by rw [q4]; omega) (by omega) fun s w1 h _ _ => ?_
 have e : (its ++ [tB r bs] ++ [tB r2 (rowU l)]).set its.length (tB s (bs ++ rowU l)) = its ++ [tB s (bs ++ rowU l)] ++ [tB r2 (rowU l)] := by
  rw [List.append_assoc, List.set_append_right _ _ (Nat.le_refl _), Nat.sub_self]; simp
 rw [e] at h
 exact hK s w1 h.front
end
theorem bestU_form (l : List Int) : ∃ f : Int, (f = 0 ∨ f = 1 ∨ f = 2) ∧ bestU l = f :: formU f l := by
 unfold bestU
 have hs : ∀ a b : List Int, shorter a b = a ∨ shorter a b = b := fun a b => by unfold shorter; split <;> simp
 rcases hs (shorter (0 :: formU 0 l) (1 :: formU 1 l)) (2 :: formU 2 l) with h | h
 ·rcases hs (0 :: formU 0 l) (1 :: formU 1 l) with h2 | h2
  ·exact ⟨0, .inl rfl, by rw [h, h2]⟩
  ·exact ⟨1, .inr (.inl rfl), by rw [h, h2]⟩
 ·exact ⟨2, .inr (.inr rfl), h⟩
theorem putU_bytes {n : Int} (h : 0 ≤ n) : Bytes (putU n) := putF_byte 10 n h
theorem zig_nn (n : Int) : 0 ≤ zig n := by unfold zig; split <;> omega
theorem bytes_app {a b : List Int} (ha : Bytes a) (hb : Bytes b) : Bytes (a ++ b) := fun x hx => (List.mem_append.1 hx).elim (ha x) (hb x)
theorem encZ_bytes (l : List Int) : Bytes (encZ l) := by
 intro x hx
 obtain ⟨y, _, hy⟩ := List.mem_flatMap.1 hx
 exact putU_bytes (zig_nn y) x hy
theorem encS_bytes : ∀ (last : Int) (l : List Int), Bytes (encS last l)
 | _, [] => by intro x hx; cases hx
 | last, x :: r => bytes_app (putU_bytes (zig_nn _)) (encS_bytes x r)
theorem encR_bytes (l : List Int) : Bytes (encR l) := by
 refine bytes_app (putU_bytes (by omega)) ?_
 intro x hx
 obtain ⟨y, hm, hy⟩ := List.mem_flatMap.1 hx
 have := (runT_mem none l y hm).1
 exact bytes_app (putU_bytes (by omega)) (putU_bytes (zig_nn _)) x hy
theorem formU_bytes (f : Int) (l : List Int) : Bytes (formU f l) := by
 unfold formU
 split
 ·exact encZ_bytes l
 ·split
  ·exact encS_bytes 0 l
  ·exact encR_bytes l
theorem bestU_bytes (l : List Int) : Bytes (bestU l) := by
 obtain ⟨f, hf, e⟩ := bestU_form l
 rw [e]
 intro x hx
 rcases List.mem_cons.1 hx with rfl | hx
 ·omega
 ·exact formU_bytes f l x hx
theorem rowU_bytes (l : List Int) : Bytes (rowU l) := by
 unfold rowU
 refine bytes_app (putU_bytes (by omega)) ?_
 split
 ·intro x hx; cases hx
 ·exact bestU_bytes l
section
variable {S : List Nat} {w0 w : World} {its : List Thing}
end
end Go.Proofs.Ythmbjlpgbkkjjaa.FP
end

section
namespace Go.Proofs.Ythmbjlpgbkkjjaa.FW
open F
open Go Go.Den Go.Proofs
open FI (PoolM tPool)
open FT (TabM tTab Ent entV ent atI keyEnt iv)
structure WA where
 ks : KD
 pool : PoolM
 row : Ent → Option PL
structure WA.Ok (a : WA) : Prop where
 pok2 : a.pool.Ok2
 most : a.pool.most = 200
 may : mayOk a.ks
 liv : ∀ e : Ent, (a.row e).isSome = a.pool.is e.1 e.2
 rng : ∀ (e : Ent) (p : PL), a.row e = some p → FP.R64 (flat p)
def WA.m (a : WA) : WM := ⟨a.ks, a.pool, fun e => (a.row e).map setI, []⟩
def WH.tabs (q : WH) : List (Int × TabM) := q.T.map fun x => (x.1, x.2.2)
def tW (b : Nat) (a : WA) : Thing := tEx fun T : List (Int × TabM) => tAnd (a.Ok ∧ Tabs a.ks a.row a.m.sets T) (tWorld b ⟨a.ks, a.pool, a.m.sets, T⟩)
theorem WA.Ok.pok {a : WA} (h : a.Ok) : a.pool.Ok := h.pok2.toOk
theorem WA.Ok.len {a : WA} (h : a.Ok) : 1 ≤ a.ks.length ∧ a.ks.length ≤ 12 := ⟨h.may.2.1, h.may.2.2.1⟩
theorem WA.Ok.four {a : WA} (h : a.Ok) : ∀ x ∈ a.ks, x.2.length ≤ 4 := fun x hx => (h.may.1 x hx).1
theorem pool_few {m : PoolM} (hm : m.Ok) {L : List Ent} (hnd : L.Nodup) (h : ∀ x ∈ L, m.is x.1 x.2 = true) : L.length ≤ 200 := by
 have hin : ∀ x ∈ L, 0 ≤ x.1 ∧ x.1 < m.gens.length ∧ m.gen x.1 = x.2 := fun x hx => by
  obtain ⟨h1, h2⟩ := PoolM.is_iff.1 (h x hx)
  have := FI.lives_lt' hm h1
  exact ⟨this.1, this.2, h2⟩
 have := nodup_lt m.gens.length (L.map fun x => x.1.toNat) (by
  rw [List.nodup_iff_pairwise_ne, List.pairwise_map]
  refine List.Pairwise.imp_of_mem (fun {a b} ha hb hne he => hne ?_) (List.nodup_iff_pairwise_ne.1 hnd)
  have h1 := hin a ha
  have h2 := hin b hb
  have : a.1 = b.1 := by omega
  exact Prod.ext this (by rw [← h1.2.2, ← h2.2.2, this])) (fun x hx => by
  obtain ⟨y, hy, rfl⟩ := List.mem_map.1 hx
  have := hin y hy
  omega)
 rw [List.length_map] at this
 have := hm.len200
 omega
section
variable {S : List Nat} {w0 w : World} {its : List Thing}
theorem W_open {b : Nat} {a : WA} {rest : List Thing} (h : Hp S w0 w (tW b a :: rest)) :
  ∃ q : WH, a.Ok ∧ Tabs a.ks a.row a.m.sets q.tabs ∧ kinds q.xs = a.ks ∧ Hp S w0 w (q.all b a.m tEmp ++ rest) := by
 obtain ⟨T, h⟩ := h.openEx (i := 0) rfl (fun _ => rfl)
 obtain ⟨⟨hok, ht⟩, h⟩ := h.openAnd (i := 0) rfl rfl
 obtain ⟨q, hq, h⟩ := w_open h (i := 0) rfl
 refine ⟨q, hok, ?_, hq.1, ?_⟩
 ·have : q.tabs = T := hq.2
  rw [this]; exact ht
 have h : Hp S w0 w ((q.blk b :: rest) ++ q.rest ⟨a.ks, a.pool, a.m.sets, T⟩) := h
 have h := h.comm
 have h : Hp S w0 w (q.rest ⟨a.ks, a.pool, a.m.sets, T⟩ ++ [q.blk b] ++ rest) := by rw [List.append_assoc]; exact h
 have h := h.rot.emp1
 have h : Hp S w0 w ([tEmp] ++ [q.blk b] ++ (q.rest ⟨a.ks, a.pool, a.m.sets, T⟩ ++ rest)) := by
  simp only [List.cons_append, List.nil_append, List.append_assoc] at h ⊢
  exact h
 exact h.rot
theorem W_shut {b : Nat} {a : WA} {m : WM} {q : WH} {u : Thing} {rest : List Thing} (hok : a.Ok) (ht : Tabs a.ks a.row a.m.sets q.tabs) (hk : kinds q.xs = a.ks) (hp : m.pool = a.pool) (hs : m.sets = a.m.sets) (h : Hp S w0 w (q.all b m u ++ rest)) : Hp S w0 w (tW b a :: rest) := by
 have h : Hp S w0 w (q.blk b :: u :: (q.rest m ++ rest)) := h
 have h := h.drop1
 have e : q.rest m = q.rest ⟨a.ks, a.pool, a.m.sets, q.tabs⟩ := by
  unfold WH.rest
  rw [hp, hs]
 rw [e] at h
 have h := w_close (m := ⟨a.ks, a.pool, a.m.sets, q.tabs⟩) ⟨hk, rfl⟩ h
 have h := h.putAnd (i := 0) (p := a.Ok ∧ Tabs a.ks a.row a.m.sets q.tabs) ⟨hok, ht⟩ rfl rfl
 exact h.putEx (i := 0) (f := fun T : List (Int × TabM) => tAnd (a.Ok ∧ Tabs a.ks a.row a.m.sets T) (tWorld b ⟨a.ks, a.pool, a.m.sets, T⟩)) q.tabs rfl rfl
theorem leave_W {b : Nat} {m : WM} {q : WH} {u : Thing} {more : List Thing} (h : Hp S w0 w (q.all b m u ++ more)) {row : Ent → Option PL} {e : Ent} {p : PL} (ht : Tabs (kinds q.xs) row m.sets q.tabs) (hr : row e = some p) {K : Sl → World → Prop}
  (hK : ∀ s T' w', Tabs (kinds q.xs) (upd1 row e none) (upd1 m.sets e none) ({ q with T := T' } : WH).tabs → Hp S w0 w' (({ q with T := T' } : WH).all b { m with sets := upd1 m.sets e none } u ++ more ++ [tSl s 2 1 iv (flat p)]) → K s w') : c73 (some ⟨b, 0, none⟩) e.1 e.2 w K := by
 obtain ⟨k, r, t, hk, tk, hat, hrr⟩ := ht.find hr
 unfold WH.tabs at hk
 rw [List.getElem?_map] at hk
 obtain ⟨⟨s0, tb, t0⟩, hkT, he⟩ := Option.map_eq_some_iff.1 hk
 obtain ⟨rfl, rfl⟩ := Prod.mk.inj he
 have hset : m.sets e = some (setI p) := by rw [ht.sets]; show (row e).map setI = _; rw [hr]; rfl
 refine leave_spec h (e := e) (set := setI p) (k := k) (tb := tb) (row := r) (t := t0) (vals := flat p) hset (by have := ht.nd; unfold WH.tabs at this; rw [List.map_map] at this; exact this) hkT tk hat hrr fun s T' w' hT h => hK s T' w' ?_ h
 refine ht.leave hr (k := k) (r := r) (t := t0) (by unfold WH.tabs; rw [List.getElem?_map, hkT]; rfl) hrr ?_
 rcases hT with ⟨hz, rfl⟩ | ⟨hz, rfl⟩
 ·exact .inl ⟨hz, by unfold WH.tabs; rw [List.map_set]⟩
 ·exact .inr ⟨hz, by unfold WH.tabs; rw [map_eraseIdx']⟩
theorem enter_W {b : Nat} {m : WM} {q : WH} {u : Thing} {more : List Thing} (h : Hp S w0 w (q.all b m u ++ more)) {row : Ent → Option PL} {e : Ent} {p : PL} (ht : Tabs (kinds q.xs) row m.sets q.tabs) (hm : mayOk (kinds q.xs)) (hr : row e = none) (hp : p.fit (kinds q.xs))
  (hb : ∀ L : List Ent, L.Nodup → (∀ x ∈ L, (row x).isSome = true) → L.length < 200) {vs : Sl} (hu : Hp.Reads u vs 1 iv (flat p)) {K : World → Prop}
  (hK : ∀ T' w', Tabs (kinds q.xs) (upd1 row e (some p)) (upd1 m.sets e (some (setI p))) ({ q with T := T' } : WH).tabs → Hp S w0 w' (({ q with T := T' } : WH).all b { m with sets := upd1 m.sets e (some (setI p)) } u ++ more) → K w') : c71 (some ⟨b, 0, none⟩) e.1 e.2 (setI p) vs w K := by
 have hkl : (kinds q.xs).length = q.xs.length := by simp [kinds]
 have h12 : q.xs.length ≤ 12 := by have := hm.2.2.1; omega
 have h4k : ∀ x ∈ kinds q.xs, x.2.length ≤ 4 := fun x hx => (hm.1 x hx).1
 have h4 : ∀ x ∈ q.xs, x.2.2.length ≤ 4 := fun x hx => h4k (x.1, x.2.2) (List.mem_map.2 ⟨x, hx, rfl⟩)
 have hpl : p.length ≤ 12 := by rw [hp.1]; omega
 have hs1 := setI_lt hpl
 refine enter_spec h h12 h4 (fun x hx => (ht.tok (x.1, x.2.2) (List.mem_map.2 ⟨x, hx, rfl⟩)).1) (setI_nn p) (by omega) hu fun T1 k tb t w' hT hk h => ?_
 have hT1 : T1.map (fun x => (x.1, x.2.2)) = q.tabs ∨ (T1.map (fun x => (x.1, x.2.2)) = q.tabs ++ [(setI p, ⟨atF (kinds q.xs) (setI p) (kinds q.xs).length, []⟩)] ∧ ∀ x ∈ q.tabs, x.1 ≠ setI p) := by
  rcases hT with rfl | ⟨rfl, hno⟩
  ·exact .inl rfl
  ·refine .inr ⟨by unfold WH.tabs; rw [List.map_append, hkl]; rfl, fun x hx => ?_⟩
   obtain ⟨y, hy, rfl⟩ := List.mem_map.1 hx
   exact hno y hy
 obtain ⟨e1, e2⟩ := ht.enter hr hp hb h4k (by omega) hT1 (k := k) (t := t) (by rw [List.getElem?_map, hk]; rfl)
 rw [e1] at h
 refine hK _ w' ?_ h
 unfold WH.tabs
 rw [List.map_set]
 exact e2
def WA.despawn (a : WA) (e : Ent) : WA × Int := if a.pool.is e.1 e.2 = true then (⟨a.ks, a.pool.give e.1 e.2, upd1 a.row e none⟩, 0) else (a, 41)
theorem upd_sets (row : Ent → Option PL) (e : Ent) (o : Option PL) : (fun x => (upd1 row e o x).map setI) = upd1 (fun x => (row x).map setI) e (o.map setI) := by
 funext x
 unfold upd1
 split <;> rfl
theorem give_liv {m : PoolM} (hm : m.Ok) {e x : Ent} (he : m.is e.1 e.2 = true) : (m.give e.1 e.2).is x.1 x.2 = if x = e then false else m.is x.1 x.2 := by
 obtain ⟨h1, h2⟩ := PoolM.is_iff.1 he
 obtain ⟨a1, a2⟩ := FI.lives_lt' hm h1
 have hl := hm.len
 unfold PoolM.is
 rw [PoolM.lives_give m a1 (by omega), PoolM.gen_give]
 by_cases hx : x = e
 ·subst hx; simp
 ·rw [if_neg hx]
  by_cases h0 : x.1 = e.1
  ·rw [if_pos h0]
   have : m.gen x.1 ≠ x.2 := fun hg => hx (Prod.ext h0 (by rw [← hg, h0, h2]))
   simp [this]
  ·rw [if_neg h0]
theorem flat_rng {p : PL} (h : FP.R64 (flat p)) (i : Nat) {v : List Int} (hv : FP.R64 v) : FP.R64 (flat (p.set i (some v))) := by
 intro x hx
 obtain ⟨o, ho, hx⟩ := List.mem_flatMap.1 hx
 rcases List.mem_or_eq_of_mem_set ho with ho | rfl
 ·exact h x (List.mem_flatMap.2 ⟨o, ho, hx⟩)
 ·exact hv x hx
theorem flat_rngOff {p : PL} (h : FP.R64 (flat p)) (i : Nat) : FP.R64 (flat (p.set i none)) := by
 intro x hx
 obtain ⟨o, ho, hx⟩ := List.mem_flatMap.1 hx
 rcases List.mem_or_eq_of_mem_set ho with ho | rfl
 ·exact h x (List.mem_flatMap.2 ⟨o, ho, hx⟩)
 ·cases hx
theorem WA.despawn_ok {a : WA} (h : a.Ok) (e : Ent) : (a.despawn e).1.Ok := by
 unfold WA.despawn
 split
 ·rename_i he
  refine ⟨by have := (FI.giveM_ok h.pok2 e.1 e.2).1; unfold PoolM.giveM at this; rw [if_pos he] at this; exact this, h.most, h.may, fun x => ?_, fun x p hx => ?_⟩
  ·show (upd1 a.row e none x).isSome = _
   rw [give_liv h.pok he]
   unfold upd1
   split
   ·rfl
   ·exact h.liv x
  ·have hx : upd1 a.row e none x = some p := hx
   unfold upd1 at hx
   split at hx
   ·cases hx
   ·exact h.rng x p hx
 ·exact h
set_option maxHeartbeats 1000000 in
theorem Despawn_W (h : Hp S w0 w its) (i : Nat) {b : Nat} {a : WA} (hi : its[i]? = some (tW b a)) {e : Ent} {K : Int → World → Prop} (hK : ∀ w', Hp S w0 w' (its.set i (tW b (a.despawn e).1)) → K (a.despawn e).2 w') : c50 (some ⟨b, 0, none⟩) e.1 e.2 w K := by
 refine c50_of ?_
 unfold f50
 obtain ⟨O, h1, back⟩ := h.f1 hi rfl
 clear h
 obtain ⟨q, hok, ht, hk, h⟩ := W_open h1
 have hok' := WA.despawn_ok hok e
 refine h.nw (c := [_, _]) fun eb w1 h => ?_
 rw [List.append_nil] at h
 have h : Hp O w w1 (q.all b a.m tEmp ++ [tBlk eb 33 [.int .i64 e.1, .int .i64 e.2]]) := h
 refine h.dr fun w2 h => ?_
 refine nns ?_
 refine h.ld (n := 1) (k := .p) (x := some ⟨q.pb, 0, none⟩) 0 rfl rfl ?_
 refine h.ld0 (k := .i .i64) (x := e.1) 8 rfl rfl ?_
 refine h.ld (n := 1) (k := .i .i64) (x := e.2) 8 rfl rfl ?_
 refine FI.Give_h h 4 (m := a.pool) hok.pok rfl fun w3 h => ?_
 have hl := hok.liv e
 have fin : ∀ {w' : World} {a' : WA}, Hp O w w' [tW b a'] → Hp S w0 w' (its.set i (tW b a')) := fun {w' a'} h => by
  have := back (rest := []) rfl rfl h
  rwa [List.append_nil] at this
 unfold PoolM.giveM at h ⊢
 by_cases he : a.pool.is e.1 e.2 = true
 ·simp only [if_pos he] at h ⊢
  have e0 : a.despawn e = (⟨a.ks, a.pool.give e.1 e.2, upd1 a.row e none⟩, 0) := by unfold WA.despawn; rw [if_pos he]
  rw [e0] at hK hok'
  refine ifF (by simp) ?_
  have h : Hp O w w3 (q.all b { a.m with pool := a.pool.give e.1 e.2 } tEmp ++ [tBlk eb 33 [.int .i64 e.1, .int .i64 e.2]]) := h
  refine h.ld0 (k := .i .i64) (x := e.1) 8 rfl rfl ?_
  refine h.ld (n := 1) (k := .i .i64) (x := e.2) 8 rfl rfl ?_
  rw [he] at hl
  obtain ⟨p, hr⟩ := Option.isSome_iff_exists.1 hl
  refine leave_W h (row := a.row) (p := p) (by rw [hk]; exact ht) hr fun s T' w4 ht' h => hK w4 (fin ?_)
  refine W_shut (rest := []) (u := tEmp) (m := { a.m with pool := a.pool.give e.1 e.2, sets := upd1 a.m.sets e none }) (q := { q with T := T' }) hok' ?_ hk rfl ?_ ?_
  ·show Tabs a.ks (upd1 a.row e none) (fun x => (upd1 a.row e none x).map setI) _
   rw [upd_sets, ← hk]
   exact ht'
  ·exact (upd_sets a.row e none).symm
  ·have h := h.front.front
   rw [List.append_nil]; exact h
 ·simp only [if_neg he] at h ⊢
  have e0 : a.despawn e = (a, 41) := by unfold WA.despawn; rw [if_neg he]
  rw [e0] at hK
  refine ifT rfl (hK w3 (fin ?_))
  refine W_shut (rest := []) (u := tEmp) (m := a.m) (q := q) hok ht hk rfl rfl ?_
  have h : Hp O w w3 (q.all b a.m tEmp ++ [tBlk eb 33 [.int .i64 e.1, .int .i64 e.2]]) := h
  rw [List.append_nil]; exact h.front
end
open FT (iv_len)
section
variable {S : List Nat} {w0 w : World} {its : List Thing}
theorem ro_tab (h : Hp S w0 w its) (i : Nat) {T : List TT} {k tb : Nat} {set : Int} {t : TabM} (hi : (its[i]?).map Thing.holds = some (tAll (T.map tT)).holds) (hk : T[k]? = some (set, tb, t)) : Hp [] w w [(tTab tb t).ro] := by
 have h1 := h.ro1 hi
 obtain ⟨O, hO, put⟩ := h1.roSee (i := 0) rfl
 obtain ⟨O1, O2, g1, g2, g3, g4⟩ := tAll_pick (k := k) (t := tT (set, tb, t)) (by rw [List.getElem?_map, hk]; rfl) hO
 exact (put g1 (fun x hx => (g4 x).2 (.inl hx))).sel1 1 rfl
theorem tFind (h : Hp S w0 w its) (i : Nat) {T : List TT} {k tb : Nat} {set : Int} {t : TabM} (hi : (its[i]?).map Thing.holds = some (tAll (T.map tT)).holds) (hk : T[k]? = some (set, tb, t)) {e : Ent} {r : Nat} (hat : atI t e = some (r : Int)) {K : Int → World → Prop}
  (hK : ∀ w', Hp S w0 w' its → K r w') : c77 (some ⟨tb, 0, none⟩) e.1 e.2 w K :=
 FT.Find_spec (ro_tab h i hi hk) 0 rfl fun w' h' => by
  rw [hat]
  exact hK w' (by have := h.r0 (rest := []) rfl (h'.trim 0); rwa [List.append_nil] at this)
theorem tRow (h : Hp S w0 w its) (i : Nat) {T : List TT} {k tb : Nat} {set : Int} {t : TabM} (hok : t.Ok) (hi : (its[i]?).map Thing.holds = some (tAll (T.map tT)).holds) (hk : T[k]? = some (set, tb, t)) {e : Ent} {vals : List Int} {r : Nat} (hrr : t.rows[r]? = some (e, vals)) {K : Int → Int → Sl → Int → World → Prop}
  (hK : ∀ s w', Hp S w0 w' (its ++ [tSl s 2 1 iv vals]) → K e.1 e.2 s 0 w') : c76 (some ⟨tb, 0, none⟩) (r : Int) w K :=
 FT.Row_spec (ro_tab h i hi hk) 0 hok rfl fun s w' => ⟨fun x hx0 hx h' => by
  have hx : t.rows[r]? = some x := hx
  rw [hrr] at hx
  obtain rfl := Option.some.inj hx
  exact hK s w' (h.r0 (rest := [tSl s 2 1 iv vals]) rfl (h'.sel1 1 rfl)), fun hno => absurd ⟨by omega, by have := (List.getElem?_eq_some_iff.1 hrr).1; omega⟩ hno⟩
theorem CloneR_spec (h : Hp S w0 w its) (i : Nat) {u : Thing} {s : Sl} {L : List Int} (hi : its[i]? = some u) (hu : Hp.Reads u s 1 iv L) (hl : L.length ≤ 17592186044416) {K : Sl → World → Prop} (hK : ∀ r w', Hp S w0 w' (its ++ [tSl r 2 1 iv L]) → K r w') : c41 s w K := by
 refine c41_of ?_
 unfold f41
 obtain ⟨inf, q1, q2, q3, q4⟩ := FT.inf2
 have hlt := (List.getElem?_eq_some_iff.1 hi).1
 have hsl := h.lenU i (by rw [hi]; rfl) hu
 by_cases hn : s.a.isNone = true
 ·refine ifT hn (hK _ _ ?_)
  have : L = [] := by
   obtain ⟨O, hO⟩ := h.see hi
   obtain ⟨o, hR⟩ := hu.rd hO
   exact hR.isNil (by simpa using hn)
  rw [this]; exact h.nil 2 1 iv
 ·refine ifF hn ?_
  refine h.nw (c := []) fun b w1 h => ?_
  have h := h.blkSl (i := its.length) (m := 0) (l := ([] : List Int)) (f := iv) (n := 1) List.getElem?_concat_length rfl rfl iv_len
  rw [set_last] at h
  refine h.appS its.length i (s := ⟨some ⟨b, 0, none⟩, 0, 0⟩) (s2 := s) List.getElem?_concat_length (by rw [List.getElem?_append_left hlt]; exact hi) hu iv_len FT.und34 q1 q3 q2 rfl (by simp [iv, Value.oneCell']) (by rw [q4]; show (0 + s.len) * 8 ≤ _; omega) (by show 0 + s.len ≤ _; omega) fun r w2 h _ _ => ?_
  rw [set_last] at h
  exact hK r w2 h
theorem q_cap (h : Hp S w0 w its) (i : Nat) {s : Sl} {l : List Int} (hi : its[i]? = some (tSl s 2 1 iv l)) : l.length = s.len ∧ s.len ≤ s.cap := ⟨h.len i (by rw [hi]; rfl), h.cap i (by rw [hi]; rfl)⟩
set_option maxHeartbeats 1000000 in
theorem part_W {b : Nat} {m : WM} {q : WH} {u : Thing} {more : List Thing} (h : Hp S w0 w (q.all b m u ++ more)) {row : Ent → Option PL} {e : Ent} {p : PL} (ht : Tabs (kinds q.xs) row m.sets q.tabs) (hm : mayOk (kinds q.xs)) (hr : row e = some p) {i : Nat} {v : List Int} (hp : p[i]? = some (some v)) {K : Int → Sl → World → Prop}
  (hK : ∀ s w', Hp S w0 w' (q.all b m u ++ more ++ [tSl s 2 1 iv v]) → K ((i + 1 : Nat) : Int) s w') : c54 (some ⟨b, 0, none⟩) e.1 e.2 (setI p) ((i + 1 : Nat) : Int) w K := by
 refine c54_of ?_
 unfold f54
 obtain ⟨inf', r1, r2, r3, r4⟩ := inf121
 have hkl : (kinds q.xs).length = q.xs.length := by simp [kinds]
 have h12 : q.xs.length ≤ 12 := by have := hm.2.2.1; omega
 have h4k : ∀ x ∈ kinds q.xs, x.2.length ≤ 4 := fun x hx => (hm.1 x hx).1
 have h4 : ∀ x ∈ q.xs, x.2.2.length ≤ 4 := fun x hx => h4k (x.1, x.2.2) (List.mem_map.2 ⟨x, hx, rfl⟩)
 have hfit := ht.fit e p hr
 have hil := (List.getElem?_eq_some_iff.1 hp).1
 have hs1 := setI_lt (show p.length ≤ 12 by rw [hfit.1]; omega)
 obtain ⟨k, r, t, hk, tk, hat, hrr⟩ := ht.find hr
 unfold WH.tabs at hk
 rw [List.getElem?_map] at hk
 obtain ⟨⟨s0, tb, t0⟩, hkT, he⟩ := Option.map_eq_some_iff.1 hk
 obtain ⟨rfl, rfl⟩ := Prod.mk.inj he
 have hnd : (q.T.map (·.1)).Nodup := by have := ht.nd; unfold WH.tabs at this; rw [List.map_map] at this; exact this
 have hkd : (kinds q.xs)[i]? = some ((kinds q.xs)[i]'(by rw [← hfit.1]; exact hil)) := List.getElem?_eq_getElem _
 have hvl := hfit.2 i v _ hp hkd
 refine h.nw (c := [_, _]) fun eb w1 h => ?_
 have h := h.up
 refine h.nw (c := [_, _]) fun ab w2 h => ?_
 have h := h.up
 refine nns ?_
 refine h.ld (n := 3) (k := .m) (x := some q.mt) 0 rfl rfl ?_
 refine h.lookup1 (kd := .p) (vk := fun tb => some ⟨tb, 0, none⟩) (z := (none : Option Addr)) (ek := Value.int .i64) (ev := pv) (g := tptr q.T) (k := setI p) 6 rfl rfl und99 key3 r1 r2 (fun _ => rfl) ?_
 rw [tptr_at hnd hkT]
 refine h.ld0 (k := .i .i64) (x := e.1) 9 rfl rfl ?_
 refine h.ld (n := 1) (k := .i .i64) (x := e.2) 9 rfl rfl ?_
 refine tFind h 7 rfl hkT hat fun w3 h => ?_
 refine tRow h 7 tk rfl hkT hrr fun s w4 h => ?_
 have h := h.up
 refine h.nw (c := [_, _]) fun xb w5 h => ?_
 have h := h.up
 refine h.st0 8 rfl (by simp) rfl fun w6 h => ?_
 refine h.st (n := 1) 8 rfl (by simp) rfl fun w7 h => ?_
 have h : Hp S w0 w7 (q.all b m u ++ (tBlk xb 33 [.int .i64 e.1, .int .i64 e.2] :: tSl s 2 1 iv (flat p) :: tBlk ab 62 [.int .i64 0, .slice none 0 0] :: tBlk eb 33 [.int .i64 e.1, .int .i64 e.2] :: more)) := h
 refine at_spec h 0 2 3 (cells := [_, _, _]) rfl rfl rfl h12 h4 (setI_nn p) (by omega) (q := i) (by rw [hfit.1, hkl] at hil; omega) ?_
 have hil12 : i < 12 := by rw [hfit.1] at hil; omega
 refine fields_spec h 0 2 3 (cells := [_, _, _]) rfl rfl rfl (by omega) (by omega) (by omega) ?_
 have hfl : fl (kinds q.xs) ((i + 1 : Nat) : Int) = some v.length := by
  unfold fl
  rw [if_pos (by omega), show (((i + 1 : Nat) : Int) - 1).toNat = i by omega, hkd, hvl]; rfl
 rw [hfl]
 dsimp only
 have hsl := q_cap h 9 rfl
 have hall := hfit.all
 have hle := hfit.at (q := i) (by omega)
 have hgt := hfit.get hp
 have hsum : atF (kinds q.xs) (setI p) i + v.length ≤ s.len := by
  rw [← hsl.1, flat_split hp, hle]; simp
 have hle2 := atF_le h4k (setI p) i
 have hv4 := h4k _ (List.mem_of_getElem? hkd)
 rw [wr64 (n := (atF (kinds q.xs) (setI p) i : Int) + (v.length : Int)) (by omega) (by omega)]
 refine Hp.cutv (s := s) (u := tSl s 2 1 iv (flat p)) (l := flat p) Hp.rdSl hsl.1 iv_len (by omega) (by omega) (by omega) (Int.le_refl _) (by omega) fun s2 hs2 _ _ => ?_
 have e1 : ((flat p).take ((atF (kinds q.xs) (setI p) i : Int) + (v.length : Int)).toNat).drop ((atF (kinds q.xs) (setI p) i : Nat) : Int).toNat = v := by
  rw [Int.toNat_natCast, show ((atF (kinds q.xs) (setI p) i : Int) + (v.length : Int)).toNat = atF (kinds q.xs) (setI p) i + v.length by omega]
  exact hgt
 rw [e1] at hs2
 refine CloneR_spec h 9 rfl hs2 (by omega) fun s3 w8 h => ?_
 refine h.st0 10 rfl (by simp) rfl fun w9 h => ?_
 refine h.st (n := 1) 10 rfl (by simp) rfl fun w10 h => ?_
 have h : Hp S w0 w10 (q.all b m u ++ [tBlk xb 33 [.int .i64 e.1, .int .i64 e.2], tSl s 2 1 iv (flat p), tBlk ab 62 [.int .i64 ((i + 1 : Nat) : Int), .slice s3.a s3.len s3.cap], tBlk eb 33 [.int .i64 e.1, .int .i64 e.2]] ++ (more ++ [tSl s3 2 1 iv v])) := h
 refine h.ld0 (k := .i .i64) (x := ((i + 1 : Nat) : Int)) 10 rfl rfl ?_
 refine h.ld (n := 1) (k := .sl) (x := s3) 10 rfl rfl ?_
 have h := h.cutMid
 rw [← List.append_assoc] at h
 exact hK s3 w10 h
theorem fl_at {ks : KD} {kind : Int} {n : Nat} (hf : fl ks kind = some n) : ∃ (i : Nat) (k : ByteArray × List ByteArray), kind = ((i + 1 : Nat) : Int) ∧ ks[i]? = some k ∧ k.2.length = n := by
 unfold fl at hf
 by_cases h1 : 1 ≤ kind
 ·rw [if_pos h1] at hf
  obtain ⟨k, hk, rfl⟩ := Option.map_eq_some_iff.1 hf
  exact ⟨(kind - 1).toNat, k, by omega, hk, rfl⟩
 ·rw [if_neg h1] at hf; cases hf
theorem asked_W {b : Nat} {a : WA} {q : WH} {u : Thing} {more : List Thing} (h : Hp S w0 w (q.all b a.m u ++ more)) (hok : a.Ok) (ht : Tabs a.ks a.row a.m.sets q.tabs) (hk : kinds q.xs = a.ks) {e : Ent} {kind : Int} (k1 : -9223372036854775808 ≤ kind) (k2 : kind ≤ 9223372036854775807) {K : Int → Bool → Int → Int → World → Prop}
  (hK : ∀ w', Hp S w0 w' (q.all b a.m u ++ more) → (a.row e = none → K 0 false 0 41 w') ∧ (∀ p, a.row e = some p → fl a.ks kind = none → K 0 false 0 60 w') ∧ (∀ p i k, a.row e = some p → kind = ((i + 1 : Nat) : Int) → a.ks[i]? = some k → K (setI p) (p.getD i none).isSome (k.2.length : Nat) 0 w')) :
  c74 (some ⟨b, 0, none⟩) e.1 e.2 kind w K := by
 have hkl : (kinds q.xs).length = q.xs.length := by simp [kinds]
 have hl := hok.len
 have hlv := hok.liv e
 refine asked_spec h hok.pok (by rw [← hkl, hk]; omega) (fun s hs => ?_) k1 k2 fun w' h => ⟨fun hno => ?_, fun his hf => ?_, fun n his hf => ?_⟩
 ·obtain ⟨p, hp, rfl⟩ := Option.map_eq_some_iff.1 hs
  have := setI_lt (show p.length ≤ 12 by rw [(ht.fit e p hp).1]; omega)
  exact ⟨setI_nn p, by omega⟩
 ·refine (hK w' h).1 ?_
  have hno : a.pool.is e.1 e.2 = false := hno
  rw [hno] at hlv
  cases hr : a.row e with
  | none => rfl
  | some p => rw [hr] at hlv; cases hlv
 ·have his : a.pool.is e.1 e.2 = true := his
  rw [his] at hlv
  obtain ⟨p, hp⟩ := Option.isSome_iff_exists.1 hlv
  exact (hK w' h).2.1 p hp (by rw [← hk]; exact hf)
 ·have his : a.pool.is e.1 e.2 = true := his
  rw [his] at hlv
  obtain ⟨p, hp⟩ := Option.isSome_iff_exists.1 hlv
  rw [hk] at hf
  obtain ⟨i, k, rfl, hki, rfl⟩ := fl_at hf
  have := (hK w' h).2.2 p i k hp rfl hki
  have e1 : (a.m.sets e).getD 0 = setI p := by show ((a.row e).map setI).getD 0 = _; rw [hp]; rfl
  rw [e1, Int.toNat_natCast, bit_setI]
  have e2 : (((if (p.getD i none).isSome = true then 1 else 0) : Int) == 1) = (p.getD i none).isSome := by
   cases (p.getD i none).isSome <;> rfl
  rw [e2]
  exact this
def WA.get (a : WA) (e : Ent) (kind : Int) : List Int × Int := match a.row e with
 | none => ([], 41)
 | some p => match fl a.ks kind with
  | none => ([], 60)
  | some _ => match p.getD (kind - 1).toNat none with
   | none => ([], 62)
   | some v => (v, 0)
theorem W_fin {O : List Nat} {b : Nat} {a : WA} {w' : World} {rest : List Thing} {i : Nat} (hi : its[i]? = some (tW b a)) (back : ∀ {w' : World} {t' : Thing} {rest : List Thing}, t'.own = true → Hp.owns rest = true → Hp O w w' (t' :: rest) → Hp S w0 w' (its.set i t' ++ rest)) (ho : Hp.owns rest = true) (h : Hp O w w' (tW b a :: rest)) : Hp S w0 w' (its ++ rest) := by
 have := back rfl ho h
 rwa [Hp.set_same hi] at this
theorem Lives_W (h : Hp S w0 w its) (i : Nat) {b : Nat} {a : WA} (hi : its[i]? = some (tW b a)) {e : Ent} {K : Bool → World → Prop} (hK : ∀ w', Hp S w0 w' its → K (a.row e).isSome w') : c18 (some ⟨b, 0, none⟩) e.1 e.2 w K := by
 obtain ⟨O, h1, back⟩ := h.f1 hi rfl
 clear h
 obtain ⟨q, hok, ht, hk, h⟩ := W_open h1
 refine Lives_spec h hok.pok fun w' h => ?_
 have := W_fin hi back (rest := []) rfl (W_shut (rest := []) (m := a.m) hok ht hk rfl rfl h)
 rw [List.append_nil] at this
 have := hK w' this
 rw [hok.liv e] at this
 exact this
end
open FT (ent_len)
theorem und36 : Try.prog.underlying 35 = some (.slice 62) := by kernel_rfl
theorem und56 : Try.prog.underlying 51 = some (.slice 92) := by kernel_rfl
theorem inf40 : ∃ inf : TypeInfo, Try.prog.info? 62 = some inf ∧ inf.zero = some (.agg #[.int .i64 0, .slice none 0 0]) ∧ inf.size = 2 ∧ inf.bytes = 32 := infoP (by kernel_rfl)
theorem inf65 : ∃ inf : TypeInfo, Try.prog.info? 92 = some inf ∧ inf.zero = some (.agg #[.int .i64 0, .int .i64 0, .slice none 0 0]) ∧ inf.size = 3 ∧ inf.bytes = 40 := infoP (by kernel_rfl)
abbrev Part := Int × List Int
abbrev PV := Int × Sl × List Int
abbrev pdv (x : PV) : List Value := [.int .i64 x.1, .slice x.2.1.a x.2.1.len x.2.1.cap]
theorem pdv_len (x : PV) : (pdv x).length = 2 := rfl
def tV (x : PV) : Thing := tSl x.2.1 2 1 iv x.2.2
def pvis (x : PV) : Part := (x.1, x.2.2)
def tParts (s : Sl) (l : List Part) : Thing := tNest 62 2 pdv tV pvis s l
abbrev RowT := Ent × List Part
abbrev RV := Ent × Sl × List Part
abbrev rdv (x : RV) : List Value := [.int .i64 x.1.1, .int .i64 x.1.2, .slice x.2.1.a x.2.1.len x.2.1.cap]
theorem rdv_len (x : RV) : (rdv x).length = 3 := rfl
def tPs (x : RV) : Thing := tParts x.2.1 x.2.2
def rvis (x : RV) : RowT := (x.1, x.2.2)
def tRows (s : Sl) (l : List RowT) : Thing := tNest 92 3 rdv tPs rvis s l
def partsU (p : PL) : Nat → List Part
 | 0 => []
 | k + 1 => partsU p k ++ match p.getD k none with
  | some v => [(((k + 1 : Nat) : Int), v)]
  | none => []
def partsOf (p : PL) : List Part := partsU p p.length
theorem partsU_len (p : PL) : ∀ k, (partsU p k).length ≤ k
 | 0 => by simp [partsU]
 | k + 1 => by
  have := partsU_len p k
  rw [partsU, List.length_append]
  split <;> simp <;> omega
def WA.all (a : WA) : List Ent := a.pool.allU a.pool.gens.length
def WA.rowT (a : WA) (e : Ent) : RowT := (e, partsOf ((a.row e).getD []))
def WA.rows (a : WA) : List RowT := a.all.map a.rowT
theorem getD_some {p : PL} {j : Nat} {v : List Int} (hp : p.getD j none = some v) : p[j]? = some (some v) := by
 rw [List.getD_eq_getElem?_getD] at hp
 cases hx : p[j]? with
 | none => rw [hx] at hp; cases hp
 | some o => rw [hx] at hp; simpa using hp
section
variable {S : List Nat} {w0 w : World} {its : List Thing}
set_option maxHeartbeats 2000000 in
theorem row_W {b : Nat} {m : WM} {q : WH} {u : Thing} {more : List Thing} (h : Hp S w0 w (q.all b m u ++ more)) {row : Ent → Option PL} {e : Ent} {p : PL} (ht : Tabs (kinds q.xs) row m.sets q.tabs) (hm : mayOk (kinds q.xs)) (hr : row e = some p) {K : Int → Int → Sl → World → Prop}
  (hK : ∀ s w', Hp S w0 w' (q.all b m u ++ more ++ [tParts s (partsOf p)]) → K e.1 e.2 s w') : c32 (some ⟨b, 0, none⟩) e.1 e.2 w K := by
 refine c32_of ?_
 unfold f32
 obtain ⟨inf', r1, r2, r3, r4⟩ := FT.inf3
 obtain ⟨inf, q1, q2, q3, q4⟩ := inf40
 have hkl : (kinds q.xs).length = q.xs.length := by simp [kinds]
 have h12 : q.xs.length ≤ 12 := by have := hm.2.2.1; omega
 have hfit := ht.fit e p hr
 have hpl : p.length = q.xs.length := by rw [hfit.1, hkl]
 have hs1 := setI_lt (show p.length ≤ 12 by omega)
 have hs0 := setI_nn p
 have hset : m.sets e = some (setI p) := by rw [ht.sets]; show (row e).map setI = _; rw [hr]; rfl
 refine h.nw (c := [_, _]) fun eb w1 h => ?_
 have h := h.up
 refine h.nw (c := [_, _, _]) fun ab w2 h => ?_
 have h := h.up
 refine h.ld0 (k := .i .i64) (x := e.1) 9 rfl rfl ?_
 refine h.ld (n := 1) (k := .i .i64) (x := e.2) 9 rfl rfl ?_
 refine h.nw (c := [_, _, _]) fun rb w3 h => ?_
 have h := h.up
 refine h.st0 8 rfl (by simp) rfl fun w4 h => ?_
 refine h.st (n := 1) 8 rfl (by simp) rfl fun w5 h => ?_
 refine h.st (n := 2) 8 rfl (by simp) rfl fun w6 h => ?_
 have h : Hp S w0 w6 (q.all b m u ++ (tBlk rb 92 [.int .i64 e.1, .int .i64 e.2, .slice none 0 0] :: tBlk ab 92 [.int .i64 0, .int .i64 0, .slice none 0 0] :: tBlk eb 33 [.int .i64 e.1, .int .i64 e.2] :: more)) := h
 refine h.dr fun w7 h => ?_
 refine nns ?_
 refine h.ld (n := 2) (k := .m) (x := some q.ms) 0 rfl rfl ?_
 refine h.ld0 (k := .i .i64) (x := e.1) 10 rfl rfl ?_
 refine h.ld (n := 1) (k := .i .i64) (x := e.2) 10 rfl rfl ?_
 refine h.lookup1 (kd := .i .i64) (vk := id) (z := (0 : Int)) (ek := entV) (ev := Value.int .i64) (g := m.sets) (k := e) 5 rfl rfl und98 keyEnt r1 r2 (fun _ => rfl) ?_
 rw [hset]
 dsimp only [id_eq]
 refine nns ?_
 refine h.ld0 (k := .sl) (x := q.sk) 0 rfl rfl ?_
 have hsk := h.len (s := q.sk) 2 rfl
 have h := (h.nest_nil 62 2 pdv tV pvis).up
 refine ⟨fun t21 mm w' => ∃ (k : Nat) (s : Sl), t21 = k ∧ k ≤ p.length ∧ mm = p.length - k ∧ Hp S w0 w' (q.all b m u ++ (tParts s (partsU p k) :: tBlk rb 92 [.int .i64 e.1, .int .i64 e.2, .slice s.a s.len s.cap] :: tBlk ab 92 [.int .i64 0, .int .i64 0, .slice none 0 0] :: tBlk eb 33 [.int .i64 e.1, .int .i64 e.2] :: more)), ⟨p.length, 0, ⟨none, 0, 0⟩, rfl, by omega, rfl, h⟩, ?_⟩
 clear h
 rintro t21 mm w8 ⟨k, s, rfl, hk, rfl, h⟩
 have hplen := h.nest_see (s := s) (l := partsU p k) (e := 62) (n := 2) (cells := pdv) (sub := tV) (vis := pvis) 8 rfl
 have hpu := partsU_len p k
 by_cases hlt : k < p.length
 ·refine ifT (by simp; omega) ?_
  rw [show IntKind.i64.wrap ((k : Int) + 1) = ((k + 1 : Nat) : Int) by rw [wr64 (by omega) (by omega)]; omega]
  refine ⟨by omega, ?_⟩
  have hbit := (bit_eq (set := setI p) (k := k + 1) hs0 (by omega) (by omega)).trans (bit_setI p k)
  cases hp : p.getD k none with
  | some v =>
   refine ifT (by rw [hbit, hp]; rfl) ?_
   refine h.dr fun w9 h => ?_
   refine h.ld (n := 2) (k := .sl) (x := s) 9 rfl rfl ?_
   refine h.ld0 (k := .i .i64) (x := e.1) 11 rfl rfl ?_
   refine h.ld (n := 1) (k := .i .i64) (x := e.2) 11 rfl rfl ?_
   refine part_W h ht hm hr (getD_some hp) fun sv w10 h => ?_
   have h := h.up
   refine ⟨h.cel (n := 2) 10 rfl rfl, ?_⟩
   refine h.nest_app 9 8 (by omega) ((((k + 1 : Nat) : Int), sv, v) : PV) rfl rfl rfl pdv_len und36 q1 q3 q2 rfl rfl (by simp [pdv, Value.oneCell']) (by rw [q4]; omega) (by omega) fun s' w11 h hl' => ?_
   have h : Hp S w0 w11 (q.all b m u ++ [tEmp] ++ (tParts s' (partsU p k ++ [(((k + 1 : Nat) : Int), v)]) :: tBlk rb 92 [.int .i64 e.1, .int .i64 e.2, .slice s.a s.len s.cap] :: tBlk ab 92 [.int .i64 0, .int .i64 0, .slice none 0 0] :: tBlk eb 33 [.int .i64 e.1, .int .i64 e.2] :: more)) := h
   have h := h.cutMid
   refine h.st (n := 2) 9 rfl (by simp) rfl fun w12 h => ?_
   refine ⟨p.length - (k + 1), by omega, k + 1, s', rfl, by omega, rfl, ?_⟩
   have e1 : partsU p (k + 1) = partsU p k ++ [(((k + 1 : Nat) : Int), v)] := by rw [partsU, hp]
   rw [e1]
   exact h
  | none =>
   refine ifF (by rw [hbit, hp]; decide) ?_
   refine ⟨p.length - (k + 1), by omega, k + 1, s, rfl, by omega, rfl, ?_⟩
   have e1 : partsU p (k + 1) = partsU p k := by rw [partsU, hp]; simp
   rw [e1]
   exact h
 ·refine ifF (by simp; omega) ?_
  obtain rfl : k = p.length := by omega
  refine h.ld0 (k := .i .i64) (x := e.1) 9 rfl rfl ?_
  refine h.ld (n := 1) (k := .i .i64) (x := e.2) 9 rfl rfl ?_
  refine h.ld (n := 2) (k := .sl) (x := s) 9 rfl rfl ?_
  refine h.st0 10 rfl (by simp) rfl fun w9 h => ?_
  refine h.st (n := 1) 10 rfl (by simp) rfl fun w10 h => ?_
  refine h.st (n := 2) 10 rfl (by simp) rfl fun w11 h => ?_
  have h : Hp S w0 w11 (q.all b m u ++ (tParts s (partsOf p) :: ([tBlk rb 92 [.int .i64 e.1, .int .i64 e.2, .slice s.a s.len s.cap], tBlk ab 92 [.int .i64 e.1, .int .i64 e.2, .slice s.a s.len s.cap], tBlk eb 33 [.int .i64 e.1, .int .i64 e.2]] ++ more))) := h
  refine h.ld0 (k := .i .i64) (x := e.1) 10 rfl rfl ?_
  refine h.ld (n := 1) (k := .i .i64) (x := e.2) 10 rfl rfl ?_
  refine h.ld (n := 2) (k := .sl) (x := s) 10 rfl rfl ?_
  have h := h.down
  have h : Hp S w0 w11 (q.all b m u ++ [tBlk rb 92 [.int .i64 e.1, .int .i64 e.2, .slice s.a s.len s.cap], tBlk ab 92 [.int .i64 e.1, .int .i64 e.2, .slice s.a s.len s.cap], tBlk eb 33 [.int .i64 e.1, .int .i64 e.2]] ++ (more ++ [tParts s (partsOf p)])) := by
   simpa using h
  have h := h.cutMid
  rw [← List.append_assoc] at h
  exact hK s w11 h
theorem all_lives {a : WA} (hok : a.Ok) {e : Ent} (he : e ∈ a.all) : ∃ p, a.row e = some p := by
 obtain ⟨h1, _⟩ := FI.allU_get a.pool a.pool.gens.length
 obtain ⟨_, _, h2, h3⟩ := h1 e he
 have := hok.liv e
 rw [PoolM.is_iff.2 ⟨h2, h3⟩] at this
 exact Option.isSome_iff_exists.1 this
set_option maxHeartbeats 2000000 in
theorem Rows_o {b : Nat} {a : WA} {q : WH} {u : Thing} {more : List Thing} (h : Hp S w0 w (q.all b a.m u ++ more)) (hok : a.Ok) (ht : Tabs a.ks a.row a.m.sets q.tabs) (hk : kinds q.xs = a.ks) {K : Sl → World → Prop}
  (hK : ∀ s w', Hp S w0 w' (q.all b a.m u ++ more ++ [tRows s a.rows]) → K s w') : c15 (some ⟨b, 0, none⟩) w K := by
 refine c15_of ?_
 unfold f15
 obtain ⟨inf, q1, q2, q3, q4⟩ := inf65
 have hal : a.all.length ≤ 200 := by
  have h1 := PoolM.allU_len a.pool a.pool.gens.length
  have h2 := hok.pok.len200
  show (a.pool.allU a.pool.gens.length).length ≤ 200
  omega
 refine nns ?_
 refine h.ld (n := 1) (k := .p) (x := some ⟨q.pb, 0, none⟩) 0 rfl rfl ?_
 refine FI.All_h h 4 (m := a.pool) hok.pok rfl fun r w1 h => ?_
 have h := h.up
 have h : Hp S w0 w1 (q.all b a.m u ++ (tSl r 33 2 ent a.all :: more)) := h
 have hrl := h.len (s := r) 8 rfl
 have h := (h.nest_nil 92 3 rdv tPs rvis).up
 refine ⟨fun out t12 mm w' => ∃ k : Nat, t12 = k ∧ k ≤ a.all.length ∧ mm = a.all.length - k ∧ Hp S w0 w' (q.all b a.m u ++ (tRows out ((a.all.take k).map a.rowT) :: tSl r 33 2 ent a.all :: more)), ⟨a.all.length, 0, rfl, by omega, rfl, h⟩, ?_⟩
 clear h
 rintro out t12 mm w2 ⟨k, rfl, hkk, rfl, h⟩
 have hplen := h.nest_see (s := out) (l := (a.all.take k).map a.rowT) (e := 92) (n := 3) (cells := rdv) (sub := tPs) (vis := rvis) 8 rfl
 rw [List.length_map, List.length_take] at hplen
 by_cases hlt : k < a.all.length
 ·refine ifT (by simp; omega) ?_
  have hx : a.all[k]? = some a.all[k] := by simp [hlt]
  obtain ⟨p, hr⟩ := all_lives hok (List.getElem_mem hlt)
  have htk : (a.all.take (k + 1)).map a.rowT = (a.all.take k).map a.rowT ++ [(a.all[k], partsOf p)] := by
   rw [List.take_succ_eq_append_getElem hlt, List.map_append]
   show _ ++ [a.rowT a.all[k]] = _
   unfold WA.rowT
   rw [hr]; rfl
  generalize a.all[k] = e at hx hr htk
  refine h.ixr (s := r) (l := a.all) (f := ent) (n := 2) (e := 33) 9 rfl (by omega) (by rw [Int.toNat_natCast]; exact hx) ent_len fun ad hc => ?_
  refine ldR0 (k := .i .i64) (x := e.1) (hc 0 (by omega)) rfl ?_
  refine ldR (k := .i .i64) (x := e.2) (hc 1 (by omega)) rfl ?_
  refine h.nw (c := [_, _]) fun eb w3 h => ?_
  have h := h.up
  refine h.st0 8 rfl (by simp) rfl fun w4 h => ?_
  refine h.st (n := 1) 8 rfl (by simp) rfl fun w5 h => ?_
  have h : Hp S w0 w5 (q.all b a.m u ++ (tBlk eb 33 [.int .i64 e.1, .int .i64 e.2] :: tRows out ((a.all.take k).map a.rowT) :: tSl r 33 2 ent a.all :: more)) := h
  refine h.ld0 (k := .i .i64) (x := e.1) 8 rfl rfl ?_
  refine h.ld (n := 1) (k := .i .i64) (x := e.2) 8 rfl rfl ?_
  refine row_W h (row := a.row) (by rw [hk]; exact ht) (by rw [hk]; exact hok.may) hr fun s w6 h => ?_
  have h := h.up
  refine h.nest_app 10 8 (by omega) ((e, s, partsOf p) : RV) rfl rfl rfl rdv_len und56 q1 q3 q2 rfl rfl (by simp [rdv, Value.oneCell']) (by rw [q4]; omega) (by omega) fun s' w7 h hl' => ?_
  have h : Hp S w0 w7 (q.all b a.m u ++ [tEmp, tBlk eb 33 [.int .i64 e.1, .int .i64 e.2]] ++ (tRows s' ((a.all.take k).map a.rowT ++ [(e, partsOf p)]) :: tSl r 33 2 ent a.all :: more)) := h
  have h := h.cutMid
  refine ⟨a.all.length - (k + 1), by omega, k + 1, by rw [wr64 (by omega) (by omega)]; omega, by omega, rfl, ?_⟩
  rw [htk]
  exact h
 ·refine ifF (by simp; omega) ?_
  rw [List.take_of_length_le (by omega)] at h
  have h := h.down
  have h : Hp S w0 w2 (q.all b a.m u ++ [tSl r 33 2 ent a.all] ++ (more ++ [tRows out (a.all.map a.rowT)])) := by
   simpa using h
  have h := h.cutMid
  rw [← List.append_assoc] at h
  exact hK out w2 h
end
def putParts (ks : KD) : List Part → PL → PL × Int
 | [], p => (p, 0)
 | x :: ps, p => match fl ks x.1 with
  | none => (p, 60)
  | some n => if (p.getD (x.1 - 1).toNat none).isSome = true then (p, 61) else if x.2.length ≠ n then (p, 63) else putParts ks ps (p.set (x.1 - 1).toNat (some x.2))
def WA.emp (a : WA) : PL := List.replicate a.ks.length none
def WA.spawn (a : WA) (ps : List Part) : WA × Ent × Int :=
 if (putParts a.ks ps a.emp).2 ≠ 0 then (a, (0, 0), (putParts a.ks ps a.emp).2) else
 if a.pool.takeM.2.2 ≠ 0 then (a, (0, 0), a.pool.takeM.2.2) else (⟨a.ks, a.pool.takeM.1, upd1 a.row a.pool.takeM.2.1 (some (putParts a.ks ps a.emp).1)⟩, a.pool.takeM.2.1, 0)
theorem take_liv {m : PoolM} (hm : m.Ok) : (m.takeM.2.2 ≠ 0 → m.takeM = (m, (0, 0), 40)) ∧ (m.takeM.2.2 = 0 → m.takeM.1.Ok ∧ m.is m.takeM.2.1.1 m.takeM.2.1.2 = false ∧ ∀ x : Ent, m.takeM.1.is x.1 x.2 = if x = m.takeM.2.1 then true else m.is x.1 x.2) := by
 have hneg : ∀ (q : PoolM) (x : Ent), x.1 < 0 → q.is x.1 x.2 = false := fun q x hx => by
  unfold PoolM.is PoolM.lives
  rw [decide_eq_false (by omega)]; rfl
 unfold PoolM.takeM
 cases hf : m.free with
 | cons i rest =>
  dsimp only
  refine ⟨fun h => absurd rfl h, fun _ => ⟨hm.takeFree hf, ?_, fun x => ?_⟩⟩
  ·obtain ⟨a1, a2, a3, a4⟩ := hm.free i (by rw [hf]; simp)
   unfold PoolM.is; rw [a3]; rfl
  ·obtain ⟨a1, a2, a3, a4⟩ := hm.free i (by rw [hf]; simp)
   have hl := hm.len
   by_cases hx0 : x.1 < 0
   ·rw [hneg _ x hx0, hneg _ x hx0, if_neg (fun e => by rw [e] at hx0; dsimp only at hx0; omega)]
   ·unfold PoolM.is
    rw [PoolM.lives_takeFree m a1 (by omega), PoolM.gen_takeFree m a1 (by omega) (by omega)]
    by_cases hx : x.1 = i
    ·rw [if_pos hx, if_pos hx, hx, a3]
     by_cases hx2 : x = (i, m.gen i + 1)
     ·rw [if_pos hx2, hx2]; simp
     ·rw [if_neg hx2]
      have : m.gen i + 1 ≠ x.2 := fun e => hx2 (Prod.ext hx e.symm)
      simp [this]
    ·rw [if_neg hx, if_neg hx, if_neg (fun e => hx (by rw [e]))]
 | nil =>
  by_cases hl : (m.gens.length : Int) < m.most
  ·simp only [if_pos hl]
   refine ⟨fun h => absurd rfl h, fun _ => ⟨hm.takeNew hf hl, ?_, fun x => ?_⟩⟩
   ·unfold PoolM.is PoolM.lives
    have := hm.len
    rw [List.getD_eq_getElem?_getD, List.getElem?_eq_none (by simp; omega)]; simp
   ·have hl := hm.len
    have hdead : m.lives (m.gens.length : Int) = false := by
     unfold PoolM.lives
     rw [List.getD_eq_getElem?_getD, List.getElem?_eq_none (by simp; omega)]; simp
    by_cases hx0 : x.1 < 0
    ·rw [hneg _ x hx0, hneg _ x hx0, if_neg (fun e => by rw [e] at hx0; dsimp only at hx0; omega)]
    ·unfold PoolM.is
     rw [PoolM.lives_takeNew m hl, PoolM.gen_takeNew m (by omega)]
     by_cases hx : x.1 = m.gens.length
     ·rw [if_pos hx, if_pos hx, hx, hdead]
      by_cases hx2 : x = ((m.gens.length : Int), 1)
      ·rw [if_pos hx2, hx2]; simp
      ·rw [if_neg hx2]
       have : (1 : Int) ≠ x.2 := fun e => hx2 (Prod.ext hx e.symm)
       simp [this]
     ·rw [if_neg hx, if_neg hx, if_neg (fun e => hx (by rw [e]))]
  ·simp only [if_neg hl]
   exact ⟨fun _ => trivial, fun h => absurd h (by decide)⟩
theorem putParts_rng {ks : KD} : ∀ (ps : List Part) {p : PL}, (∀ x ∈ ps, FP.R64 x.2) → FP.R64 (flat p) → FP.R64 (flat (putParts ks ps p).1)
 | [], p, _, h => h
 | x :: ps, p, hp, h => by
  unfold putParts
  cases hf : fl ks x.1 with
  | none => exact h
  | some n =>
   dsimp only
   split
   ·exact h
   ·split
    ·exact h
    ·exact putParts_rng ps (fun y hy => hp y (List.mem_cons_of_mem _ hy)) (flat_rng h _ (hp x (by simp)))
theorem WA.spawn_ok {a : WA} (h : a.Ok) (ps : List Part) (hps : ∀ x ∈ ps, FP.R64 x.2) : (a.spawn ps).1.Ok := by
 unfold WA.spawn
 split
 ·exact h
 ·split
  ·exact h
  ·rename_i ht
   obtain ⟨t1, t2, t3⟩ := (take_liv h.pok).2 (by simpa using ht)
   refine ⟨(FI.takeM_ok h.pok2).1, (FI.takeM_ok h.pok2).2.trans h.most, h.may, fun x => ?_, fun x p hx => ?_⟩
   ·show (upd1 a.row a.pool.takeM.2.1 _ x).isSome = _
    rw [t3 x]
    unfold upd1
    split
    ·rfl
    ·exact h.liv x
   ·have hx : upd1 a.row a.pool.takeM.2.1 _ x = some p := hx
    unfold upd1 at hx
    split at hx
    ·obtain rfl := Option.some.inj hx
     exact putParts_rng ps hps (by unfold WA.emp; rw [flat_new]; intro x hx; cases hx)
    ·exact h.rng x p hx
theorem spawn_few {a : WA} (h : a.Ok) (ht : a.pool.takeM.2.2 = 0) : a.row a.pool.takeM.2.1 = none ∧ ∀ L : List Ent, L.Nodup → (∀ x ∈ L, (a.row x).isSome = true) → L.length < 200 := by
 obtain ⟨t1, t2, t3⟩ := (take_liv h.pok).2 ht
 have hne : a.row a.pool.takeM.2.1 = none := by
  have := h.liv a.pool.takeM.2.1
  rw [t2] at this
  cases hr : a.row a.pool.takeM.2.1 with
  | none => rfl
  | some p => rw [hr] at this; cases this
 refine ⟨hne, fun L hnd hL => ?_⟩
 have := pool_few t1 (L := a.pool.takeM.2.1 :: L) (by
  rw [List.nodup_cons]
  exact ⟨fun hm => (by have := hL _ hm; rw [hne] at this; cases this), hnd⟩) (fun x hx => by
  rw [t3 x]
  split
  ·rfl
  ·rcases List.mem_cons.1 hx with rfl | hx
   ·rename_i h; exact absurd rfl h
   ·rw [← h.liv x]; exact hL x hx)
 simp only [List.length_cons] at this
 omega
section
variable {S : List Nat} {w0 w : World} {its : List Thing}
theorem all_swap {b : Nat} {m : WM} {q : WH} {u v : Thing} {more : List Thing} (h : Hp S w0 w (q.all b m u ++ (v :: more))) : Hp S w0 w (q.all b m v ++ (u :: more)) := by
 have h : Hp S w0 w ([q.blk b] ++ (u :: q.rest m) ++ [v] ++ more) := by simpa [WH.all, WH.rest] using h
 have h := h.mid
 have h : Hp S w0 w ([q.blk b, v] ++ [u] ++ q.rest m ++ more) := by simpa using h
 have h := h.mid
 simpa [WH.all, WH.rest] using h
theorem shut_parts {b : Nat} {a : WA} {m : WM} {q : WH} {u : Thing} {B : List Thing} {s : Sl} {xs : List PV} (hok : a.Ok) (ht : Tabs a.ks a.row a.m.sets q.tabs) (hk : kinds q.xs = a.ks) (hp : m.pool = a.pool) (hs : m.sets = a.m.sets)
  (h : Hp S w0 w (q.all b m u ++ B ++ [tSl s 62 2 pdv xs, tAll (xs.map tV)])) : Hp S w0 w [tW b a, tParts s (xs.map pvis)] := by
 have h := W_shut (rest := [_, _]) hok ht hk hp hs h.cutMid
 have h := h.nest_close (i := 1) (j := 2) (e := 62) (n := 2) (cells := pdv) (sub := tV) (vis := pvis) (s := s) (xs := xs) (l := xs.map pvis) (by decide) rfl rfl rfl
 have h : Hp S w0 w ([tW b a, tParts s (xs.map pvis)] ++ [tEmp]) := h
 exact h.front
set_option maxHeartbeats 4000000 in
theorem Spawn_W (h : Hp S w0 w its) (i j : Nat) (hij : i ≠ j) {b : Nat} {a : WA} {s : Sl} {ps : List Part} (hi : its[i]? = some (tW b a)) (hj : its[j]? = some (tParts s ps)) (hps : ∀ x ∈ ps, -9223372036854775808 ≤ x.1 ∧ x.1 ≤ 9223372036854775807) (hpr : ∀ x ∈ ps, FP.R64 x.2) (hpl : ps.length ≤ 4398046511104) {K : Int → Int → Int → World → Prop}
  (hK : ∀ w', Hp S w0 w' (its.set i (tW b (a.spawn ps).1)) → K (a.spawn ps).2.1.1 (a.spawn ps).2.1.2 (a.spawn ps).2.2 w') : c49 (some ⟨b, 0, none⟩) s w K := by
 refine c49_of ?_
 unfold f49
 obtain ⟨O, h1, back⟩ := h.f2 hij hi hj rfl rfl
 clear h
 obtain ⟨q, hok, ht, hk, h⟩ := W_open h1
 obtain ⟨xs, hxs, h⟩ := h.nest_open (i := 8) rfl
 have hok' := WA.spawn_ok hok ps hpr
 have h : Hp O w w (q.all b a.m tEmp ++ [tSl s 62 2 pdv xs, tAll (xs.map tV)]) := h
 have hkl : (kinds q.xs).length = q.xs.length := by simp [kinds]
 have hal := hok.len
 have h12 : q.xs.length ≤ 12 := by rw [hk] at hkl; omega
 have h4k := hok.four
 have h4 : ∀ x ∈ q.xs, x.2.2.length ≤ 4 := fun x hx => h4k (x.1, x.2.2) (by rw [← hk]; exact List.mem_map.2 ⟨x, hx, rfl⟩)
 have hxl : xs.length = ps.length := by rw [← hxs, List.length_map]
 have fin : ∀ {w' : World} {a' : WA}, Hp O w w' [tW b a', tParts s (xs.map pvis)] → Hp S w0 w' (its.set i (tW b a')) := fun {w' a'} h => by
  rw [hxs] at h
  have := back (rest := []) rfl rfl rfl h
  rw [List.append_nil] at this
  have e : (its.set i (tW b a')).set j (tParts s ps) = its.set i (tW b a') := Hp.set_same (by rw [List.getElem?_set_ne hij]; exact hj)
  rwa [e] at this
 have hsl := h.len (s := s) 8 rfl
 refine h.nw (c := [_, _]) fun ab w1 h => ?_
 have h := h.up
 have h := (h.nil 2 1 iv).up
 refine ⟨fun sset values t16 mm w' => ∃ (k : Nat) (p : PL), sset = setI p ∧ t16 = k ∧ k ≤ xs.length ∧ mm = xs.length - k ∧ p.fit a.ks ∧ putParts a.ks (ps.drop k) p = putParts a.ks ps a.emp ∧ Hp O w w' (q.all b a.m tEmp ++ [tSl values 2 1 iv (flat p), tBlk ab 33 [.int .i64 0, .int .i64 0]] ++ [tSl s 62 2 pdv xs, tAll (xs.map tV)]), ⟨xs.length, 0, a.emp, by unfold WA.emp; rw [setI_new], rfl, by omega, rfl, fit_new _, rfl, by unfold WA.emp; rw [flat_new]; exact h⟩, ?_⟩
 clear h
 rintro sset values t16 mm w2 ⟨k, p, rfl, rfl, hkk, rfl, hfit, hput, h⟩
 have hs1 := setI_lt (show p.length ≤ 12 by rw [hfit.1]; omega)
 have hs0 := setI_nn p
 by_cases hlt : k < xs.length
 ·refine ifT (by simp; omega) ?_
  have hx : xs[k]? = some xs[k] := by simp [hlt]
  have hpx : ps[k]? = some (pvis xs[k]) := by rw [← hxs, List.getElem?_map, hx]; rfl
  generalize xs[k] = x at hx hpx
  obtain ⟨kd, sv, v⟩ := x
  have hpx : ps[k]? = some (kd, v) := hpx
  have hkd := hps _ (List.mem_of_getElem? hpx)
  dsimp only at hkd
  have hdr : ps.drop k = (kd, v) :: ps.drop (k + 1) := by
   have hl := (List.getElem?_eq_some_iff.1 hpx).1
   have he := (List.getElem?_eq_some_iff.1 hpx).2
   rw [← he]; exact List.drop_eq_getElem_cons hl
  rw [hdr] at hput
  refine h.ixr (s := s) (l := xs) (f := pdv) (n := 2) (e := 62) 10 rfl (by omega) (by rw [Int.toNat_natCast]; exact hx) pdv_len fun ad hc => ?_
  refine ldR0 (k := .i .i64) (x := kd) (hc 0 (by omega)) rfl ?_
  refine ldR (k := .sl) (x := sv) (hc 1 (by omega)) rfl ?_
  refine h.nw (c := [_, _]) fun pb w3 h => ?_
  have h : Hp O w w3 (q.all b a.m tEmp ++ [tSl values 2 1 iv (flat p), tBlk ab 33 [.int .i64 0, .int .i64 0], tSl s 62 2 pdv xs, tAll (xs.map tV)] ++ [tBlk pb 62 [.int .i64 0, .slice none 0 0]]) := h
  have h := h.up
  refine h.st0 8 rfl (by simp) rfl fun w4 h => ?_
  refine h.st (n := 1) 8 rfl (by simp) rfl fun w5 h => ?_
  have h : Hp O w w5 (q.all b a.m tEmp ++ [tBlk pb 62 [.int .i64 kd, .slice sv.a sv.len sv.cap], tSl values 2 1 iv (flat p), tBlk ab 33 [.int .i64 0, .int .i64 0]] ++ [tSl s 62 2 pdv xs, tAll (xs.map tV)]) := h
  -- a refusal
  have bad : ∀ {w6 : World} {err : Int}, err ≠ 0 → (putParts a.ks ps a.emp).2 = err → Hp O w w6 (q.all b a.m tEmp ++ [tBlk pb 62 [.int .i64 kd, .slice sv.a sv.len sv.cap], tSl values 2 1 iv (flat p), tBlk ab 33 [.int .i64 0, .int .i64 0]] ++ [tSl s 62 2 pdv xs, tAll (xs.map tV)]) →
    (St ⟨ab, 0, none⟩ (.int .i64 0) w6 fun (w : World) => St ((⟨ab, 0, none⟩ : Addr).add 1) (.int .i64 0) w fun (w : World) => Ld (.i .i64) w ⟨ab, 0, none⟩ fun (r_Index : Int) => Ld (.i .i64) w ((⟨ab, 0, none⟩ : Addr).add 1) fun (r_Gen : Int) => K r_Index r_Gen err w) := by
   intro w6 err hne hpe h
   refine h.st0 10 rfl (by simp) rfl fun w7 h => ?_
   refine h.st (n := 1) 10 rfl (by simp) rfl fun w8 h => ?_
   refine h.ld0 (k := .i .i64) (x := (0 : Int)) 10 rfl rfl ?_
   refine h.ld (n := 1) (k := .i .i64) (x := (0 : Int)) 10 rfl rfl ?_
   have hsp : a.spawn ps = (a, (0, 0), err) := by unfold WA.spawn; rw [if_pos (by rw [hpe]; exact hne), hpe]
   rw [hsp] at hK
   have h : Hp O w w8 (q.all b a.m tEmp ++ [tBlk pb 62 [.int .i64 kd, .slice sv.a sv.len sv.cap], tSl values 2 1 iv (flat p), tBlk ab 33 [.int .i64 0, .int .i64 0]] ++ [tSl s 62 2 pdv xs, tAll (xs.map tV)]) := h
   exact hK w8 (fin (shut_parts hok ht hk rfl rfl h))
  refine h.ld0 (k := .i .i64) (x := kd) 8 rfl rfl ?_
  refine fields_spec h 0 2 3 (cells := [_, _, _]) rfl rfl rfl (by omega) hkd.1 hkd.2 ?_
  rw [hk]
  cases hf : fl a.ks kd with
  | none =>
   dsimp only
   refine ifT rfl (bad (by decide) ?_ h)
   rw [← hput]; unfold putParts; dsimp only; rw [hf]
  | some n =>
   dsimp only
   refine ifF (by simp) ?_
   refine h.ld0 (k := .i .i64) (x := kd) 8 rfl rfl ?_
   obtain ⟨r, kk, rfl, hkr, hkn⟩ := fl_at hf
   have hrl : r < p.length := by rw [hfit.1]; exact (List.getElem?_eq_some_iff.1 hkr).1
   have hp12 : p.length ≤ 12 := by rw [hfit.1]; omega
   have er : ((((r + 1 : Nat) : Int)) - 1).toNat = r := by omega
   have hbit := (bit_eq (set := setI p) (k := r + 1) hs0 (by omega) (by omega)).trans (bit_setI p r)
   refine ⟨by omega, ?_⟩
   by_cases hh : (p.getD r none).isSome = true
   ·refine ifT (by rw [hbit, hh]; rfl) (bad (by decide) ?_ h)
    rw [← hput]; unfold putParts; dsimp only; rw [hf]; dsimp only; rw [er, if_pos hh]
   ·refine ifF (by rw [hbit, if_neg hh]; decide) ?_
    refine h.ld (n := 1) (k := .sl) (x := sv) 8 rfl rfl ?_
    have hvl : v.length = sv.len := by
     have := h.see (i := 12) rfl
     obtain ⟨O', hO'⟩ := this
     obtain ⟨O1, O2, g1, _⟩ := tAll_pick (k := k) (t := tV (((r + 1 : Nat) : Int), sv, v)) (by rw [List.getElem?_map, hx]; rfl) hO'
     exact g1.1
    by_cases hn : v.length = n
    ·refine ifF (by simp; omega) ?_
     refine h.dr fun w6 h => ?_
     refine h.ld0 (k := .i .i64) (x := ((r + 1 : Nat) : Int)) 8 rfl rfl ?_
     refine h.ld (n := 1) (k := .sl) (x := sv) 8 rfl rfl ?_
     refine at_spec h 0 2 3 (cells := [_, _, _]) rfl rfl rfl h12 h4 hs0 (by omega) (q := r) (by rw [hfit.1, ← hk, hkl] at hrl; omega) ?_
     refine ⟨h.cel (n := 1) 8 rfl rfl, ?_⟩
     rw [hk]
     have hno : p.getD r none = none := by simpa using hh
     have hat := hfit.at (q := r) (by omega)
     have hat4 := atF_le h4k (setI p) r
     have hall := hfit.all
     have hall4 := atF_le h4k (setI p) a.ks.length
     have hv4 := h4k _ (List.mem_of_getElem? hkr)
     have hle : atF a.ks (setI p) r ≤ (flat p).length := by
      have hpr : p[r]? = some none := by
       have : p[r]? = some p[r] := by simp [hrl]
       rw [this]; rw [List.getD_eq_getElem?_getD, this] at hno; simpa using hno
      rw [hat, flat_split hpr]; simp
     have h := h.pick (i := 12) (k := k) (t := tV (((r + 1 : Nat) : Int), sv, v)) rfl (by rw [List.getElem?_map, hx]; rfl) rfl
     refine Insert_spec h 9 13 (by decide) (s := values) (v := sv) (l := flat p) (xs := v) rfl rfl hle (by omega) fun s' w7 h => ?_
     rw [← hfit.ins hrl hno v] at h
     have hkx : k < (xs.map tV).length := by simpa using hlt
     have h := h.unpick (i := 12) (j := 13) (k := k) (ts := (xs.map tV).set k tEmp) (t := tV (((r + 1 : Nat) : Int), sv, v)) (by decide) rfl rfl (by rw [List.getElem?_set_self hkx]) rfl
     rw [List.set_set] at h
     have eb : (xs.map tV).set k (tV (((r + 1 : Nat) : Int), sv, v)) = xs.map tV := Hp.set_same (by rw [List.getElem?_map, hx]; rfl)
     rw [eb] at h
     have h : Hp O w w7 (q.all b a.m tEmp ++ [tBlk pb 62 [.int .i64 ((r + 1 : Nat) : Int), .slice sv.a sv.len sv.cap], tSl s' 2 1 iv (flat (p.set r (some v))), tBlk ab 33 [.int .i64 0, .int .i64 0], tSl s 62 2 pdv xs, tAll (xs.map tV)] ++ [tEmp]) := h
     have h := h.front
     refine h.ld0 (k := .i .i64) (x := ((r + 1 : Nat) : Int)) 8 rfl rfl ?_
     refine ⟨by omega, xs.length - (k + 1), by omega, k + 1, p.set r (some v), setI_put hp12 hrl v, by rw [wr64 (by omega) (by omega)]; omega, by omega, rfl, hfit.set hkr (by rw [hkn]; exact hn), ?_, ?_⟩
     ·rw [← hput]
      conv => rhs; unfold putParts
      dsimp only
      rw [hf]
      dsimp only
      rw [er, if_neg hh, if_neg (by simpa using hn)]
     ·have h : Hp O w w7 (q.all b a.m tEmp ++ [tBlk pb 62 [.int .i64 ((r + 1 : Nat) : Int), .slice sv.a sv.len sv.cap]] ++ [tSl s' 2 1 iv (flat (p.set r (some v))), tBlk ab 33 [.int .i64 0, .int .i64 0], tSl s 62 2 pdv xs, tAll (xs.map tV)]) := h
      exact h.cutMid
    ·refine ifT (by simp; omega) (bad (by decide) ?_ h)
     rw [← hput]; unfold putParts; dsimp only; rw [hf]; dsimp only; rw [er, if_neg hh, if_pos hn]
 ·refine ifF (by simp; omega) ?_
  have hput : (p, (0 : Int)) = putParts a.ks ps a.emp := by
   rw [List.drop_of_length_le (by omega)] at hput
   exact hput
  refine nns ?_
  refine h.ld (n := 1) (k := .p) (x := some ⟨q.pb, 0, none⟩) 0 rfl rfl ?_
  refine FI.Take_h h 4 (m := a.pool) hok.pok rfl fun w3 h => ?_
  have h : Hp O w w3 (q.all b { a.m with pool := a.pool.takeM.1 } tEmp ++ [tSl values 2 1 iv (flat p), tBlk ab 33 [.int .i64 0, .int .i64 0], tSl s 62 2 pdv xs, tAll (xs.map tV)]) := h
  have hsp0 : (putParts a.ks ps a.emp).2 = 0 := by rw [← hput]
  have hsp1 : (putParts a.ks ps a.emp).1 = p := by rw [← hput]
  refine h.nw (c := [_, _]) fun eb w4 h => ?_
  have h := h.up
  refine h.st0 8 rfl (by simp) rfl fun w5 h => ?_
  refine h.st (n := 1) 8 rfl (by simp) rfl fun w6 h => ?_
  have hsp : a.spawn ps = if a.pool.takeM.2.2 ≠ 0 then (a, (0, 0), a.pool.takeM.2.2) else (⟨a.ks, a.pool.takeM.1, upd1 a.row a.pool.takeM.2.1 (some p)⟩, a.pool.takeM.2.1, 0) := by
   unfold WA.spawn; rw [if_neg (by rw [hsp0]; simp), hsp1]
  by_cases hb : a.pool.takeM.2.2 = 0
  ·rw [if_neg (by simpa using hb)] at hsp
   rw [hsp] at hK hok'
   dsimp only at hK hok'
   obtain ⟨hrn, hfew⟩ := spawn_few hok hb
   generalize a.pool.takeM.2.1 = e at hK hrn hok' h ⊢
   generalize a.pool.takeM.1 = pool' at hK hok' h ⊢
   refine ifF (by rw [hb]; simp) ?_
   have h : Hp O w w6 (q.all b { a.m with pool := pool' } tEmp ++ [tBlk eb 33 [.int .i64 e.1, .int .i64 e.2]] ++ [tSl values 2 1 iv (flat p)] ++ [tBlk ab 33 [.int .i64 0, .int .i64 0], tSl s 62 2 pdv xs, tAll (xs.map tV)]) := h
   have h := h.mid
   refine h.ld0 (k := .i .i64) (x := e.1) 9 rfl rfl ?_
   refine h.ld (n := 1) (k := .i .i64) (x := e.2) 9 rfl rfl ?_
   have h : Hp O w w6 (q.all b { a.m with pool := pool' } tEmp ++ (tSl values 2 1 iv (flat p) :: [tBlk eb 33 [.int .i64 e.1, .int .i64 e.2], tBlk ab 33 [.int .i64 0, .int .i64 0], tSl s 62 2 pdv xs, tAll (xs.map tV)])) := h
   have h := all_swap h
   refine enter_W h (row := a.row) (e := e) (p := p) (by rw [hk]; exact ht) (by rw [hk]; exact hok.may) hrn (by rw [hk]; exact hfit) hfew Hp.rdSl fun T' w7 ht' h => ?_
   refine h.ld0 (k := .i .i64) (x := e.1) 9 rfl rfl ?_
   refine h.ld (n := 1) (k := .i .i64) (x := e.2) 9 rfl rfl ?_
   refine h.st0 10 rfl (by simp) rfl fun w8 h => ?_
   refine h.st (n := 1) 10 rfl (by simp) rfl fun w9 h => ?_
   refine h.ld0 (k := .i .i64) (x := e.1) 10 rfl rfl ?_
   refine h.ld (n := 1) (k := .i .i64) (x := e.2) 10 rfl rfl ?_
   refine hK w9 (fin ?_)
   refine shut_parts (B := [tEmp, tBlk eb 33 [.int .i64 e.1, .int .i64 e.2], tBlk ab 33 [.int .i64 e.1, .int .i64 e.2]]) (m := { a.m with pool := pool', sets := upd1 a.m.sets e (some (setI p)) }) (q := { q with T := T' }) (u := tSl values 2 1 iv (flat p)) hok' ?_ hk rfl ?_ h
   ·show Tabs a.ks (upd1 a.row e (some p)) (fun x => (upd1 a.row e (some p) x).map setI) _
    rw [upd_sets, ← hk]
    exact ht'
   ·exact (upd_sets a.row e (some p)).symm
  ·rw [if_pos hb] at hsp
   have htk := (take_liv hok.pok).1 hb
   rw [hsp] at hK
   rw [htk] at hK h ⊢
   refine ifT (by simp) ?_
   refine h.st0 10 rfl (by simp) rfl fun w8 h => ?_
   refine h.st (n := 1) 10 rfl (by simp) rfl fun w9 h => ?_
   refine h.ld0 (k := .i .i64) (x := (0 : Int)) 10 rfl rfl ?_
   refine h.ld (n := 1) (k := .i .i64) (x := (0 : Int)) 10 rfl rfl ?_
   have h : Hp O w w9 (q.all b a.m tEmp ++ [tBlk eb 33 [.int .i64 0, .int .i64 0], tSl values 2 1 iv (flat p), tBlk ab 33 [.int .i64 0, .int .i64 0]] ++ [tSl s 62 2 pdv xs, tAll (xs.map tV)]) := h
   exact hK w9 (fin (shut_parts hok ht hk rfl rfl h))
end
def WA.put (a : WA) (e : Ent) (p : PL) : WA := ⟨a.ks, a.pool, upd1 a.row e (some p)⟩
def WA.ask (a : WA) (e : Ent) (kind : Int) : (PL × Nat × Nat) × Int := match a.row e with
 | none => (([], 0, 0), 41)
 | some p => match fl a.ks kind with
  | none => (([], 0, 0), 60)
  | some n => ((p, (kind - 1).toNat, n), 0)
def WA.add (a : WA) (e : Ent) (x : Part) : WA × Int :=
 if (a.ask e x.1).2 ≠ 0 then (a, (a.ask e x.1).2) else
 if ((a.ask e x.1).1.1.getD (a.ask e x.1).1.2.1 none).isSome = true then (a, 61) else
 if x.2.length ≠ (a.ask e x.1).1.2.2 then (a, 63) else (a.put e ((a.ask e x.1).1.1.set (a.ask e x.1).1.2.1 (some x.2)), 0)
theorem ask_none {a : WA} {e : Ent} {kind : Int} (h : a.row e = none) : a.ask e kind = (([], 0, 0), 41) := by unfold WA.ask; rw [h]
theorem ask_kind {a : WA} {e : Ent} {kind : Int} {p : PL} (h : a.row e = some p) (hf : fl a.ks kind = none) : a.ask e kind = (([], 0, 0), 60) := by
 unfold WA.ask; rw [h]; dsimp only; rw [hf]
theorem ask_some {a : WA} {e : Ent} {p : PL} {i : Nat} {k : ByteArray × List ByteArray} (h : a.row e = some p) (hk : a.ks[i]? = some k) : a.ask e ((i + 1 : Nat) : Int) = ((p, i, k.2.length), 0) := by
 have hfl : fl a.ks ((i + 1 : Nat) : Int) = some k.2.length := by
  unfold fl
  rw [if_pos (by omega), show (((i + 1 : Nat) : Int) - 1).toNat = i by omega, hk]; rfl
 unfold WA.ask; rw [h]; dsimp only; rw [hfl, show (((i + 1 : Nat) : Int) - 1).toNat = i by omega]
theorem WA.put_ok {a : WA} (h : a.Ok) {e : Ent} (he : (a.row e).isSome = true) {p : PL} (hp : FP.R64 (flat p)) : (a.put e p).Ok := by
 refine ⟨h.pok2, h.most, h.may, fun x => ?_, fun x p' hx => ?_⟩
 ·show (upd1 a.row e (some p) x).isSome = a.pool.is x.1 x.2
  rw [← h.liv x]
  unfold upd1
  split
  ·rename_i hx; rw [hx, he]; rfl
  ·rfl
 ·have hx : upd1 a.row e (some p) x = some p' := hx
  unfold upd1 at hx
  split at hx
  ·obtain rfl := Option.some.inj hx; exact hp
  ·exact h.rng x p' hx
theorem upd_upd (row : Ent → Option PL) (e : Ent) (o o' : Option PL) : upd1 (upd1 row e o) e o' = upd1 row e o' := by
 funext x
 unfold upd1
 split <;> rfl
theorem upd_updI (sets : Ent → Option Int) (e : Ent) (o o' : Option Int) : upd1 (upd1 sets e o) e o' = upd1 sets e o' := by
 funext x
 unfold upd1
 split <;> rfl
theorem gone_few {a : WA} (h : a.Ok) {e : Ent} (he : (a.row e).isSome = true) : ∀ L : List Ent, L.Nodup → (∀ x ∈ L, (upd1 a.row e none x).isSome = true) → L.length < 200 := by
 intro L hnd hL
 have hin : ∀ x ∈ L, x ≠ e ∧ (a.row x).isSome = true := fun x hx => by
  have := hL x hx
  unfold upd1 at this
  split at this
  ·cases this
  ·rename_i hne; exact ⟨hne, this⟩
 have := pool_few h.pok (L := e :: L) (by
  rw [List.nodup_cons]
  exact ⟨fun hm => (hin e hm).1 rfl, hnd⟩) (fun x hx => by
  rw [← h.liv x]
  rcases List.mem_cons.1 hx with rfl | hx
  ·exact he
  ·exact (hin x hx).2)
 simp only [List.length_cons] at this
 omega
section
variable {S : List Nat} {w0 w : World} {its : List Thing}
set_option maxHeartbeats 4000000 in
theorem Add_W (h : Hp S w0 w its) (i j : Nat) (hij : i ≠ j) {b : Nat} {a : WA} {e : Ent} {kind : Int} {sv : Sl} {v : List Int} (hi : its[i]? = some (tW b a)) (hj : its[j]? = some (tSl sv 2 1 iv v)) (k1 : -9223372036854775808 ≤ kind) (k2 : kind ≤ 9223372036854775807) (hvr : FP.R64 v) {K : Int → World → Prop}
  (hK : ∀ w', Hp S w0 w' (its.set i (tW b (a.add e (kind, v)).1)) → K (a.add e (kind, v)).2 w') : c51 (some ⟨b, 0, none⟩) e.1 e.2 kind sv w K := by
 refine c51_of ?_
 unfold f51
 obtain ⟨O, h1, back⟩ := h.f2 hij hi hj rfl rfl
 clear h
 obtain ⟨q, hok, ht, hk, h⟩ := W_open h1
 have hkl : (kinds q.xs).length = q.xs.length := by simp [kinds]
 have hal := hok.len
 have h12 : q.xs.length ≤ 12 := by rw [hk] at hkl; omega
 have h4k := hok.four
 have h4 : ∀ x ∈ q.xs, x.2.2.length ≤ 4 := fun x hx => h4k (x.1, x.2.2) (by rw [← hk]; exact List.mem_map.2 ⟨x, hx, rfl⟩)
 have fin : ∀ {w' : World} {a' : WA}, Hp O w w' [tW b a', tSl sv 2 1 iv v] → Hp S w0 w' (its.set i (tW b a')) := fun {w' a'} h => by
  have := back (rest := []) rfl rfl rfl h
  rw [List.append_nil] at this
  have e : (its.set i (tW b a')).set j (tSl sv 2 1 iv v) = its.set i (tW b a') := Hp.set_same (by rw [List.getElem?_set_ne hij]; exact hj)
  rwa [e] at this
 have hvl := h.len (s := sv) 8 rfl
 refine h.nw (c := [_, _]) fun eb w1 h => ?_
 have h := h.up
 refine h.nw (c := [_, _]) fun pb w2 h => ?_
 have h := h.up
 refine h.ld0 (k := .i .i64) (x := e.1) 9 rfl rfl ?_
 refine h.ld (n := 1) (k := .i .i64) (x := e.2) 9 rfl rfl ?_
 refine h.ld0 (k := .i .i64) (x := kind) 8 rfl rfl ?_
 have same : ∀ {w3 : World}, Hp O w w3 (q.all b a.m tEmp ++ (tBlk pb 62 [.int .i64 kind, .slice sv.a sv.len sv.cap] :: tBlk eb 33 [.int .i64 e.1, .int .i64 e.2] :: [tSl sv 2 1 iv v])) → Hp S w0 w3 (its.set i (tW b a)) := fun {w3} h => by
  have h : Hp O w w3 (q.all b a.m tEmp ++ [tBlk pb 62 [.int .i64 kind, .slice sv.a sv.len sv.cap], tBlk eb 33 [.int .i64 e.1, .int .i64 e.2]] ++ [tSl sv 2 1 iv v]) := h
  exact fin (W_shut (rest := [_]) hok ht hk rfl rfl h.cutMid)
 refine asked_W h hok ht hk k1 k2 fun w3 h => ⟨fun hr => ?_, fun p hr hf => ?_, fun p r k hr hkind hkr => ?_⟩
 ·have hg : a.add e (kind, v) = (a, 41) := by unfold WA.add; rw [ask_none hr, if_pos (by decide)]
  rw [hg] at hK
  exact ifT rfl (hK w3 (same h))
 ·have hg : a.add e (kind, v) = (a, 60) := by unfold WA.add; rw [ask_kind hr hf, if_pos (by decide)]
  rw [hg] at hK
  exact ifT rfl (hK w3 (same h))
 ·subst hkind
  have hask := ask_some (a := a) (e := e) hr hkr
  refine ifF (by simp) ?_
  have hfit := ht.fit e p hr
  have hrl : r < p.length := by rw [hfit.1]; exact (List.getElem?_eq_some_iff.1 hkr).1
  have hp12 : p.length ≤ 12 := by rw [hfit.1]; omega
  have hs1 := setI_lt hp12
  have hs0 := setI_nn p
  by_cases hh : (p.getD r none).isSome = true
  ·have hg : a.add e (((r + 1 : Nat) : Int), v) = (a, 61) := by unfold WA.add; dsimp only; rw [hask, if_neg (by simp), if_pos hh]
   rw [hg] at hK
   exact ifT hh (hK w3 (same h))
  ·refine ifF hh ?_
   refine h.ld (n := 1) (k := .sl) (x := sv) 8 rfl rfl ?_
   by_cases hn : v.length = k.2.length
   ·refine ifF (by simp; omega) ?_
    have hg : a.add e (((r + 1 : Nat) : Int), v) = (a.put e (p.set r (some v)), 0) := by
     unfold WA.add; dsimp only; rw [hask, if_neg (by simp), if_neg hh, if_neg (by simpa using hn)]
    rw [hg] at hK
    have his : (a.row e).isSome = true := by rw [hr]; rfl
    have hok' := WA.put_ok hok his (flat_rng (hok.rng e p hr) r hvr)
    refine h.dr fun w4 h => ?_
    refine h.ld0 (k := .i .i64) (x := e.1) 9 rfl rfl ?_
    refine h.ld (n := 1) (k := .i .i64) (x := e.2) 9 rfl rfl ?_
    refine h.ld0 (k := .i .i64) (x := ((r + 1 : Nat) : Int)) 8 rfl rfl ?_
    refine h.ld (n := 1) (k := .sl) (x := sv) 8 rfl rfl ?_
    refine leave_W h (row := a.row) (p := p) (by rw [hk]; exact ht) hr fun s T' w5 ht' h => ?_
    have h := h.up
    refine ⟨h.cel (n := 1) 9 rfl rfl, h.cel0 9 rfl rfl, ?_⟩
    refine at_spec h 0 2 3 (cells := [_, _, _]) rfl rfl rfl h12 h4 hs0 (by omega) (q := r) (by show r ≤ q.xs.length; rw [hfit.1, ← hk, hkl] at hrl; omega) ?_
    refine ⟨h.cel (n := 1) 9 rfl rfl, ?_⟩
    show c68 _ ((atF (kinds q.xs) (setI p) r : Nat) : Int) _ _ _
    rw [hk]
    have hno : p.getD r none = none := by simpa using hh
    have hat := hfit.at (q := r) (by omega)
    have hall := hfit.all
    have hall4 := atF_le h4k (setI p) a.ks.length
    have hv4 := h4k _ (List.mem_of_getElem? hkr)
    have hle : atF a.ks (setI p) r ≤ (flat p).length := by
     have hpr : p[r]? = some none := by
      have : p[r]? = some p[r] := by simp [hrl]
      rw [this]; rw [List.getD_eq_getElem?_getD, this] at hno; simpa using hno
     rw [hat, flat_split hpr]; simp
    refine Insert_spec h 8 11 (by decide) (s := s) (v := sv) (l := flat p) (xs := v) rfl rfl hle (by omega) fun s' w6 h => ?_
    rw [← hfit.ins hrl hno v] at h
    refine h.dr fun w7 h => ?_
    refine h.ld0 (k := .i .i64) (x := e.1) 10 rfl rfl ?_
    refine h.ld (n := 1) (k := .i .i64) (x := e.2) 10 rfl rfl ?_
    refine h.ld0 (k := .i .i64) (x := ((r + 1 : Nat) : Int)) 9 rfl rfl ?_
    refine ⟨by omega, ?_⟩
    rw [setI_put hp12 hrl v]
    have h : Hp O w w7 (({ q with T := T' } : WH).all b { a.m with sets := upd1 a.m.sets e none } tEmp ++ (tSl s' 2 1 iv (flat (p.set r (some v))) :: [tBlk pb 62 [.int .i64 ((r + 1 : Nat) : Int), .slice sv.a sv.len sv.cap], tBlk eb 33 [.int .i64 e.1, .int .i64 e.2], tSl sv 2 1 iv v])) := h
    have h := all_swap h
    have hfit' : PL.fit a.ks (p.set r (some v)) := hfit.set hkr hn
    refine enter_W h (row := upd1 a.row e none) (e := e) (p := p.set r (some v)) ht' (by show mayOk (kinds q.xs); rw [hk]; exact hok.may) (by unfold upd1; rw [if_pos rfl]) (by show PL.fit (kinds q.xs) _; rw [hk]; exact hfit') (gone_few hok his) Hp.rdSl fun T2 w8 ht2 h => ?_
    have h : Hp O w w8 (({ q with T := T2 } : WH).all b { a.m with sets := upd1 (upd1 a.m.sets e none) e (some (setI (p.set r (some v)))) } (tSl s' 2 1 iv (flat (p.set r (some v)))) ++ [tEmp, tBlk pb 62 [.int .i64 ((r + 1 : Nat) : Int), .slice sv.a sv.len sv.cap], tBlk eb 33 [.int .i64 e.1, .int .i64 e.2]] ++ [tSl sv 2 1 iv v]) := h
    rw [upd_upd] at ht2
    refine hK w8 (fin (W_shut (rest := [_]) (m := { a.m with sets := upd1 (upd1 a.m.sets e none) e (some (setI (p.set r (some v)))) }) (q := { q with T := T2 }) hok' ?_ hk rfl ?_ h.cutMid))
    ·show Tabs a.ks (upd1 a.row e (some (p.set r (some v)))) (fun x => (upd1 a.row e (some (p.set r (some v))) x).map setI) _
     rw [upd_sets, ← hk]
     have : upd1 (upd1 a.m.sets e none) e (some (setI (p.set r (some v)))) = upd1 (fun x => (a.row x).map setI) e ((some (p.set r (some v))).map setI) := by rw [upd_updI]; rfl
     rw [← this]
     exact ht2
    ·show upd1 (upd1 a.m.sets e none) e _ = _
     rw [upd_updI]
     exact (upd_sets a.row e (some (p.set r (some v)))).symm
   ·have hg : a.add e (((r + 1 : Nat) : Int), v) = (a, 63) := by
     unfold WA.add; dsimp only; rw [hask, if_neg (by simp), if_neg hh, if_pos hn]
    rw [hg] at hK
    exact ifT (by simp; omega) (hK w3 (same h))
end
section
variable {S : List Nat} {w0 w : World} {its : List Thing}
theorem clear_raw {P : Program} {w : World} {b : Nat} {e : TypeId} {c : List Value} (hb : Blk w b e c) {off m cap : Nat} {t ty : TypeId} {inf : TypeInfo} {z : Value} {K : Value → World → Prop}
  (ht : P.underlying t = some (.slice e)) (hinf : P.info? e = some inf) (hz : inf.zero = some z) (hzc : z.cells = #[z]) (h1 : z.oneCell' = true) (hm : 0 < m) (hroom : off + m ≤ c.length)
  (hK : ∀ v w', Blk w' b e (c.take off ++ List.replicate m z ++ c.drop (off + m)) → Fr [b] w w' → K v w') :
  Run .v P (Builtin.clear_ #[t] ty #[.slice (some ⟨b, off, none⟩) m cap]) w K := by
 have hzl : (Builtin.zeroCells z.cells m).toList = List.replicate m z := by
  rw [hzc]
  simp [Builtin.zeroCells]
  apply List.ext_getElem
  ·simp
  ·intro i h1 h2
   simp [Nat.mod_one]
 have hst := run_storeCells_at P b off e (List.replicate m z) 0 c.toArray w hb (by simp only [List.size_toArray, List.length_replicate]; omega) (fun v hv => by rw [List.eq_of_mem_replicate hv]; exact h1)
 have hv : ∀ w, (zeroValue e).run P w = .ok z w := fun w => by simp [zeroValue, typeInfo, hinf, hz]
 refine ⟨.tuple #[], w.setRow b (c.take off ++ List.replicate m z ++ c.drop (off + (List.replicate m z).length)).toArray, ?_, hK _ _ ?_ ⟨rfl, rfl, rfl, by simp, fun q _ hq => setRow_other w b q _ (fun e => hq (by simp [e]))⟩⟩
 ·simp only [Nat.add_zero] at hst
  obtain ⟨m', rfl⟩ : ∃ m', m = m' + 1 := ⟨m - 1, by omega⟩
  simp [Builtin.clear_, run_underlying ht, hv, hzl, hst, Kd.inj]
 ·have := setRow_heap w b c.toArray (c.take off ++ List.replicate m z ++ c.drop (off + (List.replicate m z).length)).toArray e _ hb
  rw [List.length_replicate] at this
  rw [List.length_replicate]
  exact this
set_option maxHeartbeats 2000000 in
theorem Delete_spec (h : Hp S w0 w its) (idx : Nat) {s : Sl} {l : List Int} (hi : its[idx]? = some (tSl s 2 1 iv l)) {i j : Nat} (hij : i ≤ j) (hj : j ≤ l.length) (hl : l.length ≤ 1000000) {K : Sl → World → Prop}
  (hK : ∀ s' w', Hp S w0 w' (its.set idx (tSl s' 2 1 iv (l.take i ++ l.drop j))) → K s' w') : c75 s (i : Int) (j : Int) w K := by
 refine c75_of ?_
 unfold f75
 obtain ⟨inf, q1, q2, q3, q4⟩ := FT.inf2
 have hsl := h.len (s := s) idx (by rw [hi]; rfl)
 have hsc := h.cap (s := s) idx (by rw [hi]; rfl)
 refine ⟨by omega, by omega, by omega, by simp only []; omega, ?_⟩
 by_cases hz : i = j
 ·refine ifT (by simp [hz]) (hK s w ?_)
  subst hz
  rw [List.take_append_drop, Hp.set_same hi]; exact h
 refine ifF (by simp; omega) ?_
 obtain ⟨O, hO, back⟩ := h.step hi rfl
 obtain ⟨b, off, c, ha, ho, hbk, _, hoff, htk⟩ : ∃ b off c, s.a = some ⟨b, off, none⟩ ∧ O = [b] ∧ Blk w b 2 c ∧ s.len ≤ s.cap ∧ off + s.cap * 1 ≤ c.length ∧ (c.drop off).take (s.len * 1) = l.flatMap iv := by
  rcases hO.2 with ⟨_, h0, _⟩ | h
  ·omega
  ·exact h
 subst ho
 rw [Nat.mul_one] at hoff htk
 refine Go.Den.dr fun w1 hf1 _ hb1 => ?_
 have hbk1 := hb1 _ _ _ hbk
 have hS1 : SlF w1 s 2 1 iv l [b] := ⟨hsl, .inr ⟨b, off, c, ha, rfl, hbk1, hsc, by rw [Nat.mul_one]; exact hoff, by rw [Nat.mul_one]; exact htk⟩⟩
 have hS3 : SlF w1 ⟨some ⟨b, off, none⟩, i, s.cap⟩ 2 1 iv (l.take i) [b] := by
  refine ⟨by rw [List.length_take]; show min i l.length = i; omega, .inr ⟨b, off, c, rfl, rfl, hbk1, by show i ≤ s.cap; omega, by show off + s.cap * 1 ≤ _; omega, ?_⟩⟩
  show (c.drop off).take (i * 1) = _
  rw [Nat.mul_one, ← fm_take iv_len, ← htk, List.take_take, Nat.mul_one, Nat.min_eq_left (by omega)]
 refine Cut_mk ha (by omega) (by omega) (by omega) (Int.le_refl _) (by simp; omega) ?_
 have t0 : (0 : Int).toNat = 0 := rfl
 have t1 : ((i : Nat) : Int).toNat = i := Int.toNat_natCast _
 have t2 : ((s.cap : Nat) : Int).toNat = s.cap := Int.toNat_natCast _
 have t3 : ((j : Nat) : Int).toNat = j := Int.toNat_natCast _
 have t4 : ((s.len : Nat) : Int).toNat = s.len := Int.toNat_natCast _
 simp only [t0, t1, t2, Nat.add_zero, Nat.sub_zero]
 refine ⟨by omega, by omega, by omega, by simp only []; omega, ?_⟩
 simp only [t2, t3, t4, ha]
 have hcell : ∀ x : Addr, (s.len - j ≠ 0 → x = ⟨b, off + j, none⟩) → ∀ p u, ((l.drop j).flatMap iv)[p]? = some u → w1.cell? (x.add p) = some u := by
  intro x hx p u hp
  have hpl := (List.getElem?_eq_some_iff.1 hp).1
  rw [iv_fml, List.length_drop] at hpl
  rw [hx (by omega), Addr.add_none, hbk1.cell]
  have : c[off + j + p]? = (l.flatMap iv)[j + p]? := by
   rw [← htk, List.getElem?_take, if_pos (by omega), List.getElem?_drop]; congr 1; omega
  rw [this]
  have hjd : (l.drop j).flatMap iv = (l.flatMap iv).drop j := by
   have := fm_drop iv_len l j
   rw [Nat.mul_one] at this; exact this.symm
  rw [hjd, List.getElem?_drop] at hp
  exact hp
 have main : ∀ x : Addr, (s.len - j ≠ 0 → x = ⟨b, off + j, none⟩) → Run .sl Try.prog (Builtin.append_ #[34, 34] 34 #[.slice (some ⟨b, off, none⟩) i s.cap, .slice (some x) (s.len - j) (s.cap - j)]) w1 fun (s5 : Sl) (w : World) =>
   Cut ⟨s5.a, s5.len, s5.cap⟩ (s5.len : Int) (s.len : Int) (s5.cap : Int) 1 fun (s6 : Sl) =>
   Run .v Try.prog (Builtin.clear_ #[34] 0 #[.slice s6.a s6.len s6.cap]) w fun (n_ : Value) (w : World) => K s5 w := by
  intro x hx
  refine SlF.app_in (s := ⟨some ⟨b, off, none⟩, i, s.cap⟩) (m := s.len - j) (news := l.drop j) iv_len FT.und34 q1 q3 hS3 (by rw [List.length_drop]; omega) (hcell x hx) (fun u hu => by
   obtain ⟨y, _, hy⟩ := List.mem_flatMap.1 hu
   simp only [iv, List.mem_singleton] at hy
   subst hy; rfl) (by simp) (by simp only []; omega) fun w2 hS5 hf2 => ?_
  simp only []
  obtain ⟨c2, hbk2, hoff2, htk2⟩ : ∃ c2, Blk w2 b 2 c2 ∧ off + s.cap ≤ c2.length ∧ (c2.drop off).take (i + (s.len - j)) = (l.take i ++ l.drop j).flatMap iv := by
   rcases hS5.2 with ⟨h0, _⟩ | ⟨b', off', c', h0, ho, g1, g2, g3, g4⟩
   ·cases h0
   ·injection h0 with h0
    injection h0 with h0 h0'
    subst h0 h0'
    exact ⟨c', g1, by simpa using g3, by simpa using g4⟩
  refine Cut_mk (b := b) (off := off) rfl (by omega) (by omega) (by omega) (Int.le_refl _) (by simp only [Int.toNat_natCast]; omega) ?_
  have t5 : ((i + (s.len - j) : Nat) : Int).toNat = i + (s.len - j) := Int.toNat_natCast _
  simp only [t4, t5]
  refine clear_raw hbk2 FT.und34 q1 q2 rfl rfl (by omega) (by omega) fun v w3 hbk3 hf3 => ?_
  have hfw : Fr [b] w w3 := ((hf1.mono (S' := [b]) (by simp)).trans hf2 (fun k hk => .inl hk)).trans hf3 (fun k hk => .inl hk)
  refine hK _ w3 (back hfw (t' := tSl ⟨some ⟨b, off, none⟩, i + (s.len - j), s.cap⟩ 2 1 iv (l.take i ++ l.drop j)) (O' := [b]) ?_ (fun k hk => .inl hk) rfl)
  refine ⟨hS5.1, .inr ⟨b, off, _, rfl, rfl, hbk3, by show i + (s.len - j) ≤ s.cap; omega, ?_, ?_⟩⟩
  ·show off + s.cap * 1 ≤ _
   simp only [List.length_append, List.length_take, List.length_replicate, List.length_drop]
   omega
  ·show List.take ((i + (s.len - j)) * 1) _ = _
   rw [Nat.mul_one, ← htk2, List.append_assoc, List.drop_append_of_le_length (by simp; omega), List.take_append_of_le_length (by simp; omega), List.drop_take]
   rw [show off + (i + (s.len - j)) - off = i + (s.len - j) by omega, List.take_take, Nat.min_self]
 by_cases hcj : s.cap = j
 ·rw [if_pos hcj]
  exact main ⟨b, off, none⟩ (fun h0 => by omega)
 ·rw [if_neg hcj]
  simp only [Option.map_some, Nat.mul_one, Addr.add_none]
  exact main ⟨b, off + j, none⟩ (fun _ => rfl)
def WA.remove (a : WA) (e : Ent) (kind : Int) : WA × Int :=
 if (a.ask e kind).2 ≠ 0 then (a, (a.ask e kind).2) else
 if (a.ask e kind).1.1.getD (a.ask e kind).1.2.1 none = none then (a, 62) else (a.put e ((a.ask e kind).1.1.set (a.ask e kind).1.2.1 none), 0)
set_option maxHeartbeats 4000000 in
theorem Remove_W (h : Hp S w0 w its) (i : Nat) {b : Nat} {a : WA} {e : Ent} {kind : Int} (hi : its[i]? = some (tW b a)) (k1 : -9223372036854775808 ≤ kind) (k2 : kind ≤ 9223372036854775807) {K : Int → World → Prop}
  (hK : ∀ w', Hp S w0 w' (its.set i (tW b (a.remove e kind).1)) → K (a.remove e kind).2 w') : c52 (some ⟨b, 0, none⟩) e.1 e.2 kind w K := by
 refine c52_of ?_
 unfold f52
 obtain ⟨O, h1, back⟩ := h.f1 hi rfl
 clear h
 obtain ⟨q, hok, ht, hk, h⟩ := W_open h1
 have hkl : (kinds q.xs).length = q.xs.length := by simp [kinds]
 have hal := hok.len
 have h12 : q.xs.length ≤ 12 := by rw [hk] at hkl; omega
 have h4k := hok.four
 have h4 : ∀ x ∈ q.xs, x.2.2.length ≤ 4 := fun x hx => h4k (x.1, x.2.2) (by rw [← hk]; exact List.mem_map.2 ⟨x, hx, rfl⟩)
 have fin : ∀ {w' : World} {a' : WA}, Hp O w w' [tW b a'] → Hp S w0 w' (its.set i (tW b a')) := fun {w' a'} h => by
  have := back (rest := []) rfl rfl h
  rwa [List.append_nil] at this
 refine h.nw (c := [_, _]) fun eb w1 h => ?_
 have h := h.up
 refine h.ld0 (k := .i .i64) (x := e.1) 8 rfl rfl ?_
 refine h.ld (n := 1) (k := .i .i64) (x := e.2) 8 rfl rfl ?_
 have same : ∀ {w3 : World}, Hp O w w3 (q.all b a.m tEmp ++ [tBlk eb 33 [.int .i64 e.1, .int .i64 e.2]]) → Hp S w0 w3 (its.set i (tW b a)) := fun {w3} h =>
  fin (W_shut (rest := []) hok ht hk rfl rfl (by rw [List.append_nil]; exact h.front))
 refine asked_W h hok ht hk k1 k2 fun w3 h => ⟨fun hr => ?_, fun p hr hf => ?_, fun p r k hr hkind hkr => ?_⟩
 ·have hg : a.remove e kind = (a, 41) := by unfold WA.remove; rw [ask_none hr, if_pos (by decide)]
  rw [hg] at hK
  exact ifT rfl (hK w3 (same h))
 ·have hg : a.remove e kind = (a, 60) := by unfold WA.remove; rw [ask_kind hr hf, if_pos (by decide)]
  rw [hg] at hK
  exact ifT rfl (hK w3 (same h))
 ·subst hkind
  have hask := ask_some (a := a) (e := e) hr hkr
  refine ifF (by simp) ?_
  have hfit := ht.fit e p hr
  have hrl : r < p.length := by rw [hfit.1]; exact (List.getElem?_eq_some_iff.1 hkr).1
  have hp12 : p.length ≤ 12 := by rw [hfit.1]; omega
  have hs1 := setI_lt hp12
  have hs0 := setI_nn p
  cases hh : p.getD r none with
  | none =>
   have hg : a.remove e ((r + 1 : Nat) : Int) = (a, 62) := by unfold WA.remove; rw [hask, if_neg (by simp), if_pos hh]
   rw [hg] at hK
   exact ifT rfl (hK w3 (same h))
  | some v =>
   refine ifF (by simp) ?_
   have hpr := getD_some hh
   have hg : a.remove e ((r + 1 : Nat) : Int) = (a.put e (p.set r none), 0) := by
    unfold WA.remove; rw [hask, if_neg (by simp), if_neg (by rw [hh]; simp)]
   rw [hg] at hK
   have his : (a.row e).isSome = true := by rw [hr]; rfl
   have hok' := WA.put_ok hok his (flat_rngOff (hok.rng e p hr) r)
   refine at_spec h 0 2 3 (cells := [_, _, _]) rfl rfl rfl h12 h4 hs0 (by omega) (q := r) (by rw [hfit.1, ← hk, hkl] at hrl; omega) ?_
   rw [hk]
   refine h.ld0 (k := .i .i64) (x := e.1) 8 rfl rfl ?_
   refine h.ld (n := 1) (k := .i .i64) (x := e.2) 8 rfl rfl ?_
   refine leave_W h (row := a.row) (p := p) (by rw [hk]; exact ht) hr fun s T' w5 ht' h => ?_
   have h := h.up
   have hat := hfit.at (q := r) (by omega)
   have hall := hfit.all
   have hall4 := atF_le h4k (setI p) a.ks.length
   have hat4 := atF_le h4k (setI p) r
   have hvl := hfit.2 r v k hpr hkr
   have hv4 := h4k _ (List.mem_of_getElem? hkr)
   have hsum : atF a.ks (setI p) r + v.length ≤ (flat p).length := by rw [flat_split hpr, hat]; simp
   have hw : IntKind.i64.wrap (((atF a.ks (setI p) r : Nat) : Int) + (k.2.length : Int)) = ((atF a.ks (setI p) r + v.length : Nat) : Int) := by rw [wr64 (by omega) (by omega)]; omega
   rw [hw]
   refine Delete_spec h 8 (s := s) (l := flat p) rfl (Nat.le_add_right _ _) hsum (by omega) fun s' w6 h => ?_
   rw [← hfit.cut hpr] at h
   refine h.dr fun w7 h => ?_
   refine h.ld0 (k := .i .i64) (x := e.1) 9 rfl rfl ?_
   refine h.ld (n := 1) (k := .i .i64) (x := e.2) 9 rfl rfl ?_
   refine ⟨by omega, ?_⟩
   rw [setI_del hp12 hrl]
   have h : Hp O w w7 (({ q with T := T' } : WH).all b { a.m with sets := upd1 a.m.sets e none } tEmp ++ (tSl s' 2 1 iv (flat (p.set r none)) :: [tBlk eb 33 [.int .i64 e.1, .int .i64 e.2]])) := h
   have h := all_swap h
   have hfit' : PL.fit a.ks (p.set r none) := hfit.off r
   refine enter_W h (row := upd1 a.row e none) (e := e) (p := p.set r none) ht' (by show mayOk (kinds q.xs); rw [hk]; exact hok.may) (by unfold upd1; rw [if_pos rfl]) (by show PL.fit (kinds q.xs) _; rw [hk]; exact hfit') (gone_few hok his) Hp.rdSl fun T2 w8 ht2 h => ?_
   have h : Hp O w w8 (({ q with T := T2 } : WH).all b { a.m with sets := upd1 (upd1 a.m.sets e none) e (some (setI (p.set r none))) } (tSl s' 2 1 iv (flat (p.set r none))) ++ [tEmp, tBlk eb 33 [.int .i64 e.1, .int .i64 e.2]]) := h
   rw [upd_upd] at ht2
   refine hK w8 (fin (W_shut (rest := []) (m := { a.m with sets := upd1 (upd1 a.m.sets e none) e (some (setI (p.set r none))) }) (q := { q with T := T2 }) hok' ?_ hk rfl ?_ (by rw [List.append_nil]; exact h.front)))
   ·show Tabs a.ks (upd1 a.row e (some (p.set r none))) (fun x => (upd1 a.row e (some (p.set r none)) x).map setI) _
    rw [upd_sets, ← hk]
    have : upd1 (upd1 a.m.sets e none) e (some (setI (p.set r none))) = upd1 (fun x => (a.row x).map setI) e ((some (p.set r none)).map setI) := by rw [upd_updI]; rfl
    rw [← this]
    exact ht2
   ·show upd1 (upd1 a.m.sets e none) e _ = _
    rw [upd_updI]
    exact (upd_sets a.row e (some (p.set r none))).symm
end
end Go.Proofs.Ythmbjlpgbkkjjaa.FW
end
