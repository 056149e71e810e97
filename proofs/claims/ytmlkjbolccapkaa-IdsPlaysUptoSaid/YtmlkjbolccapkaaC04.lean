/-
  Contracts of package ids: what each function does to a pool.
-/
import Derived.Test.YtmlkjbolccapkaaF04
import Derived.Test.YtmlkjbolccapkaaDenU
set_option linter.unusedSimpArgs false
set_option linter.unusedVariables false
namespace Go.Proofs.Ytmlkjbolccapkaa.F
open Go Go.Den Go.Proofs

/-- What a pool holds. -/
structure PoolM where
  most : Int
  gens : List Int
  alive : List Bool
  free : List Int

namespace PoolM
def lives (m : PoolM) (i : Int) : Bool := decide (0 ≤ i) && m.alive.getD i.toNat false
def gen (m : PoolM) (i : Int) : Int := m.gens.getD i.toNat 0

structure Ok (m : PoolM) : Prop where
  most1 : 1 ≤ m.most
  most2 : m.most ≤ 200
  len : m.alive.length = m.gens.length
  le : (m.gens.length : Int) ≤ m.most
  gens : ∀ g ∈ m.gens, 1 ≤ g ∧ g ≤ 1000000
  free : ∀ i ∈ m.free, 0 ≤ i ∧ i < m.gens.length ∧ m.lives i = false ∧ m.gen i < 1000000
  nodup : m.free.Nodup
  cnt : m.free.length + m.alive.count true ≤ m.gens.length

theorem Ok.len200 {m : PoolM} (h : m.Ok) : m.gens.length ≤ 200 := by have := h.most2; have := h.le; omega

def give (m : PoolM) (i g : Int) : PoolM := { m with alive := m.alive.set i.toNat false, free := if g < 1000000 then m.free ++ [i] else m.free }

def takeFree (m : PoolM) (i : Int) (rest : List Int) : PoolM := { m with gens := m.gens.set i.toNat (m.gen i + 1), alive := m.alive.set i.toNat true, free := rest }
def takeNew (m : PoolM) : PoolM := { m with gens := m.gens ++ [1], alive := m.alive ++ [true] }
end PoolM

def ints (l : List Int) : List Value := l.map (Value.int .i64)
def bools (l : List Bool) : List Value := l.map Value.bool

theorem ints_get {l : List Int} {i : Nat} (h : i < l.length) : (ints l)[i]? = some (Kd.inj (.i .i64) l[i]) := by simp [ints, h, Kd.inj]
theorem bools_get {l : List Bool} {i : Nat} (h : i < l.length) : (bools l)[i]? = some (Kd.inj .b l[i]) := by simp [bools, h, Kd.inj]

def PoolAt (w : World) (b : Nat) (m : PoolM) (O : List Nat) : Prop :=
  ∃ (sg sa sf : Sl) (og oa of_ : List Nat), Blk w b 60 [.int .i64 m.most, .slice sg.a sg.len sg.cap, .slice sa.a sa.len sa.cap, .slice sf.a sf.len sf.cap] ∧
    SlAt w sg 3 (ints m.gens) og ∧ SlAt w sa 4 (bools m.alive) oa ∧ SlAt w sf 3 (ints m.free) of_ ∧ O = b :: (og ++ oa ++ of_) ∧ O.Nodup

theorem PoolAt.fr {S : List Nat} {w w' : World} {b : Nat} {m : PoolM} {O : List Nat} (h : PoolAt w b m O) (hf : Fr S w w') (hn : ∀ k ∈ O, k ∉ S) : PoolAt w' b m O := by
  obtain ⟨sg, sa, sf, og, oa, of_, h1, h2, h3, h4, rfl, h6⟩ := h
  exact ⟨sg, sa, sf, og, oa, of_, h1.fr hf (hn b (by simp)), h2.fr hf (fun k hk => hn k (by simp [hk])), h3.fr hf (fun k hk => hn k (by simp [hk])), h4.fr hf (fun k hk => hn k (by simp [hk])), rfl, h6⟩

theorem PoolAt.lt {w : World} {b : Nat} {m : PoolM} {O : List Nat} (h : PoolAt w b m O) : ∀ k ∈ O, k < w.heap.size := by
  obtain ⟨sg, sa, sf, og, oa, of_, h1, h2, h3, h4, rfl, h6⟩ := h
  intro k hk
  simp only [List.mem_cons, List.mem_append] at hk
  rcases hk with rfl | (hk | hk) | hk
  · exact h1.lt
  · exact h2.lt k hk
  · exact h3.lt k hk
  · exact h4.lt k hk

/-- New: a pool of nothing. -/
theorem New_bad {n : Int} {w : World} {K : Option Addr → Int → World → Prop} (hn : n < 1 ∨ 200 < n) (hK : K none 1 w) : c7 n w K := by
  refine c7_of ?_
  unfold f7
  rw [if_pos]
  · exact hK
  · by_cases h : n < 1
    · simp [h]
    · simp [h]; omega

theorem New_ok {n : Int} {w : World} {K : Option Addr → Int → World → Prop} (h1 : 1 ≤ n) (h2 : n ≤ 200)
    (hK : ∀ b w', w.heap.size ≤ b → b < w'.heap.size → PoolAt w' b ⟨n, [], [], []⟩ [b] → Fr [] w w' → K (some ⟨b, 0, none⟩) 0 w') : c7 n w K := by
  refine c7_of ?_
  unfold f7
  rw [if_neg]
  · refine nw fun b w' hb hbk hf hs => ?_
    exact hK b w' (by omega) (by omega) ⟨⟨none, 0, 0⟩, ⟨none, 0, 0⟩, ⟨none, 0, 0⟩, [], [], [], hbk, SlAt.nil, SlAt.nil, SlAt.nil, rfl, by simp⟩ hf
  · have h3 : ¬ n < 1 := by omega
    have h4 : ¬ n > 200 := by omega
    simp [h3, h4]

/-- At. -/
theorem At_spec {b : Nat} {i : Int} {w : World} {m : PoolM} {O : List Nat} {K : Int → Int → Int → World → Prop} (h : PoolAt w b m O) (hlen : m.alive.length = m.gens.length)
    (hK : ∀ w', Fr [] w w' → if m.lives i = true then K i (m.gen i) 0 w' else K 0 0 41 w') : c11 (some ⟨b, 0, none⟩) i w K := by
  refine c11_of ?_
  unfold f11
  refine nw fun a w1 ha hba f1 s1 => ?_
  have h' := h.fr f1 (by simp)
  obtain ⟨sg, sa, sf, og, oa, of_, hb, hg, hal, hfr, rfl, hnd⟩ := h'
  refine ⟨fun t w' => w' = w1 ∧ t = !m.lives i, ?_, ?_⟩
  · by_cases h0 : i < 0
    · rw [if_pos (by simpa using h0)]
      have : ¬ 0 ≤ i := by omega
      simp [PoolM.lives, this]
    · rw [if_neg (by simpa using h0)]
      simp only [NN_some]
      refine ldf (k := .sl) (x := sg) hb rfl ?_
      by_cases hge : i ≥ (sg.len : Int)
      · rw [if_pos (by simpa using hge)]
        have hl := hg.len
        have h1 : m.alive.length ≤ i.toNat := by rw [hlen]; simp [ints] at hl; omega
        simp [PoolM.lives, List.getD_eq_getElem?_getD, List.getElem?_eq_none h1]
      · rw [if_neg (by simpa using hge)]
        refine ldf (k := .sl) (x := sa) hb rfl ?_
        have hl := hg.len
        have h1 : i.toNat < m.alive.length := by rw [hlen]; simp [ints] at hl; omega
        refine ixld hal (by omega) (bools_get h1) ?_
        have h2 : 0 ≤ i := by omega
        simp [PoolM.lives, h1, h2]
  · rintro t w' ⟨rfl, rfl⟩
    cases hlv : m.lives i with
    | true =>
      simp only [Bool.not_true, Bool.false_eq_true, if_false, NN_some]
      simp only [PoolM.lives, Bool.and_eq_true, decide_eq_true_eq] at hlv
      have h1 : i.toNat < m.alive.length := by
        refine Nat.lt_of_not_le fun hle => ?_
        have := hlv.2
        simp [List.getD_eq_getElem?_getD, List.getElem?_eq_none hle] at this
      refine ldf (k := .sl) (x := sg) hb rfl ?_
      refine ixld hg hlv.1 (ints_get (by omega)) ?_
      refine st (o := 0) hba (by simp) rfl fun w2 hba2 f2 s2 => ?_
      refine stf hba2 (by simp) rfl fun w3 hba3 f3 s3 => ?_
      refine ld (k := .i .i64) hba3 rfl ?_
      refine ldf (k := .i .i64) hba3 rfl ?_
      have hlv' : m.lives i = true := by simp only [PoolM.lives, Bool.and_eq_true, decide_eq_true_eq]; exact hlv
      have := hK w3 ((f1.trans f2 (by simp [ha])).trans f3 (by simp [ha]))
      rw [if_pos hlv'] at this
      have hge : m.gen i = m.gens[i.toNat] := by simp [PoolM.gen, show i.toNat < m.gens.length by omega]
      rw [hge] at this
      exact this
    | false =>
      simp only [Bool.not_false, if_true]
      refine st (o := 0) hba (by simp) rfl fun w2 hba2 f2 s2 => ?_
      refine stf hba2 (by simp) rfl fun w3 hba3 f3 s3 => ?_
      refine ld (k := .i .i64) hba3 rfl ?_
      refine ldf (k := .i .i64) hba3 rfl ?_
      have := hK w3 ((f1.trans f2 (by simp [ha])).trans f3 (by simp [ha]))
      rw [hlv] at this
      simpa using this

theorem eqEnt {x y : Operand} {a b c d : Int} {w : World} {K : Bool → Prop} (hK : K (a == c && b == d)) :
    RunRo .b Try.prog (binSem .eql 31 x y (.agg #[.int .i64 a, .int .i64 b]) (.agg #[.int .i64 c, .int .i64 d])) w K := by
  refine runEq (r := (a == c && (b == d && true))) (by kernel_rfl) (by kernel_rfl) (by kernel_rfl) (by kernel_rfl) ?_
  rw [Bool.and_true]; exact hK

theorem neEnt {x y : Operand} {a b c d : Int} {w : World} {K : Bool → Prop} (hK : K (!(a == c && b == d))) :
    RunRo .b Try.prog (binSem .neq 31 x y (.agg #[.int .i64 a, .int .i64 b]) (.agg #[.int .i64 c, .int .i64 d])) w K := by
  refine runNe (r := (a == c && (b == d && true))) (by kernel_rfl) (by kernel_rfl) (by kernel_rfl) (by kernel_rfl) ?_
  rw [Bool.and_true]; exact hK

/-- Lives. -/
def PoolM.is (m : PoolM) (i g : Int) : Bool := m.lives i && (m.gen i == g)

theorem Lives_spec {b : Nat} {i g : Int} {w : World} {m : PoolM} {O : List Nat} {K : Bool → World → Prop} (h : PoolAt w b m O) (hlen : m.alive.length = m.gens.length)
    (hK : ∀ w', Fr [] w w' → K (m.is i g) w') : c12 (some ⟨b, 0, none⟩) i g w K := by
  refine c12_of ?_
  unfold f12
  refine nw fun a w1 ha hba f1 s1 => ?_
  have h1 := h.fr f1 (by simp)
  refine ld (k := .i .i64) hba rfl ?_
  refine At_spec h1 hlen fun w2 f2 => ?_
  have hba2 := hba.fr f2 (by simp)
  have fin : ∀ (i' g' e' : Int), (if m.lives i = true then i' = i ∧ g' = m.gen i ∧ e' = 0 else i' = 0 ∧ g' = 0 ∧ e' = 41) →
      Nw (.cells #[.int .i64 0, .int .i64 0] 31) w2 fun (x : Addr) (w : World) =>
      St x (.int .i64 i') w fun (w : World) =>
      St (x.add 1) (.int .i64 g') w fun (w : World) =>
      if (e' == 0) = true then (Ld (.i .i64) w x fun (x_Index2 : Int) => Ld (.i .i64) w (x.add 1) fun (x_Gen2 : Int) =>
      Ld (.i .i64) w ⟨a, 0, none⟩ fun (e_Index2 : Int) => Ld (.i .i64) w ((⟨a, 0, none⟩ : Addr).add 1) fun (e_Gen2 : Int) =>
      RunRo .b Try.prog (binSem .eql 31 (.tmp 17) (.tmp 18) (.agg #[.int .i64 x_Index2, .int .i64 x_Gen2]) (.agg #[.int .i64 e_Index2, .int .i64 e_Gen2])) w fun (eq : Bool) =>
      K eq w) else (K false w) := by
    intro i' g' e' he
    refine nw fun x w3 hx hbx f3 s3 => ?_
    refine st (o := 0) hbx (by simp) rfl fun w4 hbx4 f4 s4 => ?_
    refine stf hbx4 (by simp) rfl fun w5 hbx5 f5 s5 => ?_
    have hlta := hba.lt
    have hlta2 := hba2.lt
    have hba5 := ((hba2.fr f3 (by simp)).fr f4 (by simp; omega)).fr f5 (by simp; omega)
    have hf : Fr [] w w5 := ((((f1.trans f2 (by simp)).trans f3 (by simp)).trans f4 (by
      have := f1.size; have := f2.size; simp; omega)).trans f5 (by have := f1.size; have := f2.size; simp; omega))
    have hK5 := hK w5 hf
    cases hl : m.lives i with
    | true =>
      rw [hl] at he
      simp only [if_true] at he
      obtain ⟨rfl, rfl, rfl⟩ := he
      rw [if_pos (by rfl)]
      refine ld (k := .i .i64) hbx5 rfl ?_
      refine ldf (k := .i .i64) hbx5 rfl ?_
      refine ld (k := .i .i64) hba5 rfl ?_
      refine ldf (k := .i .i64) hba5 rfl ?_
      refine eqEnt ?_
      simpa [PoolM.is, hl] using hK5
    | false =>
      rw [hl] at he
      simp only [Bool.false_eq_true, if_false] at he
      obtain ⟨rfl, rfl, rfl⟩ := he
      rw [if_neg (by simp)]
      simpa [PoolM.is, hl] using hK5
  split
  · rename_i hl; exact fin _ _ _ (by rw [if_pos hl]; exact ⟨rfl, rfl, rfl⟩)
  · rename_i hl; exact fin _ _ _ (by rw [if_neg hl]; exact ⟨rfl, rfl, rfl⟩)

theorem ints_set {l : List Int} {i : Nat} {v : Int} : (ints l).set i (.int .i64 v) = ints (l.set i v) := by simp [ints, List.map_set]
theorem bools_set {l : List Bool} {i : Nat} {v : Bool} : (bools l).set i (.bool v) = bools (l.set i v) := by simp [bools, List.map_set]
theorem ints_len {l : List Int} : (ints l).length = l.length := by simp [ints]
theorem bools_len {l : List Bool} : (bools l).length = l.length := by simp [bools]

theorem lives_lt {m : PoolM} {i : Int} (h : m.lives i = true) : 0 ≤ i ∧ i.toNat < m.alive.length ∧ m.alive[i.toNat]? = some true := by
  simp only [PoolM.lives, Bool.and_eq_true, decide_eq_true_eq] at h
  obtain ⟨h0, h1⟩ := h
  have hlt : i.toNat < m.alive.length := by
    refine Nat.lt_of_not_le fun hle => ?_
    simp [List.getD_eq_getElem?_getD, List.getElem?_eq_none hle] at h1
  refine ⟨h0, hlt, ?_⟩
  simp only [List.getD_eq_getElem?_getD] at h1
  cases hx : m.alive[i.toNat]? with
  | none => simp [hx] at h1
  | some b => simp [hx] at h1; rw [h1]

theorem bytes3 : ∃ inf : TypeInfo, Try.prog.info? 3 = some inf ∧ inf.zero = some (.int .i64 0) ∧ inf.size = 1 ∧ inf.bytes = 8 := infoP (by kernel_rfl)
theorem bytes4 : ∃ inf : TypeInfo, Try.prog.info? 4 = some inf ∧ inf.zero = some (.bool false) ∧ inf.size = 1 ∧ inf.bytes = 1 := infoP (by kernel_rfl)
theorem und22 : Try.prog.underlying 22 = some (.slice 3) := by kernel_rfl
theorem und58 : Try.prog.underlying 58 = some (.slice 4) := by kernel_rfl

/-- append of one number. -/
theorem appI {s : Sl} {w : World} {vs : List Int} {o : List Nat} {b : Nat} {v : Int} {K : Sl → World → Prop} (h : SlAt w s 3 (ints vs) o) (hb : Blk w b 3 [.int .i64 v]) (hn : vs.length ≤ 1000000000)
    (hK : ∀ s' w' o', SlAt w' s' 3 (ints (vs ++ [v])) o' → (o' = o ∨ ∃ n, w.heap.size ≤ n ∧ n < w'.heap.size ∧ o' = [n]) → Fr o w w' → s'.a ≠ none → K s' w') :
    Run .sl Try.prog (Builtin.append_ #[22, 22] 22 #[.slice s.a s.len s.cap, .slice (some ⟨b, 0, none⟩) 1 1]) w K := by
  obtain ⟨inf, h1, h4, h2, h3⟩ := bytes3
  have hl := h.len
  rw [ints_len] at hl
  refine app (news := [.int .i64 v]) und22 h1 h2 h4 rfl h rfl ?_ (by simp [Value.oneCell']) (by rw [h3]; omega) (by omega) ?_
  · intro j u hj
    cases j with
    | zero => simp only [List.getElem?_cons_zero, Option.some.injEq] at hj; subst hj; rw [Addr.add_none, hb.cell]; rfl
    | succ j => simp at hj
  · intro s' w' o' g1 g2 g3 g4 g5
    exact hK s' w' o' (by simpa [ints] using g1) g3 g4 (g5 (by simp))

theorem appB {s : Sl} {w : World} {vs : List Bool} {o : List Nat} {b : Nat} {v : Bool} {K : Sl → World → Prop} (h : SlAt w s 4 (bools vs) o) (hb : Blk w b 4 [.bool v]) (hn : vs.length ≤ 1000000000)
    (hK : ∀ s' w' o', SlAt w' s' 4 (bools (vs ++ [v])) o' → (o' = o ∨ ∃ n, w.heap.size ≤ n ∧ n < w'.heap.size ∧ o' = [n]) → Fr o w w' → s'.a ≠ none → K s' w') :
    Run .sl Try.prog (Builtin.append_ #[58, 58] 58 #[.slice s.a s.len s.cap, .slice (some ⟨b, 0, none⟩) 1 1]) w K := by
  obtain ⟨inf, h1, h4, h2, h3⟩ := bytes4
  have hl := h.len
  rw [bools_len] at hl
  refine app (news := [.bool v]) und58 h1 h2 h4 rfl h rfl ?_ (by simp [Value.oneCell']) (by rw [h3]; omega) (by omega) ?_
  · intro j u hj
    cases j with
    | zero => simp only [List.getElem?_cons_zero, Option.some.injEq] at hj; subst hj; rw [Addr.add_none, hb.cell]; rfl
    | succ j => simp at hj
  · intro s' w' o' g1 g2 g3 g4 g5
    exact hK s' w' o' (by simpa [bools] using g1) g3 g4 (g5 (by simp))

/-- Give. -/
theorem Give_spec {b : Nat} {i g : Int} {w : World} {m : PoolM} {O : List Nat} {K : Int → World → Prop} (h : PoolAt w b m O) (hm : m.Ok)
    (hK : ∀ w' O', PoolAt w' b (if m.is i g = true then m.give i g else m) O' → (∀ k ∈ O', k ∈ O ∨ w.heap.size ≤ k) → Fr O w w' → K (if m.is i g = true then 0 else 41) w') :
    c8 (some ⟨b, 0, none⟩) i g w K := by
  refine c8_of ?_
  unfold f8
  refine nw fun a w1 ha hba f1 s1 => ?_
  have h1 := h.fr f1 (by simp)
  refine ld (k := .i .i64) hba rfl ?_
  refine ldf (k := .i .i64) hba rfl ?_
  refine Lives_spec h1 hm.len fun w2 f2 => ?_
  have h2 := h1.fr f2 (by simp)
  have hba2 := hba.fr f2 (by simp)
  have f12 : Fr [] w w2 := f1.trans f2 (by simp)
  cases hb : m.is i g with
  | false =>
    simp only [Bool.not_false, if_true]
    have := hK w2 O (by rw [hb]; simpa using h2) (fun k hk => .inl hk) (f12.mono (by simp))
    rw [hb] at this
    simpa using this
  | true =>
    simp only [Bool.not_true, Bool.false_eq_true, if_false, NN_some]
    have hlv : m.lives i = true := by simp only [PoolM.is, Bool.and_eq_true] at hb; exact hb.1
    have hgen : m.gen i = g := by simp only [PoolM.is, Bool.and_eq_true, beq_iff_eq] at hb; exact hb.2
    obtain ⟨hi0, hilt, hial⟩ := lives_lt hlv
    refine dr fun w3 f3 s3 kp3 => ?_
    have h3 := h2.fr f3 (by simp)
    have hba3 := kp3 _ _ _ hba2
    have hlt := h3.lt
    obtain ⟨sg, sa, sf, og, oa, of_, hbk, hg, hal, hfr, rfl, hnd⟩ := h3
    refine ldf (k := .sl) (x := sa) hbk rfl ?_
    refine ld (k := .i .i64) hba3 rfl ?_
    refine ixst hal hi0 (by rw [bools_len]; exact hilt) rfl fun w4 hal4 f4 s4 => ?_
    rw [bools_set] at hal4
    have hsz : w.heap.size ≤ a := by omega
    have ha4 : a ∉ oa := fun hm' => by
      have := h.lt a (by simp [hm'])
      omega
    have hba4 := hba3.fr f4 ha4
    simp only [List.nodup_cons, List.mem_append, List.nodup_append, not_or] at hnd
    have hbk4 := hbk.fr f4 (fun hm' => hnd.1.1.2 hm')
    have hg4 := hg.fr f4 (fun k hk hk' => hnd.2.1.2.2 k hk k hk' rfl)
    have hfr4 := hfr.fr f4 (fun k hk hk' => hnd.2.2.2 k (.inr hk') k hk rfl)
    have f14 : Fr (b :: (og ++ oa ++ of_)) w w4 := (f12.trans f3 (by simp)).mono (by simp) |>.trans f4 (fun k hk => .inl (by simp [hk]))
    refine ldf (k := .i .i64) hba4 rfl ?_
    by_cases hg1 : g < 1000000
    · rw [if_pos (by simpa using hg1)]
      refine dr fun w5 f5 s5 kp5 => ?_
      have hbk5 := kp5 _ _ _ hbk4
      have hba5 := kp5 _ _ _ hba4
      have hg5 := hg4.fr f5 (by simp)
      have hal5 := hal4.fr f5 (by simp)
      have hfr5 := hfr4.fr f5 (by simp)
      refine ldf (k := .sl) (x := sf) hbk5 rfl ?_
      refine ld (k := .i .i64) hba5 rfl ?_
      refine nw fun c w6 hc hbc f6 s6 => ?_
      have hfl : m.free.length ≤ 200 := by have := hm.cnt; have := hm.len200; omega
      refine appI (hfr5.fr f6 (by simp)) hbc (by omega) fun s' w7 o' hs' ho' f7 _ => ?_
      have hlt6 : ∀ k ∈ b :: (og ++ oa ++ of_), k < w6.heap.size := fun k hk => by
        have := hlt k hk; have := f4.size; have := f5.size; have := f6.size; omega
      have hbk7 := (hbk5.fr f6 (by simp)).fr f7 (fun hm' => hnd.1.2 hm')
      have hg7 := (hg5.fr f6 (by simp)).fr f7 (fun k hk hk' => hnd.2.2.2 k (.inl hk) k hk' rfl)
      have hal7 := (hal5.fr f6 (by simp)).fr f7 (fun k hk hk' => hnd.2.2.2 k (.inr hk) k hk' rfl)
      refine stf hbk7 (by simp) rfl fun w8 hbk8 f8 s8 => ?_
      have hob : b ∉ o' := by
        rcases ho' with rfl | ⟨n, h1, _, rfl⟩
        · exact hnd.1.2
        · have := hlt6 b (by simp); simp; omega
      have hog : ∀ k ∈ og ++ oa, k ∉ o' := fun k hk => by
        rcases ho' with rfl | ⟨n, h1, _, rfl⟩
        · exact fun hk' => hnd.2.2.2 k (List.mem_append.1 hk) k hk' rfl
        · have := hlt6 k (List.mem_cons_of_mem _ (List.mem_append.2 (.inl hk))); simp; omega
      have hall : PoolAt w8 b (m.give i g) (b :: (og ++ oa ++ o')) := by
        refine ⟨sg, sa, s', og, oa, o', ?_, hg7.fr f8 ?_, ?_, ?_, rfl, ?_⟩
        · simpa [PoolM.give] using hbk8
        · intro k hk; simp; rintro rfl; exact hnd.1.1.1 hk
        · simp only [PoolM.give]; exact hal7.fr f8 (by intro k hk; simp; rintro rfl; exact hnd.1.1.2 hk)
        · simp only [PoolM.give, if_pos hg1]; exact hs'.fr f8 (by intro k hk; simp; rintro rfl; exact hob hk)
        · simp only [List.nodup_cons, List.mem_append, List.nodup_append, not_or]
          refine ⟨⟨hnd.1.1, hob⟩, hnd.2.1, ?_, ?_⟩
          · rcases ho' with rfl | ⟨n, _, _, rfl⟩
            · exact hnd.2.2.1
            · simp
          · intro x hx y hy hxy
            subst hxy
            exact hog x (List.mem_append.2 hx) hy
      have := hK w8 _ (by rw [hb, if_pos rfl]; exact hall) ?_ ?_
      · rw [hb] at this; simpa using this
      · intro k hk
        simp only [List.mem_cons, List.mem_append] at hk
        rcases hk with rfl | (hk | hk) | hk
        · left; simp
        · left; simp [hk]
        · left; simp [hk]
        · rcases ho' with rfl | ⟨n, h1, _, rfl⟩
          · left; simp [hk]
          · right; simp at hk; subst hk; have := f14.size; have := f5.size; have := f6.size; omega
      · refine (((f14.trans f5 (by simp)).trans f6 (by simp)).trans f7 (fun k hk => .inl (by simp [hk]))).trans f8 (by simp)
    · rw [if_neg (by simpa using hg1)]
      have := hK w4 (b :: (og ++ oa ++ of_)) ?_ (fun k hk => .inl hk) f14
      · rw [hb] at this; simpa using this
      · rw [hb, if_pos rfl]
        refine ⟨sg, sa, sf, og, oa, of_, ?_, hg4, ?_, ?_, rfl, ?_⟩
        · simpa [PoolM.give] using hbk4
        · simpa [PoolM.give] using hal4
        · simpa [PoolM.give, hg1] using hfr4
        · simp only [List.nodup_cons, List.mem_append, List.nodup_append, not_or]; exact hnd

theorem gen_get {m : PoolM} {i : Int} (h : i.toNat < m.gens.length) : (ints m.gens)[i.toNat]? = some (Kd.inj (.i .i64) (m.gen i)) := by
  rw [ints_get h]; simp [PoolM.gen, h]

/-- Take, of the free row. -/
theorem Take_free {b : Nat} {i : Int} {rest : List Int} {w : World} {m : PoolM} {O : List Nat} {K : Int → Int → Int → World → Prop} (h : PoolAt w b m O) (hm : m.Ok) (hf : m.free = i :: rest)
    (hK : ∀ w' , PoolAt w' b (m.takeFree i rest) O → Fr O w w' → K i (m.gen i + 1) 0 w') :
    c9 (some ⟨b, 0, none⟩) w K := by
  have hi := hm.free i (by rw [hf]; simp)
  have hgl : i.toNat < m.gens.length := by omega
  have hge : 1 ≤ m.gen i ∧ m.gen i ≤ 1000000 := by
    have := hm.gens (m.gens[i.toNat]) (by simp)
    simpa [PoolM.gen, hgl] using this
  refine c9_of ?_
  unfold f9
  simp only [NN_some]
  refine nw fun a w1 ha hba f1 s1 => ?_
  have h1 := h.fr f1 (by simp)
  have hlt := h.lt
  obtain ⟨sg, sa, sf, og, oa, of_, hbk, hg, hal, hfr, rfl, hnd⟩ := h1
  have hnd' := hnd
  simp only [List.nodup_cons, List.mem_append, List.nodup_append, not_or] at hnd
  have haO : ∀ k ∈ b :: (og ++ oa ++ of_), k ≠ a := fun k hk e => by have := hlt k hk; omega
  refine ldf (k := .sl) (x := sf) hbk rfl ?_
  have hfl := hfr.len
  rw [hf, ints_len] at hfl
  rw [if_pos (by simp at hfl; simp; omega)]
  refine ldf (k := .sl) (x := sf) hbk rfl ?_
  refine ixld (x := i) hfr (by omega) (by rw [hf]; simp [ints, Kd.inj]) ?_
  refine ldf (k := .sl) (x := sf) hbk rfl ?_
  refine hfr.cut (n := 1) (by rw [hf, ints_len]; simp) fun s' hs' hsl => ?_
  refine stf hbk (by simp) rfl fun w2 hbk2 f2 s2 => ?_
  have hba2 := hba.fr f2 (by simp; exact fun e => haO b (by simp) e.symm)
  have hg2 := hg.fr f2 (by intro k hk; simp; rintro rfl; exact hnd.1.1.1 hk)
  have hal2 := hal.fr f2 (by intro k hk; simp; rintro rfl; exact hnd.1.1.2 hk)
  have hs2 := hs'.fr f2 (by intro k hk; simp; rintro rfl; exact hnd.1.2 hk)
  refine ldf (k := .sl) (x := sg) hbk2 rfl ?_
  refine ixld (x := m.gen i) hg2 hi.1 (gen_get hgl) ?_
  rw [wr64 (by omega) (by omega)]
  refine ixst hg2 hi.1 (by rw [ints_len]; exact hgl) rfl fun w3 hg3 f3 s3 => ?_
  rw [ints_set] at hg3
  have hba3 := hba2.fr f3 (fun hk => haO a (by simp [hk]) rfl)
  have hbk3 := hbk2.fr f3 hnd.1.1.1
  have hal3 := hal2.fr f3 (fun k hk hk' => hnd.2.1.2.2 k hk' k hk rfl)
  have hs3 := hs2.fr f3 (fun k hk hk' => hnd.2.2.2 k (.inl hk') k hk rfl)
  refine ldf (k := .sl) (x := sa) hbk3 rfl ?_
  have hall : i.toNat < m.alive.length := by rw [hm.len]; exact hgl
  refine ixst hal3 hi.1 (by rw [bools_len]; exact hall) rfl fun w4 hal4 f4 s4 => ?_
  rw [bools_set] at hal4
  have hba4 := hba3.fr f4 (fun hk => haO a (by simp [hk]) rfl)
  have hbk4 := hbk3.fr f4 hnd.1.1.2
  have hg4 := hg3.fr f4 (fun k hk hk' => hnd.2.1.2.2 k hk k hk' rfl)
  have hs4 := hs3.fr f4 (fun k hk hk' => hnd.2.2.2 k (.inr hk') k hk rfl)
  refine ldf (k := .sl) (x := sg) hbk4 rfl ?_
  refine ixld (x := m.gen i + 1) hg4 hi.1 (by rw [ints_get (by simpa using hgl)]; simp [Kd.inj]) ?_
  refine st (o := 0) hba4 (by simp) rfl fun w5 hba5 f5 s5 => ?_
  refine stf hba5 (by simp) rfl fun w6 hba6 f6 s6 => ?_
  refine ld (k := .i .i64) hba6 rfl ?_
  refine ldf (k := .i .i64) hba6 rfl ?_
  have f56 : Fr [a] w4 w6 := f5.trans f6 (by simp)
  refine hK w6 ?_ ?_
  · refine ⟨sg, sa, s', og, oa, of_, ?_, ?_, ?_, ?_, rfl, hnd'⟩
    · have := hbk4.fr f56 (by simp; exact haO b (by simp))
      simpa [PoolM.takeFree] using this
    · have := hg4.fr f56 (by intro k hk; simp; exact haO k (by simp [hk]))
      simpa [PoolM.takeFree] using this
    · have := hal4.fr f56 (by intro k hk; simp; exact haO k (by simp [hk]))
      simpa [PoolM.takeFree] using this
    · have := hs4.fr f56 (by intro k hk; simp; exact haO k (by simp [hk]))
      rw [hf] at this
      simpa [PoolM.takeFree, ints] using this
  · have hsz : w.heap.size ≤ a := by omega
    refine (((((f1.mono (S' := b :: (og ++ oa ++ of_)) (by simp)).trans f2 (by simp)).trans f3 (fun k hk => .inl (by simp [hk]))).trans f4 (fun k hk => .inl (by simp [hk]))).trans f56 (by simp; omega))


/-- Take, of the numbers not given yet. -/
theorem Take_new {b : Nat} {w : World} {m : PoolM} {O : List Nat} {K : Int → Int → Int → World → Prop} (h : PoolAt w b m O) (hm : m.Ok) (hf : m.free = []) (hl : (m.gens.length : Int) < m.most)
    (hK : ∀ w' O', PoolAt w' b m.takeNew O' → (∀ k ∈ O', k ∈ O ∨ w.heap.size ≤ k) → Fr O w w' → K m.gens.length 1 0 w') :
    c9 (some ⟨b, 0, none⟩) w K := by
  refine c9_of ?_
  unfold f9
  simp only [NN_some]
  refine nw fun a w1 ha hba f1 s1 => ?_
  have h1 := h.fr f1 (by simp)
  have hlt := h.lt
  obtain ⟨sg, sa, sf, og, oa, of_, hbk, hg, hal, hfr, rfl, hnd⟩ := h1
  simp only [List.nodup_cons, List.mem_append, List.nodup_append, not_or] at hnd
  refine ldf (k := .sl) (x := sf) hbk rfl ?_
  have hfl := hfr.len
  rw [hf, ints_len] at hfl
  rw [if_neg (by simp at hfl; simp; omega)]
  refine dr fun w2 f2 s2 kp2 => ?_
  have hba2 := kp2 _ _ _ hba
  have hbk2 := kp2 _ _ _ hbk
  have hg2 := hg.fr f2 (by simp)
  have hal2 := hal.fr f2 (by simp)
  have hfr2 := hfr.fr f2 (by simp)
  refine ldf (k := .sl) (x := sg) hbk2 rfl ?_
  refine ld (k := .i .i64) (x := m.most) hbk2 rfl ?_
  have hgl := hg.len
  rw [ints_len] at hgl
  rw [if_neg (by simp; omega)]
  have hl200 := hm.len200
  refine ldf (k := .sl) (x := sg) hbk2 rfl ?_
  refine nw fun c w3 hc hbc f3 s3 => ?_
  refine appI (hg2.fr f3 (by simp)) hbc (by omega) fun s' w4 og' hg4 hog' f4 _ => ?_
  have hlt3 : ∀ k ∈ b :: (og ++ oa ++ of_), k < w3.heap.size := fun k hk => by
    have := hlt k hk; omega
  have ha3 : a < w3.heap.size := by omega
  have haO : ∀ k ∈ b :: (og ++ oa ++ of_), k ≠ a := fun k hk e => by have := hlt k hk; omega
  have hbk4 := (hbk2.fr f3 (by simp)).fr f4 hnd.1.1.1
  have hba4 := (hba2.fr f3 (by simp)).fr f4 (fun hk => haO a (by simp [hk]) rfl)
  have hal4 := (hal2.fr f3 (by simp)).fr f4 (fun k hk hk' => hnd.2.1.2.2 k hk' k hk rfl)
  have hfr4 := (hfr2.fr f3 (by simp)).fr f4 (fun k hk hk' => hnd.2.2.2 k (.inl hk') k hk rfl)
  have hog : ∀ k ∈ og', k ∈ og ∨ w3.heap.size ≤ k := fun k hk => by
    rcases hog' with rfl | ⟨n, h1, _, rfl⟩
    · exact .inl hk
    · simp at hk; subst hk; exact .inr h1
  have hogn : ∀ k, k ∈ b :: (oa ++ of_) ∨ k = a → k ∉ og' := fun k hk hk' => by
    rcases hog k hk' with h1 | h1
    · rcases hk with hk | rfl
      · simp only [List.mem_cons, List.mem_append] at hk
        rcases hk with rfl | hk | hk
        · exact hnd.1.1.1 h1
        · exact hnd.2.1.2.2 k h1 k hk rfl
        · exact hnd.2.2.2 k (.inl h1) k hk rfl
      · exact haO k (by simp [h1]) rfl
    · rcases hk with hk | rfl
      · have := hlt3 k (by simp only [List.mem_cons, List.mem_append] at hk ⊢; rcases hk with h | h | h <;> simp [h])
        omega
      · omega
  refine stf hbk4 (by simp) rfl fun w5 hbk5 f5 s5 => ?_
  have hba5 := hba4.fr f5 (by simp; exact fun e => haO b (by simp) e.symm)
  have hg5 := hg4.fr f5 (by intro k hk; simp; rintro rfl; exact hogn k (.inl (by simp)) hk)
  have hal5 := hal4.fr f5 (by intro k hk; simp; rintro rfl; exact hnd.1.1.2 hk)
  have hfr5 := hfr4.fr f5 (by intro k hk; simp; rintro rfl; exact hnd.1.2 hk)
  refine ldf (k := .sl) (x := sa) hbk5 rfl ?_
  refine nw fun c2 w6 hc2 hbc2 f6 s6 => ?_
  have hall : m.alive.length ≤ 200 := by rw [hm.len]; exact hl200
  refine appB (hal5.fr f6 (by simp)) hbc2 (by omega) fun s2' w7 oa' hal7 hoa' f7 _ => ?_
  have hbk7 := (hbk5.fr f6 (by simp)).fr f7 hnd.1.1.2
  have hba7 := (hba5.fr f6 (by simp)).fr f7 (fun hk => haO a (by simp [hk]) rfl)
  have hg7 := (hg5.fr f6 (by simp)).fr f7 (fun k hk hk' => hogn k (.inl (by simp [hk'])) hk)
  have hfr7 := (hfr5.fr f6 (by simp)).fr f7 (fun k hk hk' => hnd.2.2.2 k (.inr hk') k hk rfl)
  have hlt6 : ∀ k ∈ b :: (og' ++ oa ++ of_), k < w6.heap.size := fun k hk => by
    simp only [List.mem_cons, List.mem_append] at hk
    have e4 := f4.size; have e6 := f6.size
    rcases hk with rfl | (hk | hk) | hk
    · have := hlt3 k (by simp); omega
    · have := hg5.lt k hk; omega
    · have := hlt3 k (by simp [hk]); omega
    · have := hlt3 k (by simp [hk]); omega
  have ha6 : a < w6.heap.size := by have e4 := f4.size; have e6 := f6.size; omega
  have hoa : ∀ k ∈ oa', k ∈ oa ∨ w6.heap.size ≤ k := fun k hk => by
    rcases hoa' with rfl | ⟨n, h1, _, rfl⟩
    · exact .inl hk
    · simp at hk; subst hk; exact .inr h1
  have hoan : ∀ k, k ∈ b :: (og' ++ of_) ∨ k = a → k ∉ oa' := fun k hk hk' => by
    rcases hoa k hk' with h1 | h1
    · rcases hk with hk | rfl
      · simp only [List.mem_cons, List.mem_append] at hk
        rcases hk with rfl | hk | hk
        · exact hnd.1.1.2 h1
        · exact hogn k (.inl (by simp [h1])) hk
        · exact hnd.2.2.2 k (.inr h1) k hk rfl
      · exact haO k (by simp [h1]) rfl
    · rcases hk with hk | rfl
      · have := hlt6 k (by simp only [List.mem_cons, List.mem_append] at hk ⊢; rcases hk with h | h | h <;> simp [h])
        omega
      · omega
  refine stf hbk7 (by simp) rfl fun w8 hbk8 f8 s8 => ?_
  have hba8 := hba7.fr f8 (by simp; exact fun e => haO b (by simp) e.symm)
  have hg8 := hg7.fr f8 (by intro k hk; simp; rintro rfl; exact hogn k (.inl (by simp)) hk)
  have hal8 := hal7.fr f8 (by intro k hk; simp; rintro rfl; exact hoan k (.inl (by simp)) hk)
  have hfr8 := hfr7.fr f8 (by intro k hk; simp; rintro rfl; exact hnd.1.2 hk)
  refine ldf (k := .sl) (x := s') hbk8 rfl ?_
  have hsl : s'.len = m.gens.length + 1 := by have := hg4.len; rw [ints_len] at this; simpa using this.symm
  rw [wr64 (by omega) (by omega)]
  refine st (o := 0) hba8 (by simp) rfl fun w9 hba9 f9 s9 => ?_
  refine stf hba9 (by simp) rfl fun w10 hba10 f10 s10 => ?_
  refine ld (k := .i .i64) hba10 rfl ?_
  refine ldf (k := .i .i64) hba10 rfl ?_
  have f910 : Fr [a] w8 w10 := f9.trans f10 (by simp)
  have e : ((s'.len : Int) - 1) = (m.gens.length : Int) := by omega
  rw [e]
  have e1 := f1.size; have e2 := f2.size; have e3 := f3.size; have e4 := f4.size; have e5 := f5.size; have e6 := f6.size; have e7 := f7.size
  refine hK w10 (b :: (og' ++ oa' ++ of_)) ?_ ?_ ?_
  · refine ⟨s', s2', sf, og', oa', of_, ?_, ?_, ?_, ?_, rfl, ?_⟩
    · have := hbk8.fr f910 (by simp; exact haO b (by simp))
      simpa [PoolM.takeNew] using this
    · have := hg8.fr f910 (by intro k hk; simp; rintro rfl; exact hogn k (.inr rfl) hk)
      simpa [PoolM.takeNew] using this
    · have := hal8.fr f910 (by intro k hk; simp; rintro rfl; exact hoan k (.inr rfl) hk)
      simpa [PoolM.takeNew] using this
    · have := hfr8.fr f910 (by intro k hk; simp; exact haO k (by simp [hk]))
      simpa [PoolM.takeNew] using this
    · simp only [List.nodup_cons, List.mem_append, List.nodup_append, not_or]
      refine ⟨⟨⟨hogn b (.inl (by simp)), hoan b (.inl (by simp))⟩, hnd.1.2⟩, ⟨?_, ?_, ?_⟩, hnd.2.2.1, ?_⟩
      · rcases hog' with rfl | ⟨n, _, _, rfl⟩
        · exact hnd.2.1.1
        · simp
      · rcases hoa' with rfl | ⟨n, _, _, rfl⟩
        · exact hnd.2.1.2.1
        · simp
      · rintro x hx y hy rfl; exact hoan x (.inl (by simp [hx])) hy
      · rintro x (hx | hx) y hy rfl
        · exact hogn x (.inl (by simp [hy])) hx
        · exact hoan x (.inl (by simp [hy])) hx
  · intro k hk
    simp only [List.mem_cons, List.mem_append] at hk
    rcases hk with rfl | (hk | hk) | hk
    · left; simp
    · rcases hog k hk with h1 | h1
      · left; simp [h1]
      · right; omega
    · rcases hoa k hk with h1 | h1
      · left; simp [h1]
      · right; omega
    · left; simp [hk]
  · have hsz : w.heap.size ≤ a := by omega
    refine ((((((((f1.mono (S' := b :: (og ++ oa ++ of_)) (by simp)).trans f2 (by simp)).trans f3 (by simp)).trans f4 (fun k hk => .inl (by simp [hk]))).trans f5 (by simp)).trans f6 (by simp)).trans f7 (fun k hk => .inl (by simp [hk]))).trans f8 (by simp)).trans f910 (by simp; omega)

/-- Take, when all are given out. -/
theorem Take_full {b : Nat} {w : World} {m : PoolM} {O : List Nat} {K : Int → Int → Int → World → Prop} (h : PoolAt w b m O) (hf : m.free = []) (hl : (m.gens.length : Int) = m.most)
    (hK : ∀ w', Fr [] w w' → K 0 0 40 w') :
    c9 (some ⟨b, 0, none⟩) w K := by
  refine c9_of ?_
  unfold f9
  simp only [NN_some]
  refine nw fun a w1 ha hba f1 s1 => ?_
  have h1 := h.fr f1 (by simp)
  obtain ⟨sg, sa, sf, og, oa, of_, hbk, hg, hal, hfr, rfl, hnd⟩ := h1
  refine ldf (k := .sl) (x := sf) hbk rfl ?_
  have hfl := hfr.len
  rw [hf, ints_len] at hfl
  rw [if_neg (by simp at hfl; simp; omega)]
  refine dr fun w2 f2 s2 kp2 => ?_
  have hba2 := kp2 _ _ _ hba
  have hbk2 := kp2 _ _ _ hbk
  refine ldf (k := .sl) (x := sg) hbk2 rfl ?_
  refine ld (k := .i .i64) (x := m.most) hbk2 rfl ?_
  have hgl := hg.len
  rw [ints_len] at hgl
  rw [if_pos (by simp; omega)]
  refine st (o := 0) hba2 (by simp) rfl fun w9 hba9 f9 s9 => ?_
  refine stf hba9 (by simp) rfl fun w10 hba10 f10 s10 => ?_
  refine ld (k := .i .i64) hba10 rfl ?_
  refine ldf (k := .i .i64) hba10 rfl ?_
  exact hK w10 (((f1.trans f2 (by simp)).trans f9 (by simp; omega)).trans f10 (by simp; omega))

end Go.Proofs.Ytmlkjbolccapkaa.F
