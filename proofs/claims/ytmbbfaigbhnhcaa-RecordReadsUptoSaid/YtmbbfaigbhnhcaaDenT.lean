/-
  Open orders in which a new block is made at any place among calls: a tree of orders.
-/
import Derived.Test.YtmbbfaigbhnhcaaDenF
set_option linter.unusedSimpArgs false
set_option linter.unusedVariables false
namespace Go.Den
variable {ds : List Deferred}

inductive Tr where
  | nil
  | row (i : Nat) (t : Tr)
  | both (a b : Tr)

def dTr (P : Program) (N : Nat) (ops : Array Oper) (split : Bool) (rows : List Row) : Tr → Env → FEnv → CEnv → World → (Env → World → Prop) → Prop
  | .nil, l, _, _, w, K => K l w
  | .row i t, l, fl, C, w, K => match rows[i]? with
    | some x => dStep P N ops split (itOf x) l fl C w fun l' fl' C' w' => dTr P N ops split rows t l' fl' C' w' K
    | none => False
  | .both a b, l, fl, C, w, K => dTr P N ops split rows a l fl C w K ∧ dTr P N ops split rows b l fl C w K

def Tr.heads : Tr → List Nat
  | .nil => []
  | .row i _ => [i]
  | .both a b => a.heads ++ b.heads

def Tr.depth : Tr → Nat
  | .nil => 0
  | .row _ t => t.depth + 1
  | .both a b => Nat.max a.depth b.depth

def rest (rows : List Row) (done i : Nat) : List Row := rows.filter fun y => !Nat.testBit done y.idx && !Nat.beq y.idx i

def cover (rows : List Row) (done : Nat) (hs : List Nat) : Bool :=
  rows.all fun y => Nat.testBit done y.idx || (hs.any fun h => Nat.beq h y.idx) || !Nat.beq (y.anc ||| done) done

/-- Which operations look at cells. -/
def loadsOf (P : Program) (rows : List Row) : Nat := rows.foldl (fun s x => cond (isLoad P x.o.op) (s ||| 2 ^ x.idx) s) 0

def tailE (lm : Nat) (x : Row) (ys : List Row) : Bool := ys.all fun y => y.hd || Nat.beq ((x.anc &&& lm) ||| y.anc) y.anc

def trOk (P : Program) (ops : Array Oper) (rows : List Row) : Tr → Bool → Nat → Bool
  | .nil, c, done => c && (List.range ops.size).all fun i => Nat.testBit done i
  | .row i t, c, done => match rows[i]? with
    | none => false
    | some x => Nat.beq (x.anc ||| done) done && !Nat.testBit done i &&
        (match x.ro with
        | true => c && mixTail P ops x (rest rows done i)
        | false => (!c || cover rows done [i]) && tailE (loadsOf P rows) x (rest rows done i)) && trOk P ops rows t true (done ||| 2 ^ i)
  | .both a b, c, done => (!c || cover rows done (a.heads ++ b.heads)) && trOk P ops rows a false done && trOk P ops rows b false done

def altsOf : List Tr → Tr
  | [] => .nil
  | [t] => t
  | t :: r => .both t (altsOf r)

def mkTr (rows : List Row) : Nat → Nat → Tr
  | 0, _ => .nil
  | f + 1, done => match rows.filter (fun x => !Nat.testBit done x.idx && Nat.beq (x.anc ||| done) done) with
    | [] => .nil
    | xs => match xs.find? (·.ro) with
      | some x => .row x.idx (mkTr rows f (done ||| 2 ^ x.idx))
      | none => altsOf (xs.map fun x => .row x.idx (mkTr rows f (done ||| 2 ^ x.idx)))

def trRows (P : Program) (ops : Array Oper) : List Row := rowsOf P 0 ops.toList (ancL ops.toList [])
def trOf (P : Program) (ops : Array Oper) : Tr := mkTr (trRows P ops) ops.size 0
def treeOk (P : Program) (ops : Array Oper) : Bool :=
  Region.noSelect ops && Nat.ble (trOf P ops).depth ops.size && trOk P ops (trRows P ops) (trOf P ops) true 0

section
variable {P : Program} {N : Nat} {ops : Array Oper}

theorem off_one {o : Oper} {a : Act} {v : Value} (ho : o ∈ ops.toList) : Off (dstsOf ops.toList) a (a.put o.dst v) := by
  intro t ht
  cases hd : o.dst with
  | none => rfl
  | some d =>
    rw [put_get, if_neg]
    intro e
    subst e
    exact ht (by simp only [dstsOf, List.mem_filterMap]; exact ⟨o, ho, hd⟩)

theorem rowsOf_length (P : Program) : ∀ (os : List Oper) (ms : List Nat) (i : Nat), os.length = ms.length → (rowsOf P i os ms).length = os.length
  | [], ms, i, h => by cases ms <;> simp [rowsOf]
  | o :: os, [], i, h => by simp at h
  | o :: os, m :: ms, i, h => by simp [rowsOf, rowsOf_length P os ms (i + 1) (by simpa using h)]

theorem rowsOf_get (P : Program) : ∀ (os : List Oper) (ms : List Nat) (i j : Nat) (x : Row), (rowsOf P i os ms)[j]? = some x → x.idx = i + j
  | [], ms, i, j, x, h => by cases ms <;> simp [rowsOf] at h
  | o :: os, [], i, j, x, h => by simp [rowsOf] at h
  | o :: os, m :: ms, i, 0, x, h => by simp [rowsOf] at h; subst h; rfl
  | o :: os, m :: ms, i, j + 1, x, h => by
    have := rowsOf_get P os ms (i + 1) j x (by simpa [rowsOf] using h)
    omega

theorem ancL_len (os : List Oper) : (ancL os []).length = os.length := by
  obtain ⟨t, h1, h2⟩ := ancL_append os []
  rw [h1]; simp [h2]


theorem heads_ready {rows : List Row} {done : Nat} : ∀ {t : Tr}, trOk P ops rows t false done = true → 0 < t.depth ∧ ∃ i x, rows[i]? = some x ∧ Nat.beq (x.anc ||| done) done = true ∧ done.testBit i = false
  | .nil, h => by simp [trOk] at h
  | .row i t, h => by
    simp only [trOk] at h
    cases hri : rows[i]? with
    | none => rw [hri] at h; cases h
    | some x =>
      rw [hri] at h
      simp only [Bool.and_eq_true, Bool.not_eq_true'] at h
      exact ⟨by simp [Tr.depth], i, x, hri, h.1.1.1, h.1.1.2⟩
  | .both a b, h => by
    simp only [trOk, Bool.and_eq_true] at h
    obtain ⟨h1, h2⟩ := heads_ready h.1.2
    exact ⟨Nat.lt_of_lt_of_le h1 (by simp only [Tr.depth]; exact Nat.le_max_left _ _), h2⟩

theorem row_fact {as : List Nat} {rows : List Row} (hrows : rows = rowsOf P 0 ops.toList as) {i : Nat} {x : Row} (hri : rows[i]? = some x) : x.idx = i ∧ ops[i]? = some x.o ∧ as[i]? = some x.anc := by
  have hm : x ∈ rowsOf P 0 ops.toList as := by rw [← hrows]; exact List.mem_of_getElem? hri
  obtain ⟨j, h1, h2, h3, h4⟩ := rowsOf_mem hm
  have : x.idx = i := by
    rw [hrows] at hri
    have := rowsOf_get P _ _ _ _ _ hri
    omega
  rw [Nat.zero_add] at h3
  rw [h3] at this
  subst this
  exact ⟨h3, by simpa using h1, h2⟩

theorem ready_of {as : List Nat} (has : as = ancL ops.toList []) {rows : List Row} (hrows : rows = rowsOf P 0 ops.toList as) {done : Nat} (hdone : ∀ j, done.testBit j = true → j < ops.size ∧ as.getD j 0 ||| done = done)
    {i : Nat} {x : Row} (hri : rows[i]? = some x) (hb1 : Nat.beq (x.anc ||| done) done = true) (hb0 : done.testBit i = false) : ∃ i, i ∈ Region.ready .any ops (bitsA ops.size done) := by
  obtain ⟨hx, h0, ha⟩ := row_fact hrows hri
  have hsub : x.anc ||| done = done := Nat.eq_of_beq_eq_true hb1
  have hklt : i < ops.size := (Array.getElem?_eq_some_iff.1 h0).1
  have hanc : as[i]? = some (maskOf (as.take i) x.o.after.toList) := by
    have := ancL_get ops.toList [] i x.o (by simpa using h0)
    rw [has]
    simpa using this
  refine ⟨i, mem_ready.2 ⟨by rw [bitsA_getD, if_pos hklt]; exact hb0, x.o, h0, fun e he hbe => ?_⟩⟩
  have h2 : x.anc.testBit e.on = true := by
    rw [Option.some.inj (ha.symm.trans hanc)]
    exact maskOf_has hbe _ _ (.inl (by simpa using he))
  have h3 := sub_bits hsub h2
  rw [bitsA_getD, if_pos (hdone _ h3).1]
  exact h3

theorem loadsOf_bit {rows : List Row} {x : Row} (hx : x ∈ rows) (hl : isLoad P x.o.op = true) : (loadsOf P rows).testBit x.idx = true := by
  have key : ∀ (rows : List Row) (s : Nat), (x ∈ rows ∨ s.testBit x.idx = true) → (rows.foldl (fun s x => cond (isLoad P x.o.op) (s ||| 2 ^ x.idx) s) s).testBit x.idx = true := by
    intro rows
    induction rows with
    | nil => intro s h; rcases h with h | h; cases h; exact h
    | cons y rows ih =>
      intro s h
      simp only [List.foldl_cons]
      refine ih _ ?_
      rcases h with h | h
      · rcases List.mem_cons.1 h with rfl | h
        · right; rw [hl]; simp [Nat.testBit_or]
        · exact .inl h
      · right
        cases isLoad P y.o.op <;> simp [Nat.testBit_or, h]
  exact key rows 0 (.inl hx)

theorem any_of_cover {Q : Exit → Act → World → Prop} (hP : OkP P) (as : List Nat) (has : as = ancL ops.toList []) (rows : List Row) (hrows : rows = rowsOf P 0 ops.toList as) {done n : Nat} {C : CEnv} {a : Act} {w : World} {hs : List Nat}
    (hdone : ∀ j, done.testBit j = true → j < ops.size ∧ as.getD j 0 ||| done = done) (hcov : cover rows done hs = true) (hne : ∃ i, i ∈ Region.ready .any ops (bitsA ops.size done))
    (h : ∀ i ∈ hs, ∀ m, n = m + 1 → wpOp P ops Q i (fun a' w' => Gd P ops as C i w w' ∧ wpAnyE P .any ops as Q C m ((bitsA ops.size done).setIfInBounds i true) a' w') a w) (hn : 0 < n) :
    wpAnyE P .any ops as Q C n (bitsA ops.size done) a w := by
  obtain ⟨m, rfl⟩ : ∃ m, n = m + 1 := ⟨n - 1, by omega⟩
  obtain ⟨i0, hi0⟩ := hne
  refine ⟨fun h1 => (by rw [h1] at hi0; cases hi0), fun i hi => h i ?_ m rfl⟩
  obtain ⟨h1, oi, h2, h3⟩ := mem_ready.1 hi
  have hilt := (Array.getElem?_eq_some_iff.1 h2).1
  rw [bitsA_getD, if_pos hilt] at h1
  have hir : i < rows.length := by
    rw [hrows, rowsOf_length P _ _ _ (by rw [has, ancL_len])]; simpa using hilt
  obtain ⟨y, hy⟩ : ∃ y, rows[i]? = some y := ⟨_, List.getElem?_eq_getElem hir⟩
  obtain ⟨hyi, hyo, hya⟩ := row_fact hrows hy
  have hc := List.all_eq_true.1 hcov y (List.mem_of_getElem? hy)
  rw [hyi] at hc
  simp only [Bool.or_eq_true, Bool.not_eq_true'] at hc
  rcases hc with (hc | hc) | hc
  · rw [h1] at hc; cases hc
  · obtain ⟨k, hk, he⟩ := List.any_eq_true.1 hc
    rw [← Nat.eq_of_beq_eq_true he]; exact hk
  · exfalso
    have hanc : as[i]? = some (maskOf (as.take i) oi.after.toList) := by
      have := ancL_get ops.toList [] i oi (by simpa using h2)
      rw [has]
      simpa using this
    have hya' : y.anc = maskOf (as.take i) oi.after.toList := Option.some.inj (hya.symm.trans hanc)
    have : y.anc ||| done = done := by
      apply Nat.eq_of_testBit_eq
      intro k
      rw [Nat.testBit_or]
      cases hk : y.anc.testBit k with
      | false => simp
      | true =>
        rw [hya'] at hk
        rcases maskOf_bit _ _ hk with h5 | ⟨e, he, hbe, h5⟩
        · simp at h5
        · have h6 := h3 e (by simpa using he) hbe
          rw [bitsA_getD] at h6
          split at h6
          · have hk2 : done.testBit k = true := by
              rcases h5 with h5 | h5
              · rw [← h5]; exact h6
              · have h7 : (as.take i).getD e.on 0 = as.getD e.on 0 ∨ (as.take i).getD e.on 0 = 0 := by
                  simp only [List.getD_eq_getElem?_getD, List.getElem?_take]
                  split
                  · exact .inl rfl
                  · exact .inr rfl
                rcases h7 with h7 | h7
                · rw [h7] at h5
                  exact sub_bits (hdone _ h6).2 h5
                · rw [h7] at h5; simp at h5
            simp [hk2]
          · cases h6
    rw [this] at hc
    have hrf : Nat.beq done done = true := by simp
    rw [hrf] at hc; cases hc

theorem dTr_mix {split : Bool} (hP : OkP P) (hs : Region.noSelect ops = true) {Q : Exit → Act → World → Prop} (hQ : ∀ c a w, ¬ Q (.panic c) a w)
    (as : List Nat) (has : as = ancL ops.toList []) (rows : List Row) (hrows : rows = rowsOf P 0 ops.toList as) {a0 : Act} {K : Env → World → Prop}
    (hK : ∀ a' l' w', Off (dstsOf ops.toList) a0 a' → EnvOk ds N a' l' → K l' w' → Q .normal a' w') :
    ∀ (t : Tr) (c : Bool) (done n : Nat) {l : Env} {fl : FEnv} {C : CEnv} {w : World} {a : Act}, t.depth ≤ n →
    (∀ j, done.testBit j = true → j < ops.size ∧ as.getD j 0 ||| done = done) → (∀ x ∈ C, holdAt w x.2 ∧ (loadsOf P rows).testBit x.1 = true) → trOk P ops rows t c done = true →
    EnvOk ds N a l → FlOk a fl → Off (dstsOf ops.toList) a0 a → dTr P N ops split rows t l fl C w K →
    (c = true → wpAnyE P .any ops as Q C n (bitsA ops.size done) a w) ∧
    (c = false → ∀ i ∈ t.heads, ∀ m, n = m + 1 → wpOp P ops Q i (fun a' w' => Gd P ops as C i w w' ∧ wpAnyE P .any ops as Q C m ((bitsA ops.size done).setIfInBounds i true) a' w') a w)
  | .nil, c, done, n, l, fl, C, w, a, hn, hdone, hC, hB, hl, hfl, hoff, h => by
    simp only [trOk, Bool.and_eq_true] at hB
    have hr : Region.ready .any ops (bitsA ops.size done) = [] := by
      refine List.eq_nil_iff_forall_not_mem.2 fun j hj => ?_
      obtain ⟨h1, oj, h2, _⟩ := mem_ready.1 hj
      have hlt := (Array.getElem?_eq_some_iff.1 h2).1
      rw [bitsA_getD, if_pos hlt] at h1
      have := List.all_eq_true.1 hB.2 j (List.mem_range.2 hlt)
      rw [h1] at this; cases this
    refine ⟨fun _ => ?_, fun hc => by rw [hc] at hB; cases hB.1⟩
    cases n with
    | zero => exact ⟨hr, hK a l w hoff hl h⟩
    | succ n => exact ⟨fun _ => hK a l w hoff hl h, fun i hi => by rw [hr] at hi; cases hi⟩
  | .both t1 t2, c, done, n, l, fl, C, w, a, hn, hdone, hC, hB, hl, hfl, hoff, h => by
    simp only [trOk, Bool.and_eq_true] at hB
    obtain ⟨⟨hcov, hB1⟩, hB2⟩ := hB
    simp only [Tr.depth] at hn
    have hn1 : t1.depth ≤ n := Nat.le_trans (Nat.le_max_left _ _) hn
    have hn2 : t2.depth ≤ n := Nat.le_trans (Nat.le_max_right _ _) hn
    have i1 := (dTr_mix hP hs hQ as has rows hrows hK t1 false done n hn1 hdone hC hB1 hl hfl hoff h.1).2 rfl
    have i2 := (dTr_mix hP hs hQ as has rows hrows hK t2 false done n hn2 hdone hC hB2 hl hfl hoff h.2).2 rfl
    have hall : ∀ i ∈ (Tr.both t1 t2).heads, ∀ m, n = m + 1 → wpOp P ops Q i (fun a' w' => Gd P ops as C i w w' ∧ wpAnyE P .any ops as Q C m ((bitsA ops.size done).setIfInBounds i true) a' w') a w := by
      intro i hi m hm
      simp only [Tr.heads, List.mem_append] at hi
      exact hi.elim (fun h => i1 i h m hm) (fun h => i2 i h m hm)
    refine ⟨fun hc => ?_, fun _ => hall⟩
    subst hc
    simp only [Bool.not_true, Bool.false_or] at hcov
    have hB0 : trOk P ops rows (.both t1 t2) false done = true := by simp [trOk, hB1, hB2]
    obtain ⟨h1, i, x, hri, hb1, hb0⟩ := heads_ready hB0
    exact any_of_cover hP as has rows hrows hdone hcov (ready_of has hrows hdone hri hb1 hb0) hall (by simp only [Tr.depth] at h1; omega)
  | .row i t, c, done, n, l, fl, C, w, a, hn, hdone, hC, hB, hl, hfl, hoff, h => by
    simp only [trOk] at hB
    simp only [dTr] at h
    cases hri : rows[i]? with
    | none => rw [hri] at h; exact h.elim
    | some x =>
    rw [hri] at h hB
    simp only [Bool.and_eq_true, Bool.not_eq_true'] at hB
    simp only at h
    have hxi : x.idx = i := by
      rw [hrows] at hri
      have := rowsOf_get P _ _ _ _ _ hri
      omega
    subst hxi
    obtain ⟨⟨⟨hb1, hb0⟩, hb2⟩, hB'⟩ := hB
    have hsub : x.anc ||| done = done := Nat.eq_of_beq_eq_true hb1
    have rowFact : ∀ y ∈ rowsOf P 0 ops.toList as, ops[y.idx]? = some y.o ∧ as[y.idx]? = some y.anc ∧ y.dir = dirOf y.o.after.toList ∧ y.ro = dRoOk P y.o.op ∧ y.hd = headOp P y.o := by
      intro y hy
      obtain ⟨j, h1, h2, h3, h4⟩ := rowsOf_mem hy
      rw [Nat.zero_add] at h3
      rw [h3]
      exact ⟨by simpa using h1, h2, h4⟩
    obtain ⟨h0, hax, hdir, hxro, hxhd⟩ := rowFact x (by rw [← hrows]; exact List.mem_of_getElem? hri)
    have haxD : as.getD x.idx 0 = x.anc := by simp [hax]
    have hklt : x.idx < ops.size := (Array.getElem?_eq_some_iff.1 h0).1
    have hanc : ∀ j oj, ops[j]? = some oj → as[j]? = some (maskOf (as.take j) oj.after.toList) := by
      intro j oj hj
      have := ancL_get ops.toList [] j oj (by simpa using hj)
      rw [has]
      simpa using this
    have hancD : ∀ j oj, ops[j]? = some oj → as.getD j 0 = maskOf (as.take j) oj.after.toList := fun j oj hj => by simp [hanc j oj hj]
    have hready : x.idx ∈ Region.ready .any ops (bitsA ops.size done) := by
      refine mem_ready.2 ⟨by rw [bitsA_getD, if_pos hklt]; exact hb0, x.o, h0, fun e he hbe => ?_⟩
      have h2 : x.anc.testBit e.on = true := by
        rw [← haxD, hancD _ _ h0]
        exact maskOf_has hbe _ _ (.inl (by simpa using he))
      have h3 := sub_bits hsub h2
      rw [bitsA_getD, if_pos (hdone _ h3).1]
      exact h3
    have hlater : ∀ j oj, j ≠ x.idx → ops[j]? = some oj → done.testBit j = false → ∃ y ∈ rest rows done x.idx, y.idx = j ∧ y.o = oj ∧ y.anc = as.getD j 0 ∧ y.dir = dirOf oj.after.toList ∧ y.hd = headOp P oj := by
      intro j oj hne hj hun
      have hjlt := (Array.getElem?_eq_some_iff.1 hj).1
      have hjr : j < rows.length := by
        rw [hrows, rowsOf_length P _ _ _ (by rw [has, ancL_len])]; simpa using hjlt
      obtain ⟨y, hy⟩ : ∃ y, rows[j]? = some y := ⟨_, List.getElem?_eq_getElem hjr⟩
      have hmem : y ∈ rows := List.mem_of_getElem? hy
      have hidx : y.idx = j := by
        rw [hrows] at hy
        have := rowsOf_get P _ _ _ _ _ hy
        omega
      obtain ⟨g1, g2, g3, g4, g5⟩ := rowFact y (by rw [← hrows]; exact hmem)
      rw [hidx] at g1 g2
      have e : y.o = oj := Option.some.inj (g1.symm.trans hj)
      refine ⟨y, ?_, hidx, e, by simp [g2], by rw [g3, e], by rw [g5, e]⟩
      simp only [rest, List.mem_filter, Bool.and_eq_true, Bool.not_eq_true']
      refine ⟨hmem, by rw [hidx]; exact hun, ?_⟩
      rw [hidx]
      cases hbq : Nat.beq j x.idx with
      | false => rfl
      | true => exact absurd (Nat.eq_of_beq_eq_true hbq) hne
    have hdone' : ∀ j, (done ||| 2 ^ x.idx).testBit j = true → j < ops.size ∧ as.getD j 0 ||| (done ||| 2 ^ x.idx) = done ||| 2 ^ x.idx := by
      intro j hj
      simp only [Nat.testBit_or, Bool.or_eq_true, Nat.testBit_two_pow, decide_eq_true_eq] at hj
      rcases hj with hj | hj
      · obtain ⟨g1, g2⟩ := hdone j hj
        exact ⟨g1, by rw [← Nat.or_assoc, g2]⟩
      · subst hj
        exact ⟨hklt, by rw [haxD, ← Nat.or_assoc, hsub]⟩
    have hxmem : x.o ∈ ops.toList := by
      obtain ⟨hh, he⟩ := Array.getElem?_eq_some_iff.1 h0
      rw [← he]; simp
    have hdn : ∃ m, n = m + 1 ∧ t.depth ≤ m := by
      simp only [Tr.depth] at hn
      exact ⟨n - 1, by omega, by omega⟩
    obtain ⟨m, rfl, hnm⟩ := hdn
    have ih := fun {l fl C w a} => dTr_mix (split := split) hP hs hQ as has rows hrows hK t true (done ||| 2 ^ x.idx) m (l := l) (fl := fl) (C := C) (w := w) (a := a) hnm hdone'
    have hst := step_of hP hl hfl h
    -- where a set of bits holds whom an operation waits for
    have through : ∀ i oi, ops[i]? = some oi → (as.getD i 0).testBit x.idx = true → ∃ e ∈ oi.after, Region.binds .any e = true ∧ (e.on = x.idx ∨ (as.getD e.on 0).testBit x.idx = true) := by
      intro i oi hi hb
      rw [hancD i oi hi] at hb
      rcases maskOf_bit _ _ hb with h5 | ⟨e, he, hbe, h5⟩
      · simp at h5
      · refine ⟨e, by simpa using he, hbe, h5.imp id fun h6 => ?_⟩
        have h7 : (as.take i).getD e.on 0 = as.getD e.on 0 ∨ (as.take i).getD e.on 0 = 0 := by
          simp only [List.getD_eq_getElem?_getD, List.getElem?_take]
          split
          · exact .inl rfl
          · exact .inr rfl
        rcases h7 with h7 | h7
        · rw [h7] at h6; exact h6
        · rw [h7] at h6; simp at h6
    cases hro : dRoOk P x.o.op with
    | true =>
      have hxro' : x.ro = true := hxro.trans hro
      rw [hxro'] at hb2
      simp only [Bool.and_eq_true] at hb2
      obtain ⟨hc, hb2⟩ := hb2
      subst hc
      refine ⟨fun _ => ?_, fun hc => by cases hc⟩
      have go : ∀ (v : Value) (S : World → Prop) (C' : CEnv), (∀ j, j < ops.size → j ≠ x.idx → done.testBit j = false → (as.getD j 0).testBit x.idx = false → ∀ w w', Gd P ops as C' j w w' → S w → S w') →
          YieldsIf P ops S x.o v a → S w → wpAnyE P .any ops as Q C' m (bitsA ops.size (done ||| 2 ^ x.idx)) (a.put x.o.dst v) w →
          wpAnyE P .any ops as Q C' (m + 1) (bitsA ops.size done) a w := by
        intro v S C' hpres hy hS hrest'
        refine wpAnyE_first (S := S) (without as ops.size x.idx) h0 (Region.noSelect_spec hs) (fun c a w hq => absurd hq (hQ c _ w)) ?_ (by simp [without]) _ _ _ _ ?_ ?_ ?_ hready hy hS (by rw [bitsA_set]; exact hrest')
        · intro j hj
          obtain ⟨h1, oj, h2, h3⟩ := mem_ready.1 hj
          have hjlt := (Array.getElem?_eq_some_iff.1 h2).1
          rw [without_getD, if_pos hjlt] at h1
          by_cases hjk : j = x.idx
          · exact hjk
          · simp only [hjk, decide_false, Bool.not_false, Bool.true_and, Bool.not_eq_false'] at h1
            obtain ⟨e, he, hbe, h5⟩ := through j oj h2 h1
            have h6 := h3 e he hbe
            rw [without_getD] at h6
            split at h6
            · simp only [Bool.and_eq_true, Bool.not_eq_true', decide_eq_false_iff_not] at h6
              rcases h5 with h5 | h5
              · exact absurd h5 h6.1
              · rw [h6.2] at h5; cases h5
            · cases h6
        · intro j oj hj hjk hun hno
          have hjlt := (Array.getElem?_eq_some_iff.1 hj).1
          rw [bitsA_getD, if_pos hjlt] at hun
          obtain ⟨y, hy', e1, e2, e3, e4, e5⟩ := hlater j oj hjk hj hun
          have hmt := mixTail_mem hb2 hy'
          rw [hxro'] at hmt
          simp only [Bool.and_eq_true, Bool.or_eq_true] at hmt
          rcases hmt.1 with h1 | h1
          · rw [e4] at h1
            rcases dirOf_bit _ _ h1 with h2 | ⟨e, he, hbe, h2⟩
            · simp at h2
            · exact absurd h2 (hno e (by simpa using he) hbe)
          · rw [e2] at h1; exact h1
        · intro j hj
          rw [bitsA_getD] at hj
          split at hj
          · rename_i hjlt
            rw [without_getD, if_pos hjlt]
            have hne : j ≠ x.idx := by intro e; rw [e, hb0] at hj; cases hj
            have : (as.getD j 0).testBit x.idx = false := by
              cases hbit : (as.getD j 0).testBit x.idx with
              | false => rfl
              | true =>
                have := sub_bits (hdone j hj).2 hbit
                rw [hb0] at this; cases this
            simp only [hne, decide_false, Bool.not_false, Bool.true_and, Bool.not_eq_true', this]
          · cases hj
        · intro j hj hLj
          rw [bitsA_getD] at hj
          split at hj
          · rename_i hjlt
            rw [without_getD, if_pos hjlt] at hLj
            simp only [Bool.and_eq_true, Bool.not_eq_true', decide_eq_false_iff_not] at hLj
            exact hpres j hjlt hLj.1 hj hLj.2
          · cases hj
      rcases hst with ⟨v, l', fl', fp, hfp, h1, h01, h2, h3, h4, h5⟩ | ⟨l', fl', h1, h3, h4, h5⟩ | ⟨hn, h1, h2⟩
      · have hCx : ∀ y ∈ C, y ∈ addC (itOf x) fp C := fun y hy => by simp [addC, itOf, hy]
        refine wpAnyE_mono hCx _ _ _ _ ?_
        refine go v (OKw P x.o.op fp w) _ ?_ (.inl ⟨h1, h2⟩) ?_ ((ih ?_ hB' h3 h4 (hoff.trans (off_one hxmem)) h5).1 rfl)
        · intro j hjlt hjk hun hanc0 w1 w2 hg hok
          rcases hok with hok | ⟨hok, hx⟩ | ⟨hok, hc⟩
          · exact .inl hok
          · have hj' : ops[j]? = some ops[j] := by simp [hjlt]
            obtain ⟨y, hy', e1, e2, e3, e4, e5⟩ := hlater j ops[j] hjk hj' hun
            have hmt := mixTail_mem hb2 hy'
            rw [hxro'] at hmt
            simp only [Bool.and_eq_true, Bool.or_eq_true] at hmt
            rcases hmt.2 with ((h7 | h7) | h7) | h7
            · exact .inl h7
            · rw [hok] at h7; cases h7
            · rw [e3, hanc0] at h7; cases h7
            · refine .inr (.inl ⟨hok, hx.trans (hg.1 ?_)⟩)
              simp only [headAt, hj']
              rw [← e5]; exact h7
          · refine .inr (.inr ⟨hok, fun z hz => ?_⟩)
            exact hg.2 (x.idx, z) (by simp [addC, itOf, hz]) hanc0 (hc z hz)
        · unfold OKw
          cases hb : isLoad P x.o.op with
          | true => exact .inr (.inr ⟨rfl, h01⟩)
          | false => exact .inr (.inl ⟨rfl, Ext.refl w⟩)
        · intro y hy
          simp only [addC, itOf, List.mem_append, List.mem_map] at hy
          rcases hy with ⟨z, hz, rfl⟩ | hy
          · exact ⟨h01 z hz, loadsOf_bit (List.mem_of_getElem? hri) (by
              cases hll : isLoad P x.o.op with
              | true => rfl
              | false => rw [hfp hll] at hz; cases hz)⟩
          · exact hC y hy
      · exact go undef (fun _ => True) C (fun _ _ _ _ _ _ _ _ _ => trivial) (.inr ⟨h1, rfl⟩) trivial ((ih hC hB' h3 h4 (hoff.trans (off_one hxmem)) h5).1 rfl)
      · have hn' : dRoOk P x.o.op = false := hn
        rw [hro] at hn'; cases hn'
    | false =>
      have hxro' : x.ro = false := hxro.trans hro
      rw [hxro'] at hb2
      simp only [Bool.and_eq_true] at hb2
      obtain ⟨hcov, htl⟩ := hb2
      have hall : wpOp P ops Q x.idx (fun a' w' => Gd P ops as C x.idx w w' ∧ wpAnyE P .any ops as Q C m ((bitsA ops.size done).setIfInBounds x.idx true) a' w') a w := by
        unfold wpOp
        simp only [h0]
        rw [bitsA_set]
        rcases hst with ⟨v, l', fl', fp, hfp, h1, h01, h2, h3, h4, h5⟩ | ⟨l', fl', h1, h3, h4, h5⟩ | ⟨hn, h1, h2⟩
        · have h1' : Region.wanted x.o (yielded ops a.tmps) = true := h1
          rw [if_pos h1']
          refine .inl ?_
          unfold Oper.wp
          have h2' : (execOp a.eval x.o).run P w = .ok (.value v) w := h2 w (by
            unfold OKw
            cases hb : isLoad P (itOf x).o.op with
            | true => exact .inr (.inr ⟨rfl, h01⟩)
            | false => exact .inr (.inl ⟨rfl, Ext.refl w⟩))
          rw [h2']
          refine ⟨Gd.refl, ?_⟩
          refine wpAnyE_mono (C' := addC (itOf x) fp C) (fun y hy => by simp [addC, itOf, hy]) _ _ _ _ ((ih ?_ hB' h3 h4 (hoff.trans (off_one hxmem)) h5).1 rfl)
          intro y hy
          simp only [addC, itOf, List.mem_append, List.mem_map] at hy
          rcases hy with ⟨z, hz, rfl⟩ | hy
          · exact ⟨h01 z hz, loadsOf_bit (List.mem_of_getElem? hri) (by
              cases hll : isLoad P x.o.op with
              | true => rfl
              | false => rw [hfp hll] at hz; cases hz)⟩
          · exact hC y hy
        · have h1' : Region.wanted x.o (yielded ops a.tmps) = false := h1
          rw [if_neg (by rw [h1']; simp)]
          exact ⟨Gd.refl, (ih hC hB' h3 h4 (hoff.trans (off_one hxmem)) h5).1 rfl⟩
        · have h1' : Region.wanted x.o (yielded ops a.tmps) = true := h1
          rw [if_pos h1']
          refine .inl (Oper.wp_mono ?_ (h2 Q))
          rintro a' w' ⟨hxx, hkp, v, l', fl', rfl, h3, h4, h5⟩
          have hcells : ∀ y ∈ C, (as.getD x.idx 0).testBit y.1 = false → holdAt w' y.2 := by
            intro y hy hb
            cases hal : isAlloc x.o.op with
            | true => exact (hxx hal).hold (hC y hy).1
            | false =>
              have := hkp hal
              simp only [keepOk, itOf] at this
              exact this y hy (by rw [← haxD]; exact hb)
          refine ⟨⟨fun hh => hxx ?_, fun y hy hb _ => hcells y hy hb⟩, ?_⟩
          · have : headOp P x.o = true := by simpa [headAt, h0] using hh
            have hn' : dRoOk P x.o.op = false := hn
            simp only [headOp, hn', Bool.false_or] at this
            exact this
          · refine wpAnyE_more (C2 := dropC (itOf x) C) trivial _ _ _ _ ?_ ((ih ?_ hB' h3 h4 (hoff.trans (off_one hxmem)) h5).1 rfl)
            · intro y hy
              cases hb : x.anc.testBit y.1 with
              | false => exact .inl (by simp [dropC, itOf, hy, hb])
              | true =>
                refine .inr fun i hi => ?_
                rw [bitsA_getD] at hi
                split at hi
                · rename_i hilt
                  simp only [Nat.testBit_or, Bool.or_eq_false_iff, Nat.testBit_two_pow, decide_eq_false_iff_not] at hi
                  have hi' : ops[i]? = some ops[i] := by simp [hilt]
                  obtain ⟨z, hz, e1, e2, e3, e4, e5⟩ := hlater i ops[i] (fun e => hi.2 e.symm) hi' hi.1
                  have hmt := List.all_eq_true.1 htl z hz
                  simp only [Bool.or_eq_true] at hmt
                  rcases hmt with hmt | hmt
                  · left; simp only [headAt, hi']; rw [← e5]; exact hmt
                  · right
                    rw [← e3]
                    exact sub_bits (Nat.eq_of_beq_eq_true hmt) (by rw [Nat.testBit_and, hb, (hC y hy).2]; rfl)
                · cases hi
            · intro y hy
              simp only [dropC, itOf, List.mem_filter, Bool.not_eq_true'] at hy
              exact ⟨hcells y hy.1 (by rw [haxD]; exact hy.2), (hC y hy.1).2⟩
      refine ⟨fun hc => ?_, fun _ i hi m' hm' => ?_⟩
      · subst hc
        simp only [Bool.not_true, Bool.false_or] at hcov
        exact any_of_cover hP as has rows hrows hdone hcov ⟨_, hready⟩ (fun i hi m' hm' => by
          simp only [List.mem_singleton] at hi
          subst hi
          obtain rfl : m = m' := by omega
          exact hall) (by omega)
      · simp only [Tr.heads, List.mem_singleton] at hi
        subst hi
        obtain rfl : m = m' := by omega
        exact hall

end
end Go.Den
