/-
  Maps: what lookup, store and delete do, over any type of keys that are told apart by '=='.
-/
import Derived.Test.YtfghoeojpnnkiaaDenY
import Derived.MapKept
set_option linter.unusedSimpArgs false
set_option linter.unusedVariables false
namespace Go.Den
open Go.RowKit

/-- A type of keys. -/
structure KeyT (P : Program) (kt : TypeId) {κ : Type} [DecidableEq κ] (ek : κ → Value) : Prop where
  chk : ∀ (w : World) (b : Bool) (a : κ), (Instr.checkKey b 10000 kt (ek a)).run P w = .ok () w
  fnd : ∀ (w : World) (a : κ) (l : List κ) (es : List MapEntry), es.map (·.key) = l.map ek → (Instr.findKey kt (ek a) es).run P w = .ok ((l.findIdx? (fun b => decide (b = a))).bind fun i => (es[i]?).map fun e => (i, e.val)) w
  same : ∀ a, Instr.sameBits 10000 (ek a) (ek a) = true

theorem findAsking_run {P : Program} {kt : TypeId} {κ : Type} [DecidableEq κ] {ek : κ → Value} {w : World} (heq : ∀ a b : κ, (Op.equal kt (ek a) (ek b)).run P w = .ok (decide (b = a)) w) (a : κ) :
    ∀ (l : List κ) (es : List MapEntry) (i : Nat), es.map (·.key) = l.map ek → (Instr.findAsking kt (ek a) es i).run P w = .ok ((l.findIdx? (fun b => decide (b = a))).bind fun j => (es[j]?).map fun e => (i + j, e.val)) w
  | [], [], i, _ => by simp [Instr.findAsking]
  | [], _ :: _, i, h => by simp at h
  | _ :: _, [], i, h => by simp at h
  | b :: l, e :: es, i, h => by
    simp only [List.map_cons, List.cons.injEq] at h
    obtain ⟨h1, h2⟩ := h
    have ih := findAsking_run heq a l es (i + 1) h2
    simp only [Instr.findAsking, h1, Sem.run_bind, heq, Result.andThen_ok, List.findIdx?_cons]
    by_cases hb : b = a
    · simp [hb]
    · simp only [hb, decide_false, Bool.false_eq_true, if_false, ih]
      congr 1
      cases l.findIdx? (fun b => decide (b = a)) with
      | none => rfl
      | some j => simp [Nat.add_assoc, Nat.add_comm 1 j]

theorem run_checkStruct {P : Program} {w : World} {t : TypeId} {fs : Array Field} {cs : Array Value} {b : Bool} {n : Nat} (hu : P.underlying t = some (.struct fs))
    (hall : ∀ f ∈ fs.toList, ∃ k m, P.underlying f.type = some (.int k) ∧ cs[f.offset]? = some (.int k m)) : (Instr.checkKey b (n + 2) t (.agg cs)).run P w = .ok () w := by
  have loop : ∀ (l : List Field), (∀ f ∈ l, ∃ k m, P.underlying f.type = some (.int k) ∧ cs[f.offset]? = some (.int k m)) →
      (forIn l PUnit.unit fun f _ => (if f.name ≠ "_" then (do let p ← part f.type cs f.offset; Instr.checkKey b (n + 1) f.type p; pure (ForInStep.yield PUnit.unit)) else pure (ForInStep.yield PUnit.unit) : Sem (ForInStep PUnit))).run P w = .ok PUnit.unit w := by
    intro l
    induction l with
    | nil => intro _; rfl
    | cons f l ih =>
      intro h
      obtain ⟨k, m, h1, h2⟩ := h f (by simp)
      have ih' := ih (fun g hg => h g (by simp [hg]))
      have hp : (part f.type cs f.offset).run P w = .ok (.int k m) w := by
        simp [part, isAggD_run h1, isAggD, h2]
      have hc : (Instr.checkKey b (n + 1) f.type (.int k m)).run P w = .ok () w := by
        simp [Instr.checkKey, run_underlying h1]
      simp only [List.forIn_cons, Sem.run_bind]
      by_cases hn : f.name ≠ "_"
      · simp only [if_pos hn, Sem.run_bind, hp, hc, Result.andThen_ok, Sem.run_pure]
        exact ih'
      · simp only [if_neg hn, Sem.run_bind, Sem.run_pure, Result.andThen_ok]
        exact ih'
  rw [Instr.checkKey]
  simp only [Sem.run_bind, run_underlying hu, Result.andThen_ok]
  rw [← Array.forIn_toList, loop _ hall]
  rfl

/-- Keys that are structs of integers. -/
theorem keyT_struct {P : Program} {kt : TypeId} {κ : Type} [DecidableEq κ] {ek : κ → Value} {fs : Array Field} (hu : P.underlying kt = some (.struct fs))
    (hall : ∀ a, ∃ cs, ek a = .agg cs ∧ (∀ f ∈ fs.toList, ∃ k m, P.underlying f.type = some (.int k) ∧ cs[f.offset]? = some (.int k m)) ∧ Instr.sameBits 10000 (.agg cs) (.agg cs) = true)
    (heq : ∀ (w : World) (a b : κ), (Op.equal kt (ek a) (ek b)).run P w = .ok (decide (b = a)) w) : KeyT P kt ek := by
  refine ⟨fun w b a => ?_, fun w a l es hes => ?_, fun a => ?_⟩
  · obtain ⟨cs, h1, h2, _⟩ := hall a
    rw [h1]
    exact run_checkStruct hu h2
  · simp only [Instr.findKey, Sem.run_bind, run_underlying hu, Result.andThen_ok]
    have hn : Instr.findNow (.struct fs) (ek a) es 0 = none ∨ (es = [] ∧ l = []) := by
      cases es with
      | nil => exact .inr ⟨rfl, by simpa using hes.symm⟩
      | cons e es => exact .inl (by simp [Instr.findNow, Instr.sameNow])
    rcases hn with hn | ⟨rfl, rfl⟩
    · rw [hn]
      have := findAsking_run (P := P) (w := w) (fun a b => heq w a b) a l es 0 hes
      simpa using this
    · simp [Instr.findNow]
  · obtain ⟨cs, h1, _, h3⟩ := hall a
    rw [h1]; exact h3

theorem keysOf {κ ν : Type} {ek : κ → Value} {ev : ν → Value} {es : List MapEntry} {l : List (κ × ν)} (h : es.map (fun e => (e.key, e.val)) = l.map fun p => (ek p.1, ev p.2)) : es.map (·.key) = (l.map (·.1)).map ek ∧ es.map (·.val) = (l.map (·.2)).map ev := by
  constructor
  · have := congrArg (List.map Prod.fst) h
    simpa [List.map_map, Function.comp_def] using this
  · have := congrArg (List.map Prod.snd) h
    simpa [List.map_map, Function.comp_def] using this

section
variable {κ ν : Type} [DecidableEq κ] {ek : κ → Value} {ev : ν → Value}

def mget (l : List (κ × ν)) (k : κ) : Option ν := ((l.map (·.1)).findIdx? (fun b => decide (b = k))).bind fun i => (l[i]?).map (·.2)
def mput (l : List (κ × ν)) (k : κ) (v : ν) : List (κ × ν) :=
  match (l.map (·.1)).findIdx? (fun b => decide (b = k)) with
  | some i => l.set i (k, v)
  | none => l ++ [(k, v)]
def mdel (l : List (κ × ν)) (k : κ) : List (κ × ν) :=
  match (l.map (·.1)).findIdx? (fun b => decide (b = k)) with
  | some i => l.eraseIdx i
  | none => l

theorem mget_eq (l : List (κ × ν)) (k : κ) : mget l k = (l.find? (fun p => decide (p.1 = k))).map (·.2) := by
  induction l with
  | nil => rfl
  | cons p l ih =>
    unfold mget at ih ⊢
    simp only [List.map_cons, List.findIdx?_cons, List.find?_cons]
    by_cases h : p.1 = k
    · simp [h]
    · simp only [h, decide_false, Bool.false_eq_true, if_false]
      rw [← ih]
      cases (l.map (·.1)).findIdx? (fun b => decide (b = k)) <;> simp

theorem mget_nil (k : κ) : mget ([] : List (κ × ν)) k = none := rfl

theorem mget_put (l : List (κ × ν)) (k k' : κ) (v : ν) : mget (mput l k v) k' = if k' = k then some v else mget l k' := by
  simp only [mget_eq]
  unfold mput
  split
  · rename_i i hi
    obtain ⟨hlt, h1, h2⟩ := List.findIdx?_eq_some_iff_getElem.1 hi
    simp only [List.length_map] at hlt
    simp only [List.getElem_map, decide_eq_true_eq] at h1
    clear hi
    induction l generalizing i with
    | nil => simp at hlt
    | cons p l ih =>
      cases i with
      | zero =>
        simp only [List.getElem_cons_zero] at h1
        simp only [List.set_cons_zero, List.find?_cons]
        by_cases hk : k' = k
        · simp [hk]
        · have : ¬ k = k' := fun e => hk e.symm
          simp [hk, this, h1]
      | succ i =>
        have h0 := h2 0 (by omega)
        simp only [List.map_cons, List.getElem_cons_zero, decide_eq_true_eq, Bool.not_eq_true, decide_eq_false_iff_not] at h0
        simp only [List.set_cons_succ, List.find?_cons]
        by_cases hk : p.1 = k'
        · have : ¬ k' = k := fun e => h0 (hk.trans e)
          simp [hk, this]
        · simp only [hk, decide_false]
          refine ih i (by simpa using hlt) (fun j hj => ?_) (by simpa using hlt) (by simpa using h1)
          have := h2 (j + 1) (by omega)
          simpa using this
  · rename_i hi
    simp only [List.findIdx?_eq_none_iff, List.mem_map, decide_eq_false_iff_not] at hi
    rw [List.find?_append]
    by_cases hk : k' = k
    · subst hk
      have : l.find? (fun p => decide (p.1 = k')) = none := by
        rw [List.find?_eq_none]
        intro p hp
        have := hi p.1 ⟨p, hp, rfl⟩
        simpa using this
      simp [this]
    · have : ¬ k = k' := fun e => hk e.symm
      simp [hk, this]

theorem mput_keys (l : List (κ × ν)) (k : κ) (v : ν) (h : (l.map (·.1)).Nodup) : ((mput l k v).map (·.1)).Nodup := by
  unfold mput
  split
  · rename_i i hi
    obtain ⟨hlt, h1, h2⟩ := List.findIdx?_eq_some_iff_getElem.1 hi
    simp only [decide_eq_true_eq] at h1
    have : (l.set i (k, v)).map (·.1) = l.map (·.1) := by
      rw [List.map_set, ← h1, List.set_getElem_self]
    rw [this]; exact h
  · rename_i hi
    simp only [List.findIdx?_eq_none_iff, decide_eq_false_iff_not] at hi
    rw [List.map_append, List.nodup_append]
    refine ⟨h, by simp, ?_⟩
    intro a ha b hb e
    simp only [List.map_cons, List.map_nil, List.mem_singleton] at hb
    exact hi a ha (e.trans hb)

theorem mdel_keys (l : List (κ × ν)) (k : κ) (h : (l.map (·.1)).Nodup) : ((mdel l k).map (·.1)).Nodup := by
  unfold mdel
  split
  · rename_i i hi
    exact h.sublist ((List.eraseIdx_sublist _ _).map _)
  · exact h

theorem mget_none {l : List (κ × ν)} {k : κ} (h : k ∉ l.map (·.1)) : mget l k = none := by
  rw [mget_eq, Option.map_eq_none_iff, List.find?_eq_none]
  intro p hp
  simp only [decide_eq_true_eq]
  intro e
  exact h (List.mem_map.2 ⟨p, hp, e⟩)

theorem mget_del (l : List (κ × ν)) (k k' : κ) (h : (l.map (·.1)).Nodup) : mget (mdel l k) k' = if k' = k then none else mget l k' := by
  unfold mdel
  split
  · rename_i i hi
    obtain ⟨hlt, h1, h2⟩ := List.findIdx?_eq_some_iff_getElem.1 hi
    simp only [decide_eq_true_eq] at h1
    clear hi h2
    simp only [List.length_map] at hlt
    induction l generalizing i with
    | nil => simp at hlt
    | cons p l ih =>
      simp only [List.map_cons, List.nodup_cons] at h
      cases i with
      | zero =>
        simp only [List.map_cons, List.getElem_cons_zero] at h1
        simp only [List.eraseIdx_cons_zero]
        by_cases hk : k' = k
        · rw [if_pos hk, mget_none]
          rw [hk, ← h1]; exact h.1
        · rw [if_neg hk]
          have : ¬ p.1 = k' := fun e => hk (e.symm.trans h1)
          simp [mget_eq, List.find?_cons, this]
      | succ i =>
        have h1' : (l.map (·.1))[i]'(by simpa using hlt) = k := by simpa using h1
        have ih' := ih h.2 i (by simpa using hlt) h1' (by simpa using hlt)
        simp only [List.eraseIdx_cons_succ]
        have hpk : p.1 ≠ k := by
          intro e
          apply h.1
          rw [e, ← h1']
          exact List.getElem_mem _
        simp only [mget_eq, List.find?_cons] at ih' ⊢
        by_cases hk : p.1 = k'
        · have : ¬ k' = k := fun e => hpk (hk.trans e)
          simp [hk, this]
        · simp only [hk, decide_false]
          exact ih'
  · rename_i hi
    by_cases hk : k' = k
    · rw [if_pos hk, hk]
      apply mget_none
      simp only [List.findIdx?_eq_none_iff, decide_eq_false_iff_not] at hi
      intro hm
      exact hi k hm rfl
    · rw [if_neg hk]

/-- A map that gives these answers. -/
def tMp (b : Nat) (ek : κ → Value) (ev : ν → Value) (g : κ → Option ν) : Thing :=
  { holds := fun w O => ∃ l : List (κ × ν), (tMap b (l.map fun p => (ek p.1, ev p.2))).holds w O ∧ (l.map (·.1)).Nodup ∧ ∀ k, mget l k = g k
    fr := fun {S w w' O} h hf hn => by
      obtain ⟨l, h1, h2, h3⟩ := h
      exact ⟨l, (tMap b (l.map fun p => (ek p.1, ev p.2))).fr h1 hf hn, h2, h3⟩
    lt := fun {w O} h => by
      obtain ⟨l, h1, h2, h3⟩ := h
      exact (tMap b (l.map fun p => (ek p.1, ev p.2))).lt h1 }

def upd1 (g : κ → Option ν) (k : κ) (v : Option ν) : κ → Option ν := fun k' => if k' = k then v else g k'

theorem map_eraseIdx' {α β : Type} (f : α → β) : ∀ (l : List α) (i : Nat), (l.eraseIdx i).map f = (l.map f).eraseIdx i
  | [], _ => rfl
  | _ :: _, 0 => rfl
  | x :: l, i + 1 => by simp [map_eraseIdx' f l i]

namespace Hp
variable {S : List Nat} {w0 w : World} {its : List Thing} {P : Program}

theorem newMp (h : Hp S w0 w its) {i b : Nat} (ek : κ → Value) (ev : ν → Value) (hi : its[i]? = some (tMap b [])) : Hp S w0 w (its.set i (tMp b ek ev fun _ => none)) :=
  h.weak hi rfl (fun w O hO => ⟨[], hO, by simp, fun k => rfl⟩) rfl

theorem lookup (h : Hp S w0 w its) (i : Nat) {b : Nat} {g : κ → Option ν} {mt kt vt : TypeId} {kd : Kd} {inf : TypeInfo} {k : κ} {vk : ν → kd.T} {z : kd.T} {K : kd.T → Bool → World → Prop} {kv : Value} (hkv : kv = ek k)
    (hi : (its[i]?).map Thing.holds = some (tMp b ek ev g).holds) (hm : P.underlying mt = some (.map kt vt)) (hk : KeyT P kt ek) (hinf : P.info? vt = some inf) (hz : inf.zero = some (kd.inj z)) (hv : ∀ v, ev v = kd.inj (vk v))
    (hK : K (match g k with | some v => vk v | none => z) (g k).isSome w) :
    RunRoL [.one kd, .one .b] P (Instr.lookup mt (.map (some b)) kv true) w K := by
  subst hkv
  obtain ⟨O, l, ⟨⟨es, clock, hb, hes⟩, _⟩, hnd, hg⟩ := h.see' hi
  have hb' : ∀ w', Ext w w' → w'.heap[b]? = some (.map es clock) := fun w' he => (he.2 b (Array.getElem?_eq_some_iff.1 hb).1).trans hb
  obtain ⟨k1, k2⟩ := keysOf hes
  refine ⟨.tuple #[kd.inj (match g k with | some v => vk v | none => z), .bool (g k).isSome], fun w' he => ?_, ?_⟩
  · have hf := hk.fnd w' k _ _ k1
    simp only [Instr.lookup, Sem.run_bind, run_underlying hm, Result.andThen_ok, MapKept.run_getObj_map (hb' w' he), Sem.run_pure, hk.chk, hf]
    rw [← hg k]
    unfold mget
    cases hx : (l.map (·.1)).findIdx? (fun b => decide (b = k)) with
    | none => simp [zeroValue, typeInfo, hinf, hz]
    | some j =>
      obtain ⟨hlt, _, _⟩ := List.findIdx?_eq_some_iff_getElem.1 hx
      simp only [List.length_map] at hlt
      have e1 : (es.toList.map (·.val))[j]? = some (ev (l[j]).2) := by rw [k2]; simp [hlt]
      rw [List.getElem?_map, Option.map_eq_some_iff] at e1
      obtain ⟨en, h1, h2⟩ := e1
      have h1' : es[j]? = some en := by simpa using h1
      simp [h1', h2, hlt, hv]
  · show viewRet _ _ _ _
    simp only [viewRet, resList, flat, flat1, viewL, kdsOf, Sh.kds, List.append]
    show Kd.view kd (kd.inj _) _
    rw [Kd.view_inj]
    exact hK

theorem update (h : Hp S w0 w its) (i : Nat) {b : Nat} {g : κ → Option ν} {mt kt vt : TypeId} {k : κ} {v : ν} {u : Value} {K : World → Prop} {kv : Value} (hkv : kv = ek k)
    (hi : its[i]? = some (tMp b ek ev g)) (hm : P.underlying mt = some (.map kt vt)) (hk : KeyT P kt ek) (hu : u = ev v)
    (hK : ∀ w', Hp S w0 w' (its.set i (tMp b ek ev (upd1 g k (some v)))) → K w') :
    RunU P (Instr.mapUpdate mt (.map (some b)) kv u) w K := by
  subst hkv
  subst hu
  obtain ⟨O, ⟨l, ⟨⟨es, clock, hb, hes⟩, rfl⟩, hnd, hg⟩, back⟩ := h.step hi rfl
  obtain ⟨k1, k2⟩ := keysOf hes
  have hf := hk.fnd w k _ _ k1
  have key : ∀ (es' : Array MapEntry) (clock' : Nat), es'.toList.map (fun e => (e.key, e.val)) = (mput l k v).map (fun p => (ek p.1, ev p.2)) → K { w with heap := w.heap.setIfInBounds b (.map es' clock') } := by
    intro es' clock' he
    obtain ⟨s1, s2⟩ := MapKept.heap_set (o' := .map es' clock') hb
    refine hK _ (back (t' := tMp b ek ev (upd1 g k (some v))) (O' := [b]) ⟨rfl, rfl, rfl, by simp, fun r _ hr => s2 r (by simpa using hr)⟩ ⟨mput l k v, ⟨⟨es', clock', s1, he⟩, rfl⟩, mput_keys l k v hnd, fun k' => ?_⟩ (fun k hk => .inl hk) rfl)
    rw [mget_put, upd1, hg]
  unfold RunU
  simp only [Instr.mapUpdate, Sem.run_bind, run_underlying hm, Result.andThen_ok, MapKept.run_getObj_map hb, hk.chk, hf]
  cases hx : (l.map (·.1)).findIdx? (fun b => decide (b = k)) with
  | none =>
    simp only [Option.bind_none, MapKept.run_setObj_map _ hb]
    refine ⟨_, rfl, key _ _ ?_⟩
    simp only [mput, hx]
    simp [hes]
  | some j =>
    obtain ⟨hlt, hj, _⟩ := List.findIdx?_eq_some_iff_getElem.1 hx
    simp only [List.length_map] at hlt
    simp only [List.getElem_map, decide_eq_true_eq] at hj
    have hlen : es.size = l.length := by have := congrArg List.length hes; simpa using this
    have hje : j < es.size := by omega
    have ekey : es[j].key = ek k := by
      have : (es.toList.map (·.key))[j]? = some (ek (l[j]).1) := by rw [k1]; simp [hlt]
      simp only [List.getElem?_map, Array.getElem?_toList, Array.getElem?_eq_getElem hje, Option.map_some, Option.some.injEq] at this
      rw [this, hj]
    have hst : (Instr.keyThatStays (ek k) (ek k)).run P w = .ok (ek k) w := by
      simp [Instr.keyThatStays, hk.same]
    simp only [Option.bind_some, Array.getElem?_toList, Array.getElem?_eq_getElem hje, Option.map_some, Option.getD_some, ekey, Sem.run_bind, hst, Result.andThen_ok, MapKept.run_setObj_map _ hb]
    refine ⟨_, rfl, key _ _ ?_⟩
    simp only [mput, hx]
    apply List.ext_getElem?
    intro m
    have hes' : ∀ m : Nat, (es[m]?).map (fun e => (e.key, e.val)) = (l[m]?).map (fun p => (ek p.1, ev p.2)) := by
      intro m
      have := congrArg (fun x => x[m]?) hes
      simpa [List.getElem?_map] using this
    simp only [List.getElem?_map, Array.getElem?_toList, Array.getElem?_modify, List.getElem?_set]
    by_cases hm : j = m
    · subst hm
      simp [hlt, Array.getElem?_eq_getElem hje]
    · simp only [hm, if_false]
      exact hes' m

theorem delete (h : Hp S w0 w its) (i : Nat) {b : Nat} {g : κ → Option ν} {mt kt vt d ty : TypeId} {k : κ} {K : Value → World → Prop} {kv : Value} (hkv : kv = ek k)
    (hi : its[i]? = some (tMp b ek ev g)) (hm : P.underlying mt = some (.map kt vt)) (hk : KeyT P kt ek)
    (hK : ∀ v w', Hp S w0 w' (its.set i (tMp b ek ev (upd1 g k none))) → K v w') :
    Run .v P (Builtin.delete_ #[mt, d] ty #[.map (some b), kv]) w K := by
  subst hkv
  obtain ⟨O, ⟨l, ⟨⟨es, clock, hb, hes⟩, rfl⟩, hnd, hg⟩, back⟩ := h.step hi rfl
  obtain ⟨k1, k2⟩ := keysOf hes
  have hf := hk.fnd w k _ _ k1
  have key : ∀ (es' : Array MapEntry) (clock' : Nat), es'.toList.map (fun e => (e.key, e.val)) = (mdel l k).map (fun p => (ek p.1, ev p.2)) → K (.tuple #[]) { w with heap := w.heap.setIfInBounds b (.map es' clock') } := by
    intro es' clock' he
    obtain ⟨s1, s2⟩ := MapKept.heap_set (o' := .map es' clock') hb
    refine hK _ _ (back (t' := tMp b ek ev (upd1 g k none)) (O' := [b]) ⟨rfl, rfl, rfl, by simp, fun r _ hr => s2 r (by simpa using hr)⟩ ⟨mdel l k, ⟨⟨es', clock', s1, he⟩, rfl⟩, mdel_keys l k hnd, fun k' => ?_⟩ (fun k hk => .inl hk) rfl)
    rw [mget_del _ _ _ hnd, upd1, hg]
  refine ⟨.tuple #[], ?_⟩
  have e0 : (#[mt, d] : Array TypeId)[0]? = some mt := rfl
  have e1 : (#[Value.map (some b), ek k] : Array Value)[0]? = some (.map (some b)) := rfl
  have e2 : (#[Value.map (some b), ek k] : Array Value)[1]? = some (ek k) := rfl
  simp only [Builtin.delete_, e0, e1, e2, Sem.run_bind, run_underlying hm, Result.andThen_ok, MapKept.run_getObj_map hb, hk.chk, hf, Kd.inj]
  cases hx : (l.map (·.1)).findIdx? (fun b => decide (b = k)) with
  | none =>
    simp only [Option.bind_none, Sem.run_bind, MapKept.run_setObj_map _ hb, Result.andThen_ok, Sem.run_pure]
    refine ⟨_, rfl, key _ _ ?_⟩
    simp only [mdel, hx, hes]
  | some j =>
    obtain ⟨hlt, hj, _⟩ := List.findIdx?_eq_some_iff_getElem.1 hx
    simp only [List.length_map] at hlt
    have hlen : es.size = l.length := by have := congrArg List.length hes; simpa using this
    have hje : j < es.size := by omega
    simp only [Option.bind_some, Array.getElem?_toList, Array.getElem?_eq_getElem hje, Option.map_some, Sem.run_bind, MapKept.run_setObj_map _ hb, Result.andThen_ok, Sem.run_pure]
    refine ⟨_, rfl, key _ _ ?_⟩
    simp only [mdel, hx]
    rw [Array.toList_eraseIdxIfInBounds, map_eraseIdx', hes, map_eraseIdx']

end Hp
end
end Go.Den
