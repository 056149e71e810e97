/-
  Loops over functions ('for x := range seq'): the code of a body, walked in a round's frame; the statement itself; a function that holds one.
-/
import Derived.Test.YtmbbfaigbhnhcaaDenH
import Derived.RangeFuncNested
import Derived.RangeFuncLeaves
import Derived.OrdersIn
import Derived.TacticsIn
import Derived.Sort.LoopGhostIn
set_option linter.unusedSimpArgs false
set_option linter.unusedVariables false
namespace Go.Den
open Go.RowKit
variable {ds : List Deferred}

def noDef (o : Oper) : Bool := match o.op with | .defer _ => false | _ => true
def noDefs : Code → Bool
  | .region _ ops _ => ops.toList.all noDef
  | .seq a b => noDefs a && noDefs b
  | .cond _ a b => noDefs a && noDefs b
  | .block _ c => noDefs c
  | .loop c => noDefs c
  | _ => true

theorem of_noDef {o : Oper} (h : noDef o = true) : ∀ c, o.op ≠ .defer c := by
  intro c hc
  unfold noDef at h
  rw [hc] at h
  cases h

section
variable {P : Program} {N : Nat} {H : Hints} {r n : Nat} {ops : Array Oper} {Q : Exit → Act → World → Prop}

theorem rows_in {row : String} {args : Array Value} {w : World} {R : Value → World → Prop} (h : Rows P row args w R) : RowsIn (Fence.wide.inRound r) n P row args w R :=
  fun c cs _ => let ⟨v, w', hr, hs⟩ := h c cs; ⟨v, w', hr, stepsIn_wide.2 hs⟩

theorem oper_in {o : Oper} {a : Act} {w : World} {K : Act → World → Prop} (hd : noDef o = true) (h : o.wp P a w K Q) : o.wpIn (Fence.wide.inRound r) n P a w K Q := by
  unfold Oper.wp at h
  unfold Oper.wpIn
  refine ⟨fun _ _ => trivial, ?_⟩
  have e : Oper.semAt (Fence.wide.inRound r).round a.eval o = execOp a.eval o := Oper.semAt_some r a.eval o (of_noDef hd)
  rw [e]
  generalize (execOp a.eval o).run P w = res at h
  cases res with
  | ok x w' =>
    cases x with
    | value v => exact h
    | skip => exact h
    | defer d => exact h
    | enter f args => exact ⟨(fun hd => by cases hd), CallsIn.inRound r (callsIn_wide.2 h)⟩
    | row row args => exact ⟨(fun hd => by cases hd), rows_in h⟩
    | _ => exact h.elim
  | halt x w' => cases x <;> first | exact h | exact h.elim

theorem op_in {i : Nat} {a : Act} {w : World} {K : Act → World → Prop} (hd : ∀ o, ops[i]? = some o → noDef o = true) (hQ : ¬ LetsOut Q) (h : wpOp P ops Q i K a w) : wpOpIn (Fence.wide.inRound r) n P ops Q i K a w := by
  unfold wpOp at h
  unfold wpOpIn
  split
  · rename_i ho; rw [ho] at h; exact h
  · rename_i o ho
    rw [ho] at h
    simp only at h
    split
    · rename_i hw
      rw [if_pos hw] at h
      rcases h with h | h
      · exact oper_in (hd o ho) h
      · exact absurd h.2 hQ
    · rename_i hw
      rw [if_neg hw] at h
      exact ⟨fun _ _ => trivial, h⟩

theorem list_in (hQ : ¬ LetsOut Q) : ∀ {l : List Oper} {a : Act} {w : World}, (∀ o ∈ l, noDef o = true) → wpList P ops Q l a w → wpListIn (Fence.wide.inRound r) n P ops Q l a w
  | [], a, w, _, h => h
  | o :: rest, a, w, hd, h => by
    have ih := fun {a w} => list_in hQ (l := rest) (a := a) (w := w) (fun o ho => hd o (by simp [ho]))
    unfold wpList at h
    unfold wpListIn
    split
    · rename_i hw
      rw [if_pos hw] at h
      rcases h with h | h
      · exact Oper.wpIn_mono (fun a w h => ih h) (oper_in (hd o (by simp)) h)
      · exact absurd h.2 hQ
    · rename_i hw
      rw [if_neg hw] at h
      exact ⟨fun _ _ => trivial, ih h⟩

theorem any_in {md : Region.Mode} (hd : ∀ (i : Nat) (o : Oper), ops[i]? = some o → noDef o = true) (hQ : ¬ LetsOut Q) : ∀ {fuel : Nat} {L : Array Bool} {a : Act} {w : World}, wpAny P md ops Q fuel L a w → wpAnyIn (Fence.wide.inRound r) n P md ops Q fuel L a w
  | 0, L, a, w, h => h
  | fuel + 1, L, a, w, h => ⟨h.1, fun i hi => wpOpIn_mono (fun a w h => any_in hd hQ h) (op_in (hd i) hQ (h.2 i hi))⟩

theorem wpIn_dRegion (hP : OkP P) {id : Nat} {ops : Array Oper} {draw : Bool} {l : Env} {w : World} {a : Act} {K : Env → World → Prop} (hd : noDefs (.region id ops draw) = true) (hl : EnvOk ds N a l)
    (h : dRegion P N ops draw l w K) : (Code.region id ops draw).wpIn (Fence.wide.inRound r) n P (fun e a' w' => e = .normal ∧ Off (dstsOf ops.toList) a a' ∧ ∃ l', EnvOk ds N a' l' ∧ K l' w') a w := by
  have hQ : ¬ LetsOut (fun (e : Exit) (a' : Act) (w' : World) => e = .normal ∧ Off (dstsOf ops.toList) a a' ∧ ∃ l', EnvOk ds N a' l' ∧ K l' w') := by
    rintro ⟨_, _, he, _⟩; cases he
  have hd' : ∀ o ∈ ops.toList, noDef o = true := List.all_eq_true.1 hd
  have hd2 : ∀ (i : Nat) (o : Oper), ops[i]? = some o → noDef o = true := fun i o ho => hd' o (by rw [Array.mem_toList_iff]; exact Array.mem_of_getElem? ho)
  cases draw with
  | false => exact wpIn_region_list (list_in hQ hd' (dRegion_list hP hl h))
  | true => exact wpIn_region_any hP.mixed (any_in hd2 hQ (dRegion_any hP hl h))

theorem dCode_soundR (hP : OkP P) {r n : Nat} : ∀ (c : Code) {l : Env} {Q : Exit → Env → World → Prop} {w : World} {a : Act}, noDefs c = true → EnvOk ds N a l → dCode P N H c l Q w →
    c.wpIn (Fence.wide.inRound r) n P (Post ds N (writes c) a Q) a w
  | .skip, l, Q, w, a, hd, hl, h => wpIn_skip ⟨Off.refl _ _, l, hl, h⟩
  | .label _, l, Q, w, a, hd, hl, h => wpIn_label ⟨Off.refl _ _, l, hl, h⟩
  | .region id ops draw, l, Q, w, a, hd, hl, h => by
    refine wpIn_mono (wpIn_dRegion hP hd hl h) ?_
    rintro e a' w' ⟨rfl, ho, l', hl', hK⟩
    exact ⟨ho, l', hl', hK⟩
  | .seq x y, l, Q, w, a, hd, hl, h => by
    simp only [noDefs, Bool.and_eq_true] at hd
    have ihx := fun {l Q w a} => dCode_soundR hP (r := r) (n := n) x (l := l) (Q := Q) (w := w) (a := a) hd.1
    have ihy := fun {l Q w a} => dCode_soundR hP (r := r) (n := n) y (l := l) (Q := Q) (w := w) (a := a) hd.2
    unfold dCode at h
    refine wpIn_seq ?_
    split at h
    · refine wpIn_mono (ihx hl h) ?_
      rintro e a' w' ⟨ho, l', hl', hq⟩
      have hox : Off (writes (.seq x y)) a a' := ho.mono fun t ht => by simp [writes, ht]
      cases e with
      | normal =>
        refine wpIn_mono (ihy hl' hq) ?_
        rintro e a'' w'' ⟨ho', l'', hl'', hq'⟩
        exact ⟨hox.trans (ho'.mono fun t ht => by simp [writes, ht]), l'', hl'', hq'⟩
      | _ => exact ⟨hox, l', hl', hq⟩
    · rename_i hh _
      cases hb : kept x hh.keep with
      | false => rw [hb] at h; exact h.elim
      | true =>
        rw [hb] at h
        simp only [cond_true] at h
        split at h
        · exact h.elim
        · rename_i kl hkl
          obtain ⟨J, h1, h2⟩ := h
          refine wpIn_mono (ihx hl h1) ?_
          rintro e a' w' ⟨ho, l', hl', hq⟩
          have hox : Off (writes (.seq x y)) a a' := ho.mono fun t ht => by simp [writes, ht]
          cases e with
          | normal =>
            simp only at hq
            split at hq
            · rename_i vs hvs
              obtain ⟨r, hr, hb2⟩ := of_viewL hq h2
              refine wpIn_mono (ihy (env_again hl hl' ho hb hkl hvs) (hb2 w' hr)) ?_
              rintro e a'' w'' ⟨ho', l'', hl'', hq'⟩
              exact ⟨hox.trans (ho'.mono fun t ht => by simp [writes, ht]), l'', hl'', hq'⟩
            · exact hq.elim
          | _ => exact ⟨hox, l', hl', hq⟩
  | .cond c x y, l, Q, w, a, hd, hl, h => by
    simp only [noDefs, Bool.and_eq_true] at hd
    have ihx := fun {l Q w a} => dCode_soundR hP (r := r) (n := n) x (l := l) (Q := Q) (w := w) (a := a) hd.1
    have ihy := fun {l Q w a} => dCode_soundR hP (r := r) (n := n) y (l := l) (Q := Q) (w := w) (a := a) hd.2
    unfold dCode at h
    split at h
    · rename_i b hb
      have he := of_look hl FlOk.nil holds_nil c _ hb
      refine wpIn_cond he ?_
      cases b with
      | true =>
        simp only [if_true] at h ⊢
        refine wpIn_mono (ihx hl h) ?_
        rintro e a' w' ⟨ho, r⟩
        exact ⟨ho.mono fun t ht => by simp [writes, ht], r⟩
      | false =>
        simp only [Bool.false_eq_true, if_false] at h ⊢
        refine wpIn_mono (ihy hl h) ?_
        rintro e a' w' ⟨ho, r⟩
        exact ⟨ho.mono fun t ht => by simp [writes, ht], r⟩
    · exact h.elim
  | .block id c, l, Q, w, a, hd, hl, h => by
    simp only [noDefs] at hd
    have ih := fun {l Q w a} => dCode_soundR hP (r := r) (n := n) c (l := l) (Q := Q) (w := w) (a := a) hd
    unfold dCode at h
    refine wpIn_block (wpIn_mono (ih hl h) ?_)
    rintro e a' w' ⟨ho, l', hl', hq⟩
    cases e with
    | exit id' =>
      simp only [Exit.inBlock]
      simp only at hq
      by_cases hid : id' = id
      · rw [if_pos hid]
        have : Nat.beq id' id = true := by rw [hid]; simp
        rw [this] at hq
        exact ⟨ho, l', hl', hq⟩
      · rw [if_neg hid]
        have : Nat.beq id' id = false := by
          cases hb : Nat.beq id' id with
          | false => rfl
          | true => exact absurd (Nat.eq_of_beq_eq_true hb) hid
        rw [this] at hq
        exact ⟨ho, l', hl', hq⟩
    | _ => exact ⟨ho, l', hl', hq⟩
  | .loop c, l, Q, w, a, hd, hl, h => by
    simp only [noDefs] at hd
    have ih := fun {l Q w a} => dCode_soundR hP (r := r) (n := n) c (l := l) (Q := Q) (w := w) (a := a) hd
    unfold dCode at h
    split at h
    · exact h.elim
    · rename_i hh _
      cases hb : kept c hh.keep with
      | false => rw [hb] at h; exact h.elim
      | true =>
        rw [hb] at h
        simp only [cond_true] at h
        split at h
        · rename_i kl vs0 hkl hvs0
          obtain ⟨Inv, h1, h2⟩ := h
          have start : ∃ (n : Nat) (vs : List Value) (r : Nat → World → Prop), getVals l (hh.mods.map (·.1)) = some vs ∧ r n w ∧ (∀ n w', r n w' → dCode P N H c (zipEnv hh.mods vs ++ kl) (fun e l' w'' => match e with
              | .normal => match getVals l' (hh.mods.map (·.1)) with
                | some vs' => viewL (hh.mods.map (·.2)) vs' (fun r' => ∃ n', n' < n ∧ r' n' w'') Inv
                | none => False
              | e => Q e l' w'') w') := by
            obtain ⟨r, ⟨n, hr⟩, hB⟩ := of_viewL h1 h2
            exact ⟨n, vs0, r, hvs0, hr, hB⟩
          obtain ⟨n0, vs, r0, hvs, hr0, hB0⟩ := start
          refine wpIn_loop_ghost (fun n a' w' => Off (writes c) a a' ∧ ∃ (l' : Env) (vs : List Value) (r : Nat → World → Prop), EnvOk ds N a' l' ∧ getVals l' (hh.mods.map (·.1)) = some vs ∧ r n w' ∧
              (∀ n w', r n w' → dCode P N H c (zipEnv hh.mods vs ++ kl) (fun e l' w'' => match e with
              | .normal => match getVals l' (hh.mods.map (·.1)) with
                | some vs' => viewL (hh.mods.map (·.2)) vs' (fun r' => ∃ n', n' < n ∧ r' n' w'') Inv
                | none => False
              | e => Q e l' w'') w')) n0 ⟨Off.refl _ _, l, vs, r0, hl, hvs, hr0, hB0⟩ ?_
          rintro n a1 w1 ⟨ho, l1, vs1, r1, hl1, hvs1, hr1, hB1⟩
          refine wpIn_mono (ih (env_again hl hl1 ho hb hkl hvs1) (hB1 n w1 hr1)) ?_
          rintro e a' w' ⟨ho', l', hl', hq⟩
          cases e with
          | normal =>
            simp only at hq
            split at hq
            · rename_i vs' hvs'
              obtain ⟨r', ⟨n', hlt, hr'⟩, hB'⟩ := of_viewL hq h2
              exact ⟨n', hlt, ho.trans ho', l', vs', r', hl', hvs', hr', hB'⟩
            · exact hq.elim
          | _ => exact ⟨ho.trans ho', l', hl', hq⟩
        · exact h.elim
  | .exit id, l, Q, w, a, hd, hl, h => wpIn_exit ⟨Off.refl _ _, l, hl, h⟩
  | .ret, l, Q, w, a, hd, hl, h => wpIn_ret ⟨Off.refl _ _, l, hl, h⟩
  | .rangeFunc _ _ _ _, _, _, _, _, _, _, h => h.elim
  | .scope _, _, _, _, _, _, _, h => h.elim
  | .goto _, _, _, _, _, _, _, h => h.elim
  | .refuse _, _, _, _, _, _, _, h => h.elim

end
end Go.Den
