/-
  The contract of the iterator that record.Walk hands out.
-/
import Derived.Test.YtmbbfaigbhnhcaaC02f
import Derived.RangeFuncKeeps
import Derived.RangeFuncLeaves
import Derived.Shelf.Abstract
import Derived.WalkKit
import Derived.OwnWalkIn
import Derived.TacticsInMore
import Derived.LoopNIn
import Derived.LoopIn
set_option linter.unusedSimpArgs false
set_option linter.unusedVariables false
set_option maxRecDepth 100000
namespace Go.Proofs.Ytmbbfaigbhnhcaa.F
open Go Go.Den Go.Proofs Go.RowKit Go.Shelf

attribute [local go_sem] Oper.semAt_some

/-- What the iterator must find in memory. -/
def WalkQ (bo : Nat) (all : Sl) (bs : List Int) (O : List Nat) (W : World) : Prop := Blk W bo 22 (slv all) ∧ SlR W all 1 u8v bs O
/-- What it tells. -/
def WalkG (bs : List Int) (pre : List (Int × Sl)) (x : Int × Sl) (W0 W1 : World) : Prop :=
  ∃ d, (recs bs)[pre.length]? = some d ∧ x.1 = (tot ((recs bs).take pre.length) : Nat) ∧ ∃ O, SlF W1 x.2 5 1 u8v d O ∧ ∀ k ∈ O, W0.heap.size ≤ k
def wkE (x : Int × Sl) : Array Value := #[.int .i64 x.1, .slice x.2.a x.2.len x.2.cap]

theorem get_in {W : World} {s : Sl} {cs : List Int} {O : List Nat} (hs : SlR W s 1 u8v cs O) (hb : Bytes cs) (hl : cs.length ≤ 9000000000000000) (hcap : s.len ≤ s.cap) :
    CallsIn Fence.wide 0 Try.prog 18 #[.slice s.a s.len s.cap] W fun e W' => ∃ r : Sl, e = .returned (.tuple #[.slice r.a r.len r.cap, .int .i64 (getR cs).2]) ∧ Grw W W' ∧ ∃ O', SlF W' r 5 1 u8v (getR cs).1 O' ∧ ∀ k ∈ O', W.heap.size ≤ k := by
  have h := (Hp.begin_ W).addRo (t := tRd s 1 u8v cs) hs (by simp)
  have hc : c18 s W fun r n W' => n = (getR cs).2 ∧ Grw W W' ∧ ∃ O', SlF W' r 5 1 u8v (getR cs).1 O' ∧ ∀ k ∈ O', W.heap.size ≤ k :=
    RecGet_spec h 0 (u := (tRd s 1 u8v cs).ro) rfl ⟨Hp.rdRd.rd⟩ hb hl hcap fun r W' h => by
      refine ⟨rfl, Grw.of h.fr, ?_⟩
      obtain ⟨_, F, h1, _⟩ := h
      obtain ⟨g1, g2, _⟩ := h1 1 _ rfl
      exact ⟨F 1, g1, fun k hk => (g2 rfl k hk).elim (fun h => by cases h) id⟩
  refine callsIn_wide.2 (Calls.mono hc ?_)
  rintro e W' ⟨v, rfl, hv⟩
  obtain ⟨a, b, rfl, h1, h2⟩ : ∃ (r : Sl) (n : Int), v = .tuple #[.slice r.a r.len r.cap, .int .i64 n] ∧ n = (getR cs).2 ∧ (Grw W W' ∧ ∃ O', SlF W' r 5 1 u8v (getR cs).1 O' ∧ ∀ k ∈ O', W.heap.size ≤ k) := by
    cases v with
    | tuple vs =>
      unfold viewRet at hv
      simp only [resList] at hv
      match hvs : vs.toList, hv with
      | [], hv => simp [hvs, flat] at hv
      | [x], hv => simp [hvs, flat, flat1] at hv
      | x :: y :: z :: r, hv => simp [hvs, flat, flat1] at hv
      | [x, y], hv =>
        simp only [hvs, flat, flat1, kdsOf, Sh.kds, List.append_nil, List.cons_append, List.nil_append, viewL] at hv
        obtain ⟨r, rfl, hv1⟩ := Kd.of_view hv
        obtain ⟨n, rfl, hv2⟩ := Kd.of_view hv1
        refine ⟨r, n, ?_, hv2⟩
        congr 1
        apply Array.ext'
        rw [hvs]; rfl
    | _ => simp [viewRet, resList] at hv
  exact ⟨a, by rw [h1], h2⟩

theorem suffix {W : World} {s : Sl} {bs : List Int} {O : List Nat} (h : SlR W s 1 u8v bs O) {t : Nat} (ht : t ≤ s.len) {s' : Sl} (hl : s'.len = s.len - t) (ha : s'.a = s.a.map (·.add t) ∨ s'.len = 0) : ∃ O', SlR W s' 1 u8v (bs.drop t) O' := by
  have hbl := h.len
  by_cases hz : s'.len = 0
  · refine ⟨[], ?_, .inl ⟨hz, rfl⟩⟩
    rw [List.length_drop]; omega
  · refine ⟨O, by rw [List.length_drop]; omega, ?_⟩
    rcases h.2 with ⟨h1, _⟩ | ⟨x, hx, ho, hb, hc⟩
    · omega
    · rcases ha with ha | ha
      · refine .inr ⟨x.add t, by rw [ha, hx]; rfl, by rw [ho, Addr.add_block], by rw [Addr.add_block]; exact hb, fun j u hj => ?_⟩
        rw [Addr.add_add_any]
        refine hc _ _ ?_
        have e : ∀ l : List Int, l.flatMap u8v = l.map (fun x => Value.int .u8 x) := fun l => by
          induction l with
          | nil => rfl
          | cons a l ih => rw [List.flatMap_cons, List.map_cons, ih]; rfl
        rw [e] at hj ⊢
        rw [List.getElem?_map, List.getElem?_drop] at hj
        rw [List.getElem?_map]; exact hj
      · omega

theorem far_pre (bs : List Int) (hb : Bytes bs) : ∀ k, k ≤ (recs bs).length → Far bs ((recs bs).take k) := by
  intro k
  induction k with
  | zero => intro _; exact Far.start bs
  | succ k ih =>
    intro hk
    have hf := ih (by omega)
    have hz : (getR (bs.drop (tot ((recs bs).take k)))).2 ≠ 0 := fun hz => by
      have := congrArg List.length (hf.done hz)
      rw [List.length_take] at this; omega
    have h1 := (hf.step hb hz).1
    have e : (recs bs).take (k + 1) = (recs bs).take k ++ [(getR (bs.drop (tot ((recs bs).take k)))).1] := by
      have := hf.all
      rw [recs_step (fun x hx => hb x (List.mem_of_mem_drop hx)) hz] at this
      have h2 := congrArg (List.take (k + 1)) this
      rw [h2, List.take_append, List.length_take, List.take_take]
      have : k + 1 - min k (recs bs).length = 1 := by omega
      rw [this]
      congr 1
      rw [Nat.min_eq_right (by omega)]
    rw [e]; exact h1
theorem rec_at {bs : List Int} (hb : Bytes bs) {k : Nat} (hk : k ≤ (recs bs).length) (hz : (getR (bs.drop (tot ((recs bs).take k)))).2 ≠ 0) :
    (recs bs)[k]? = some (getR (bs.drop (tot ((recs bs).take k)))).1 ∧ k + 1 ≤ (recs bs).length ∧ (tot ((recs bs).take (k + 1)) : Int) = tot ((recs bs).take k) + (getR (bs.drop (tot ((recs bs).take k)))).2 := by
  have hf := far_pre bs hb k hk
  have h2 := (hf.step hb hz).2
  have hall := hf.all
  rw [recs_step (fun x hx => hb x (List.mem_of_mem_drop hx)) hz] at hall
  have hlt : (List.take k (recs bs)).length = k := by rw [List.length_take]; omega
  have hg : (recs bs)[k]? = some (getR (bs.drop (tot ((recs bs).take k)))).1 := by
    rw [hall, List.getElem?_append_right (by rw [hlt]; omega), hlt, Nat.sub_self, ← hall]; rfl
  have hlt2 := (List.getElem?_eq_some_iff.1 hg).1
  refine ⟨hg, by omega, ?_⟩
  rw [List.take_add_one, hg]
  exact h2

set_option maxHeartbeats 4000000 in
theorem walk_in {l bo : Nat} {all : Sl} {bs : List Int} {O : List Nat} (hb : Bytes bs) (hl : bs.length ≤ 5000000000000) (hcap : all.len ≤ all.cap) (J Jx : List (Int × Sl) → World → Prop)
    (hY : ∀ pre x W0 W1, J pre W0 → Grw W0 W1 → WalkG bs pre x W0 W1 → YieldAt Fence.wide 0 Try.prog l (wkE x) W1 fun e W' =>
      (e = .returned (.bool true) ∧ J (pre ++ [x]) W' ∧ WalkQ bo all bs O W') ∨ (e = .returned (.bool false) ∧ Jx (pre ++ [x]) W'))
    {W : World} (hQ : WalkQ bo all bs O W) (h0 : J [] W) :
    CallsIn Fence.wide 0 Try.prog 33 #[.func (.yield l) #[] #[], .pointer (some ⟨bo, 0, none⟩)] W fun e W' => (∃ v, e = .returned v) ∧
      ((∃ xs W0, xs.length = (recs bs).length ∧ J xs W0 ∧ Grw W0 W') ∨ (∃ pre W0, True ∧ Jx pre W0 ∧ Grw W0 W')) := by
  have hrl := hQ.2.len
  refine callsIn_of_wp Try.func33 rfl trivial ?_ rfl
  simp only [Try.ntmps33, List.size_toArray, List.length_cons, List.length_nil, Nat.reduceAdd, Nat.reduceSub, Array.replicate_succ, Array.replicate_zero, List.push_toArray, List.append_toArray, List.nil_append, List.cons_append]
  gi_wp2
  gi_loopw [3] (fun p wr => ∃ (pre : List (Int × Sl)), p = .int .i64 (tot ((recs bs).take pre.length) : Nat) ∧ pre.length ≤ (recs bs).length ∧ WalkQ bo all bs O wr ∧ J pre wr)
    (fun p wr => match p with | .int _ n => bs.length - n.toNat | _ => 0)
  case atStart =>
    exact ⟨[], by simp [tot], by simp, hQ, h0⟩
  case round =>
    obtain ⟨pre, rfl, hpl, hq, hJ⟩ := hrel
    have hcell : wr.cell? ⟨bo, 0, none⟩ = some (.slice all.a all.len all.cap) := by rw [hq.1.cell]; rfl
    have hf := far_pre bs hb pre.length hpl
    have hle : tot ((recs bs).take pre.length) ≤ bs.length := hf.le
    have hbd : Bytes (bs.drop (tot ((recs bs).take pre.length))) := fun x hx => hb x (List.mem_of_mem_drop hx)
    have hrg := getR_range hbd
    have hat := rec_at (k := pre.length) hb hpl
    have hdl : (bs.drop (tot ((recs bs).take pre.length))).length = bs.length - tot ((recs bs).take pre.length) := List.length_drop
    generalize ht : tot ((recs bs).take pre.length) = t at hf hle hbd hrg hat hdl ⊢
    have hqg : ∀ {W2}, Grw wr W2 → WalkQ bo all bs O W2 := fun {W2} hg => ⟨hq.1.fr hg.fr (by simp), hq.2.fr hg.fr (by simp)⟩
    have hend : (getR (bs.drop t)).2 = 0 → pre.length = (recs bs).length := fun hz => by
      rw [← ht] at hz
      have := congrArg List.length ((far_pre bs hb pre.length hpl).done hz)
      rw [List.length_take] at this; omega
    have hnt : t + 1 ≤ bs.length ∨ (getR (bs.drop t)).2 = 0 := by omega
    generalize hn : (getR (bs.drop t)).2 = n at hrg hat hdl hend hnt
    gi_wp2
    · obtain ⟨O1, hO1⟩ := suffix hq.2 (t := t) (by omega) (s' := ⟨all.a, all.len - t, 0⟩) rfl (.inr (by show all.len - _ = 0; omega))
      have hget := get_in hO1 hbd (by omega) (by show all.len - _ ≤ 0; omega)
      rw [hn] at hget
      refine ⟨trivial, rfl, CallsIn.mono hget ?_⟩
      rintro e W2 ⟨r, rfl, hgr, O', hs', hO'⟩
      have hq2 := hqg hgr
      have hyl := hY pre ((t : Int), r) wr W2 hJ hgr
      unfold WalkG wkE at hyl
      have hz : n = 0 := by
        have := hrg.1; have := hrg.2.1; omega
      gi_wp2
      refine ⟨nofun, ?_⟩
      gi_wp2
      refine bodyPost_ret (results_none rfl _ _ _) rfl ?_
      exact ⟨⟨_, rfl⟩, .inl ⟨pre, wr, hend hz, hJ, hgr⟩⟩
    · obtain ⟨O1, hO1⟩ := suffix hq.2 (t := t) (by omega) (s' := ⟨all.a.map (·.add t), all.len - t, all.cap - t⟩) rfl (.inl rfl)
      have hget := get_in hO1 hbd (by omega) (by show all.len - _ ≤ all.cap - _; omega)
      rw [hn] at hget
      refine ⟨trivial, rfl, CallsIn.mono hget ?_⟩
      rintro e W2 ⟨r, rfl, hgr, O', hs', hO'⟩
      have hq2 := hqg hgr
      have hyl := hY pre ((t : Int), r) wr W2 hJ hgr
      unfold WalkG wkE at hyl
      by_cases hz : n = 0
      · gi_wp2
        refine ⟨nofun, ?_⟩
        gi_wp2
        refine bodyPost_ret (results_none rfl _ _ _) rfl ?_
        exact ⟨⟨_, rfl⟩, .inl ⟨pre, wr, hend hz, hJ, hgr⟩⟩
      · obtain ⟨h1, h2, h3⟩ := hat hz
        obtain ⟨fn, tmps, assign, body, hy, hR⟩ := hyl ⟨_, h1, by rw [ht], O', hs', hO'⟩
        gi_wp2
        refine ⟨rfl, hR.mono ?_⟩
        rintro e W3 (⟨rfl, hJ3, hk3⟩ | ⟨rfl, hJx3⟩)
        · gi_wp2
          go_roundw
          case rel =>
            refine ⟨pre ++ [((t : Int), r)], ?_, ?_, hk3, hJ3⟩
            · rw [List.length_append, List.length_singleton, h3]
            · rw [List.length_append, List.length_singleton]; exact h2
          case measure =>
            show bs.length - ((t : Int) + n).toNat < bs.length - ((t : Int)).toNat
            omega
        · gi_wp2
          refine bodyPost_ret (results_none rfl _ _ _) rfl ?_
          exact ⟨⟨_, rfl⟩, .inr ⟨_, W3, trivial, hJx3, Grw.refl _⟩⟩

/-- The contract of the iterator. -/
theorem walk_seq {bo : Nat} {all : Sl} {bs : List Int} {O : List Nat} (hb : Bytes bs) (hl : bs.length ≤ 5000000000000) (hcap : all.len ≤ all.cap) {W : World} (hQ : WalkQ bo all bs O W) :
    SeqX Try.prog 33 #[.pointer (some ⟨bo, 0, none⟩)] wkE (WalkQ bo all bs O) (WalkG bs) (fun xs => xs.length = (recs bs).length) (fun _ => True) W :=
  fun l J Jx hY h0 => walk_in hb hl hcap J Jx hY hQ h0
end Go.Proofs.Ytmbbfaigbhnhcaa.F
