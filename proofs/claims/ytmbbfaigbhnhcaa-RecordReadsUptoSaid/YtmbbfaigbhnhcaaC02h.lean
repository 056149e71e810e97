/-
  The law's head start: the document's examples.
-/
import Derived.Test.YtmbbfaigbhnhcaaC02g
import Derived.Test.YtmbbfaigbhnhcaaDenP
import Derived.Lib.SlBytesConst
set_option linter.unusedSimpArgs false
set_option linter.unusedVariables false
set_option maxRecDepth 100000
namespace Go.Proofs.Ytmbbfaigbhnhcaa.F
open Go Go.Den Go.Proofs

section
variable {S : List Nat} {w0 w : World} {its : List Thing}

theorem und5 : Try.prog.underlying 5 = some (.int .u8) := by kernel_rfl
theorem und45 : Try.prog.underlying 45 = some (.func #[58] #[] false) := by kernel_rfl
theorem equalIn_func_nil {P : Program} {w : World} {t : TypeId} (dp : Nat) {ps rs : Array TypeId} {v : Bool} {g : Fn} {fr bs : Array Value} (ht : P.underlying t = some (.func ps rs v)) :
    (Op.equalIn (dp + 1) t (.func g fr bs) .nilFunc).run P w = .ok false w := by
  simp [Op.equalIn, run_underlying ht]
theorem ne_nil {g : Fn} {fr bs : Array Value} {w : World} {K : Bool → Prop} (hK : K false) : RunRo .b Try.prog (binSem .eql 45 (.tmp 71) (.const (.nilFunc)) (.func g fr bs) (.nilFunc)) w K := by
  refine ⟨false, fun w' _ => ?_, hK⟩
  have h : (Op.equal 45 (.func g fr bs) .nilFunc).run Try.prog w' = .ok false w' := equalIn_func_nil 9999 und45
  unfold binSem
  simp [eqGuard, binOp, h, Kd.inj]
/-- Bytes of a constant string. -/
theorem conv_const (h : Hp S w0 w its) {C : List Int} {n : Nat} (hn : C.length = n) {cs : List Value} (hcs : cs = C.flatMap u8v) {K : Sl → World → Prop} (hK : ∀ b w', Hp S w0 w' (its ++ [tRd ⟨some ⟨b, 0, none⟩, n, n⟩ 1 u8v C]) → K ⟨some ⟨b, 0, none⟩, n, n⟩ w') :
    Nw (.cells cs.toArray 5) w fun b w => Run .sl Try.prog (convert 22 22 (.slice (some b) n n)) w K := by
  subst hcs
  refine ⟨⟨some ⟨w.heap.size, 0, none⟩, n, n⟩, w.alloc (.cells (C.flatMap u8v).toArray 5 ((C.flatMap u8v).toArray.size, (C.flatMap u8v).toArray.size + 1)), Lib.run_convert_bytes_const w 22 5 (C.flatMap u8v).toArray n n und22 und5, hK w.heap.size _ ?_⟩
  generalize ho : (Obj.cells (C.flatMap u8v).toArray 5 ((C.flatMap u8v).toArray.size, (C.flatMap u8v).toArray.size + 1)) = o
  have hh : (w.alloc o).heap[w.heap.size]? = some o := by show (w.heap.push _)[_]? = _; simp
  have hsz : w.heap.size < (w.alloc o).heap.size := by show _ < (w.heap.push _).size; simp
  refine h.grow (Fr.alloc w o) (t := tRd ⟨some ⟨w.heap.size, 0, none⟩, n, n⟩ 1 u8v C) (O := [w.heap.size]) ?_ (by simp) rfl
  refine ⟨hn, .inr ⟨⟨w.heap.size, 0, none⟩, rfl, rfl, hsz, fun j u hj => ?_⟩⟩
  rw [Addr.add_none]
  subst ho
  simp only [World.cell?, hh, Nat.zero_add]
  simpa using hj

theorem str_eq {l : List Int} {b : ByteArray} (h : Bytes l) (hb : strL b = l) : ((strOf l).toList == b.toList) = true := by
  rw [str_beq, strL_of h, hb]; simp

theorem byte_list {l : List Int} (h : (l.all fun x => decide (0 ≤ x ∧ x < 256)) = true) : Bytes l := by
  intro x hx
  have := List.all_eq_true.1 h x hx
  simpa using this

/-- Walk's memory: the captured slice and its bytes. -/
def tWalk (bo : Nat) (all : Sl) (bs : List Int) (O : List Nat) : Thing :=
  { holds := fun w O' => O' = bo :: O ∧ WalkQ bo all bs O w
    fr := fun {S w w' O'} h hf hn => ⟨h.1, h.2.1.fr hf (hn bo (by rw [h.1]; simp)), h.2.2.fr hf (fun k hk => hn k (by rw [h.1]; simp [hk]))⟩
    lt := fun {w O'} h k hk => by
      rw [h.1] at hk
      rcases List.mem_cons.1 hk with rfl | hk
      · exact h.2.1.lt
      · exact h.2.2.lt k hk }

theorem Walk_spec (h : Hp S w0 w its) (j : Nat) {u : Thing} {b : Sl} {bs : List Int} (hj : its[j]? = some u) (hu : Hp.Reads u b 1 u8v bs) (hl : bs.length ≤ 140737488355328) {K : Value → World → Prop}
    (hK : ∀ bo all O w', all.len ≤ all.cap → Hp S w0 w' (its ++ [tWalk bo all bs O]) → K (.func (.func 33) #[] #[.pointer (some ⟨bo, 0, none⟩)]) w') : c21 b w K := by
  refine c21_of ?_
  unfold f21
  have hjl := (List.getElem?_eq_some_iff.1 hj).1
  refine Clone_spec h j hj hu hl fun all w1 h => ?_
  have hcap := h.cap its.length (s := all) (e := 5) (n := 1) (f := u8v) (l := bs) (by simp)
  refine h.nw (c := [.slice none 0 0]) fun bo w1 h => ?_
  refine h.st0 (its.length + 1) (b := bo) (e := 22) (c := [.slice none 0 0]) (v := .slice all.a all.len all.cap) (by rw [List.getElem?_append_right (by simp)]; simp) (by simp) (by simp [Value.oneCell']) fun w1 h => ?_
  have e1 : (its ++ [tB all bs] ++ [tBlk bo 22 [.slice none 0 0]]).set (its.length + 1) (tBlk bo 22 ([Value.slice none 0 0].set 0 (.slice all.a all.len all.cap))) = its ++ [tB all bs, tBlk bo 22 (slv all)] := by
    rw [List.append_assoc, List.set_append_right _ _ (by omega)]; simp [slv]
  rw [e1] at h
  have h := h.join (i := its.length + 1) (j := its.length) (by omega) (a := tBlk bo 22 (slv all)) (b := tB all bs) (c := tEx fun O => tWalk bo all bs O) (by rw [List.getElem?_append_right (by omega)]; simp) (by rw [List.getElem?_append_right (by omega)]; simp) rfl rfl rfl
    (fun w O1 O2 g1 g2 g3 => ⟨O2, by rw [g1.2]; rfl, g1.1, SlF.toR g2⟩)
  have e2 : ((its ++ [tB all bs, tBlk bo 22 (slv all)]).set (its.length + 1) (tEx fun O => tWalk bo all bs O)).set its.length tEmp = its ++ [tEmp] ++ [tEx fun O => tWalk bo all bs O] := by
    rw [List.set_append_right _ _ (by omega), List.set_append_right _ _ (by omega)]; simp
  rw [e2] at h
  have h := h.dropMid
  obtain ⟨O, h⟩ := h.openEx (i := its.length) (f := fun O => tWalk bo all bs O) (by simp) (fun _ => rfl)
  rw [List.set_append_right _ _ (by omega), Nat.sub_self] at h
  exact hK bo all O _ hcap h

theorem recs_made {d : List Int} (h : okD d) (hb : Bytes d) (rest : List Int) (hr : Bytes rest) : recs (madeU d ++ rest) = d :: recs rest := by
  have hg := getR_made h rest
  have hp := madeU_pos d
  have hbr : Bytes (madeU d ++ rest) := fun x hx => (List.mem_append.1 hx).elim (madeU_bytes hb x) (hr x)
  rw [recs_step hbr (by rw [hg]; show ((madeU d).length : Int) ≠ 0; omega), hg]
  congr 2
  simp
theorem recs_nil : recs [] = [] := recs_zero (by decide)

set_option maxHeartbeats 4000000 in
theorem shown_spec {K : Bool → World → Prop} (hK : ∀ w', Fr [] w w' → K true w') : c8 w K := by
  refine c8_of ?_
  unfold f8
  have h := Hp.begin_ w
  refine h.nw (c := [_]) fun a w1 h => ?_
  simp only [List.cons_append, List.nil_append] at h
  refine conv_const h (C := [120]) (n := 1) (cs := [_]) rfl rfl fun b w1 h => ?_
  simp only [List.cons_append, List.nil_append] at h
  refine conv_const h (C := [97, 98]) (n := 2) (cs := [_, _]) rfl rfl fun b2 w1 h => ?_
  simp only [List.cons_append, List.nil_append] at h
  have hok : okD [97, 98] := ⟨by decide, by decide⟩
  have hbab : Bytes [97, 98] := byte_list (by decide)
  refine RecPut_spec h 1 2 (bs := [120]) (d := [97, 98]) rfl rfl Hp.rdRd Hp.rdRd hbab (by simp) (by simp) (fun _ b3 w1 h => ?_) (fun h => absurd hok h)
  simp only [List.cons_append, List.nil_append] at h
  obtain ⟨x0, x1, x2, x3, hm⟩ : ∃ x0 x1 x2 x3, madeU [97, 98] = [130, 2, x0, x1, x2, x3, 97, 98] := ⟨_, _, _, _, by unfold madeU headU sumB; rw [show putU (([97, 98] : List Int).length : Int) = [2] by decide]; rfl⟩
  rw [hm] at h
  have hbm : Bytes [130, 2, x0, x1, x2, x3, 97, 98] := hm ▸ madeU_bytes hbab
  have hb3 := h.len (s := b3) 3 rfl
  have hc3 := h.cap (s := b3) 3 rfl
  have hb3' := hb3
  simp only [List.length_cons, List.length_append, List.length_nil] at hb3
  refine ⟨fun w' => w' = w1, ?_, ?_⟩
  · refine ifF (by simp) ?_
    refine ifF (by simp; omega) ?_
    refine h.ixld (k := .i .u8) (s := b3) (y := 120) (x := 120) 3 rfl (by omega) rfl u8v_len rfl ?_
    refine ifF (by simp) ?_
    refine h.ixld (k := .i .u8) (s := b3) (y := 130) (x := 130) 3 rfl (by omega) rfl u8v_len rfl ?_
    refine ifF (by simp) ?_
    refine h.ixld (k := .i .u8) (s := b3) (y := 2) (x := 2) 3 rfl (by omega) rfl u8v_len rfl ?_
    refine ifF (by simp) ?_
    refine h.ixld (k := .i .u8) (s := b3) (y := 97) (x := 97) 3 rfl (by omega) rfl u8v_len rfl ?_
    refine ifF (by simp) ?_
    refine h.ixld (k := .i .u8) (s := b3) (y := 98) (x := 98) 3 rfl (by omega) rfl u8v_len rfl ?_
    exact ifF (by simp) rfl
  rintro _ rfl
  have rest : ((120 :: 130 :: 2 :: x0 :: x1 :: x2 :: x3 :: 97 :: 98 :: ([] : List Int)).take ((b3.len : Int)).toNat).drop (1 : Int).toNat = madeU [97, 98] := by
    rw [List.take_of_length_le (by simp; omega), hm]; rfl
  have hrd : Hp.Reads (tB b3 [120, 130, 2, x0, x1, x2, x3, 97, 98]) b3 1 u8v [120, 130, 2, x0, x1, x2, x3, 97, 98] := Hp.rdSl
  have hlen : (madeU [97, 98]).length = 8 := by rw [hm]; rfl
  have hbm' : Bytes (madeU [97, 98]) := hm ▸ hbm
  have hgr : getR (madeU [97, 98]) = ([97, 98], 8) := by
    have := getR_made hok []
    rw [List.append_nil] at this
    rw [this, hlen]; rfl
  have hrecs : recs (madeU [97, 98]) = [[97, 98]] := by
    have := recs_made hok hbab [] (by intro x hx; cases hx)
    rwa [List.append_nil, recs_nil] at this
  refine Hp.cutv (s := b3) hrd hb3' u8v_len (by omega) (by omega) (by omega) (Int.le_refl _) (by omega) fun s hs hsl hsc => ?_
  rw [rest] at hs
  refine RecGet_spec h 3 rfl hs hbm' (by omega) (by omega) fun d w2 h => ?_
  rw [hgr] at h ⊢
  simp only [List.cons_append, List.nil_append] at h
  refine Hp.cutv (s := b3) hrd hb3' u8v_len (by omega) (by omega) (by omega) (Int.le_refl _) (by omega) fun s2 hs2 hsl2 hsc2 => ?_
  rw [rest] at hs2
  refine Scan_spec h 3 rfl hs2 hbm' (by omega) (by omega) fun l kL w3 hkl h => ?_
  have htot : tot (recs (madeU [97, 98])) = 8 := by rw [hrecs]; simp [tot, hlen]
  rw [htot]
  simp only [List.cons_append, List.nil_append] at h
  have hll := h.len (s := l) 5 rfl
  rw [List.length_map, ← List.length_map (f := fun x => x.2), hkl, hrecs] at hll
  refine h.nw (c := [_]) fun count w4 h => ?_
  simp only [List.cons_append, List.nil_append] at h
  refine h.st0 7 (b := count) rfl (by simp) rfl fun w5 h => ?_
  simp only [List.cons_append, List.nil_append, List.set_cons_zero, List.set_cons_succ] at h
  refine Hp.cutv (s := b3) hrd hb3' u8v_len (by omega) (by omega) (by omega) (Int.le_refl _) (by omega) fun s3 hs3 hsl3 hsc3 => ?_
  rw [rest] at hs3
  refine Walk_spec h 3 rfl hs3 (by omega) fun bo all O w6 hcap h => ?_
  simp only [List.cons_append, List.nil_append] at h
  refine ne_nil ?_
  refine ifF (by simp) ?_
  have h := h.sel4 0 4 7 8 (by decide) rfl rfl rfl rfl
  obtain ⟨O6, hO6⟩ := h.see (i := 3) rfl
  have hlt6 := (tWalk bo all (madeU [97, 98]) O).lt hO6
  rw [hO6.1] at hlt6
  refine ⟨Int × Sl, 33, #[.pointer (some ⟨bo, 0, none⟩)], wkE, WalkQ bo all (madeU [97, 98]) O, WalkG (madeU [97, 98]), (fun xs => xs.length = (recs (madeU [97, 98])).length), (fun _ => True),
    (fun pre W => Hp [] w W [tBlk a 4 [.bool false], tB d [97, 98], tBlk count 3 [.int .i64 (pre.length : Nat)], tWalk bo all (madeU [97, 98]) O, tAny w6.heap.size, tAny (w6.heap.size + 1)]), (fun _ _ _ => False), rfl, ⟨_, Try.func33, rfl⟩, ?_, ?_, ?_, ?_, ?_, ?_, ?_⟩
  · intro W W' hq ht
    refine ⟨hq.1.fr ht.fr ?_, hq.2.fr ht.fr (fun k hk => ?_)⟩
    · have := hlt6 bo (by simp); simp only [List.mem_singleton]; omega
    · have := hlt6 k (by simp [hk]); simp only [List.mem_singleton]; omega
  · intro W hg hsz
    have h := h.enter hg hsz
    simp only [List.cons_append, List.nil_append] at h
    obtain ⟨O', hO'⟩ := h.see (i := 3) rfl
    exact ⟨walk_seq hbm' (by omega) hcap hO'.2, h⟩
  · intro pre W W' h ht
    exact h.anyStep 5 rfl ht
  · intro c pre W W' h ht
    exact h
  · intro x
    refine ⟨rfl, ?_⟩
    show viewL [.i .i64, .sl] [.int .i64 x.1, .slice x.2.a x.2.len x.2.cap] _ _
    simp only [viewL]
    intro w2
    refine ⟨trivial, trivial, fun pre W0 W1 W h hg hG ht => ?_⟩
    obtain ⟨dd, hr, hx1, Ox, hx, hOx⟩ := hG
    rw [hrecs] at hr hx1
    obtain ⟨hp0, rfl⟩ : pre = [] ∧ dd = [97, 98] := by
      cases pre with
      | nil => exact ⟨rfl, by simpa using hr.symm⟩
      | cons y l => simp at hr
    subst hp0
    have hx1 : x.1 = 0 := by simpa [tot] using hx1
    have h := h.grow hg.fr (t := tB x.2 [97, 98]) hx hOx rfl
    simp only [List.cons_append, List.nil_append] at h
    have h := h.anyStep 5 rfl ht
    obtain ⟨o4, ho4, h⟩ := h.pin (l := w6.heap.size) 4 rfl
    obtain ⟨o5, ho5, h⟩ := h.pin (l := w6.heap.size + 1) 5 rfl
    have h := h.min
    simp only [List.cons_append, List.nil_append, List.set_cons_zero, List.set_cons_succ] at h
    refine ⟨fun w' => w' = W, ?_, ?_⟩
    · refine ifF (by simp [hx1]) ?_
      refine h.rdb 6 rfl Hp.rdSl _ (strL_of hbab) ?_
      exact ifF (by rw [str_eq hbab (by decide)]; decide) rfl
    rintro _ rfl
    refine h.ld0 2 (k := .i .i64) rfl rfl ?_
    refine h.st0 2 rfl (by simp) rfl fun w7 h => ?_
    simp only [List.set_cons_zero, List.set_cons_succ] at h
    have hsz := h.size 7 rfl
    obtain ⟨e4, h⟩ := h.unpin 4 rfl
    simp only [List.set_cons_zero, List.set_cons_succ] at h
    obtain ⟨e5, h⟩ := h.unpin 5 rfl
    simp only [List.set_cons_zero, List.set_cons_succ] at h
    have h := h.trim 6
    obtain ⟨O3, hO3⟩ := h.see (i := 3) rfl
    refine ⟨h, hO3.2, hsz, fun k hk => ?_⟩
    rcases List.mem_cons.1 hk with rfl | hk
    · rw [e4, ho4]
    · simp only [List.mem_singleton] at hk; subst hk; rw [e5, ho5]
  · intro xs W0 W1 W hS h hg ht hD
    rw [hrecs] at hS
    have hS : xs.length = 1 := hS
    rw [hS] at h
    have h := (h.keep hg.fr).anyStep 5 rfl ht
    have h := h.pinAs 4 rfl hD
    simp only [List.set_cons_zero, List.set_cons_succ] at h
    refine h.rdb 1 rfl Hp.rdSl _ (strL_of hbab) ?_
    refine ifT (str_eq hbab (by decide)) ?_
    refine ifT rfl ?_
    refine ifT (by simp; omega) ?_
    refine ifT rfl ?_
    refine h.ld0 2 (k := .i .i64) rfl rfl ?_
    refine h.st0 0 rfl (by simp) rfl fun w7 h => ?_
    simp only [List.set_cons_zero, List.set_cons_succ] at h
    refine h.endM 4 rfl fun w8 h => ?_
    simp only [List.set_cons_zero, List.set_cons_succ] at h
    refine h.ld0 0 (k := .b) rfl rfl ?_
    exact hK _ h.fr
  · intro c pre W0 W1 W _ h
    exact h.elim
end
end Go.Proofs.Ytmbbfaigbhnhcaa.F
