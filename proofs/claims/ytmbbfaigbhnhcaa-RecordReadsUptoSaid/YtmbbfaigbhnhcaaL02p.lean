/-
  The walk of RecordPuts.
-/
import Derived.Test.YtmbbfaigbhnhcaaC02k
import Derived.Test.YtmbbfaigbhnhcaaL02k
set_option linter.unusedSimpArgs false
set_option linter.unusedVariables false
set_option maxRecDepth 100000
namespace Go.Proofs.Ytmbbfaigbhnhcaa.F
open Go Go.Den Go.Proofs

/-- What Put hands out. -/
def res (B d : List Int) : List Int := if goodB d = true then B ++ madeU d else []
def cod (d : List Int) : Int := if goodB d = true then 0 else 1
theorem res_len (B d : List Int) : (res B d).length ≤ B.length + 15 + d.length := by
  unfold res; split
  · have := madeU_le d; rw [List.length_append]; omega
  · simp
theorem res_bytes {B d : List Int} (h : Bytes B) (h' : Bytes d) : Bytes (res B d) := by
  unfold res; split
  · exact bytes_app h (madeU_bytes h')
  · exact bytes_nil

section
variable {S : List Nat} {w0 w : World} {its : List Thing}

theorem Put_res (h : Hp S w0 w its) (i j : Nat) {u v : Thing} {b data : Sl} {bs d : List Int} (hi : its[i]? = some u) (hj : its[j]? = some v) (hu : Hp.Reads u b 1 u8v bs) (hv : Hp.Reads v data 1 u8v d) (hd : Bytes d) (hlb : bs.length ≤ 70000000000000) (hld : d.length ≤ 70000000000000) {K : Sl → Int → World → Prop}
    (hK : ∀ s w', Hp S w0 w' (its ++ [tB s (res bs d)]) → K s (cod d) w') : c10 b data w K := by
  refine RecPut_spec h i j hi hj hu hv hd hlb hld (fun ok s w' h => ?_) (fun no => ?_)
  · have e := goodB_iff.2 ok
    have := hK s w' (by unfold res; rw [if_pos e]; exact h)
    unfold cod at this; rwa [if_pos e] at this
  · have e : ¬ goodB d = true := fun e => no (goodB_iff.1 e)
    have := hK nilS w (by unfold res; rw [if_neg e]; exact h.nil 5 1 u8v)
    unfold cod at this; rwa [if_neg e] at this
theorem RPut_res (h : Hp S w0 w its) (i j : Nat) {u v : Thing} {b data : Sl} {bs d : List Int} (hi : its[i]? = some u) (hj : its[j]? = some v) (hu : Hp.Reads u b 1 u8v bs) (hv : Hp.Reads v data 1 u8v d) (hd : Bytes d) (hlb : bs.length ≤ 70000000000000) (hld : d.length ≤ 70000000000000) {K : Sl → Int → World → Prop}
    (hK : ∀ s w', Hp S w0 w' (its ++ [tB s (res bs d)]) → K s (cod d) w') : c11 b data w K := by
  refine RRecPut_spec h i j hi hj hu hv hd hlb hld (fun ok s w' h => ?_) (fun no => ?_)
  · have e := goodB_iff.2 ok
    have := hK s w' (by unfold res; rw [if_pos e]; exact h)
    unfold cod at this; rwa [if_pos e] at this
  · have e : ¬ goodB d = true := fun e => no (goodB_iff.1 e)
    have := hK nilS w (by unfold res; rw [if_neg e]; exact h.nil 5 1 u8v)
    unfold cod at this; rwa [if_neg e] at this

theorem pre8 (l : List Int) {n : Nat} (h : n = l.length) : ((lent8 l).take ((n : Int)).toNat).drop (0 : Int).toNat = l := by
  subst h
  show List.take _ _ = _
  rw [Int.toNat_natCast, lent8, List.take_left]
theorem pre77 {n m : Nat} (h : n = m) : ((List.replicate (m + 8) (77 : Int)).take ((n : Int)).toNat).drop (0 : Int).toNat = List.replicate m 77 := by
  subst h
  show List.take _ _ = _
  rw [Int.toNat_natCast, List.take_replicate]; congr 1; omega

set_option maxHeartbeats 8000000 in
theorem puts_spec {b data : Sl} {bs d : List Int} {o1 o2 : List Nat} {K : Bool → World → Prop} (hs1 : SlR w b 1 u8v bs o1) (hs2 : SlR w data 1 u8v d o2) (hb : Bytes bs) (hd : Bytes d) (hbl : bs.length ≤ 1048576) (hdl : d.length ≤ 1048576) (hK : ∀ w', Fr [] w w' → K true w') : f3 b data w K := by
  unfold f3
  refine shown_spec fun w1 fr1 => ?_
  have h := (Hp.begin_ w).keep fr1
  have h := h.addRo (t := tRd b 1 u8v bs) hs1 (by simp)
  have h := h.addRo (t := tRd data 1 u8v d) hs2 (by simp)
  simp only [List.cons_append, List.nil_append] at h
  have hbl' := hs1.len
  have hdl' := hs2.len
  have hu : Hp.Reads (tRd b 1 u8v bs).ro b 1 u8v bs := ⟨Hp.rdRd.rd⟩
  have hv : Hp.Reads (tRd data 1 u8v d).ro data 1 u8v d := ⟨Hp.rdRd.rd⟩
  have r1 := res_len bs d
  have r2 := res_len d bs
  have rb1 := res_bytes hb hd
  have rb2 := res_bytes hd hb
  refine lent_spec h 0 rfl hu (by omega) fun x w2 h hxl hxc => ?_
  simp only [List.cons_append, List.nil_append] at h
  refine lent_spec h 1 rfl hv (by omega) fun y w3 h hyl hyc => ?_
  simp only [List.cons_append, List.nil_append] at h
  have rdx : Hp.Reads (tB x (lent8 bs)) x 1 u8v (lent8 bs) := Hp.rdSl
  have rdy : Hp.Reads (tB y (lent8 d)) y 1 u8v (lent8 d) := Hp.rdSl
  have cutx : ∀ {K : Sl → Prop}, (∀ s', Hp.Reads (tB x (lent8 bs)) s' 1 u8v bs → K s') → Cut x 0 (b.len : Int) (x.cap : Int) 1 K := fun {K} hk =>
    Hp.cutv (s := x) rdx (by rw [lent8_len]; omega) u8v_len (Int.le_refl 0) (by omega) (by omega) (Int.le_refl _) (by omega) fun s' hs' _ _ => hk s' (by rw [pre8 bs (by omega)] at hs'; exact hs')
  have cuty : ∀ {K : Sl → Prop}, (∀ s', Hp.Reads (tB y (lent8 d)) s' 1 u8v d → K s') → Cut y 0 (data.len : Int) (y.cap : Int) 1 K := fun {K} hk =>
    Hp.cutv (s := y) rdy (by rw [lent8_len]; omega) u8v_len (Int.le_refl 0) (by omega) (by omega) (Int.le_refl _) (by omega) fun s' hs' _ _ => hk s' (by rw [pre8 d (by omega)] at hs'; exact hs')
  refine h.dr fun w4 h => ?_
  refine cutx fun s hs => ?_
  refine cuty fun s2 hs2 => ?_
  refine Put_res h 2 3 rfl rfl hs hs2 hd (by omega) (by omega) fun one w5 h => ?_
  simp only [List.cons_append, List.nil_append] at h
  refine h.dr fun w6 h => ?_
  refine cuty fun s3 hs3 => ?_
  refine cutx fun s4 hs4 => ?_
  refine Put_res h 3 2 rfl rfl hs3 hs4 hb (by omega) (by omega) fun round w7 h => ?_
  simp only [List.cons_append, List.nil_append] at h
  refine h.dr fun w8 h => ?_
  refine cutx fun s5 hs5 => ?_
  refine cuty fun s6 hs6 => ?_
  refine Put_res h 2 3 rfl rfl hs5 hs6 hd (by omega) (by omega) fun two w9 h => ?_
  simp only [List.cons_append, List.nil_append] at h
  refine RPut_res h 0 1 rfl rfl hu hv hd (by omega) (by omega) fun want w10 h => ?_
  simp only [List.cons_append, List.nil_append] at h
  refine RPut_res h 1 0 rfl rfl hv hu hb (by omega) (by omega) fun other w11 h => ?_
  simp only [List.cons_append, List.nil_append] at h
  refine ⟨fun w' => w' = w11, ?_, ?_⟩
  · refine ifF (by simp) ?_
    refine ifF (by simp) ?_
    refine ifF (by simp) ?_
    refine ifF (by simp) ?_
    refine h.rdb 4 rfl Hp.rdSl _ (strL_of rb1) ?_
    refine h.rdb 7 rfl Hp.rdSl _ (strL_of rb1) ?_
    refine ifF (by simp) ?_
    refine h.rdb 6 rfl Hp.rdSl _ (strL_of rb1) ?_
    refine h.rdb 7 rfl Hp.rdSl _ (strL_of rb1) ?_
    refine ifF (by simp) ?_
    refine h.rdb 5 rfl Hp.rdSl _ (strL_of rb2) ?_
    refine h.rdb 8 rfl Hp.rdSl _ (strL_of rb2) ?_
    exact ifF (by simp) rfl
  rintro _ rfl
  refine still_spec h 2 0 (by decide) rfl rfl hu (by omega) fun w12 h => ?_
  simp only [List.set_cons_zero, List.set_cons_succ] at h
  refine still_spec h 3 1 (by decide) rfl rfl hv (by omega) fun w13 h => ?_
  simp only [List.set_cons_zero, List.set_cons_succ] at h
  have rdx7 : Hp.Reads (tB x (List.replicate (bs.length + 8) 77)) x 1 u8v (List.replicate (bs.length + 8) 77) := Hp.rdSl
  have rdy7 : Hp.Reads (tB y (List.replicate (d.length + 8) 77)) y 1 u8v (List.replicate (d.length + 8) 77) := Hp.rdSl
  refine h.dr fun w14 h => ?_
  refine Hp.cutv (s := x) rdx7 (by simp; omega) u8v_len (Int.le_refl 0) (by omega) (by omega) (Int.le_refl _) (by omega) fun s7 hs7 _ _ => ?_
  rw [pre77 (n := b.len) (m := bs.length) (by omega)] at hs7
  refine Hp.cutv (s := y) rdy7 (by simp; omega) u8v_len (Int.le_refl 0) (by omega) (by omega) (Int.le_refl _) (by omega) fun s8 hs8 _ _ => ?_
  rw [pre77 (n := data.len) (m := d.length) (by omega)] at hs8
  have b77 : ∀ n, Bytes (List.replicate n 77) := fun n z hz => by obtain ⟨_, rfl⟩ := List.mem_replicate.1 hz; omega
  have r3 := res_len (List.replicate bs.length 77) (List.replicate d.length 77)
  have rb3 := res_bytes (b77 bs.length) (b77 d.length)
  rw [List.length_replicate, List.length_replicate] at r3
  refine Put_res h 2 3 rfl rfl hs7 hs8 (b77 _) (by simp; omega) (by simp; omega) fun again w15 h => ?_
  simp only [List.cons_append, List.nil_append] at h
  rw [show (b.len : Int) = ((bs.length : Nat) : Int) by omega, show (data.len : Int) = ((d.length : Nat) : Int) by omega]
  refine sevens_spec h (by omega) fun r w16 h => ?_
  simp only [List.cons_append, List.nil_append] at h
  refine sevens_spec h (by omega) fun r' w17 h => ?_
  simp only [List.cons_append, List.nil_append] at h
  refine RPut_res h 10 11 rfl rfl Hp.rdSl Hp.rdSl (b77 _) (by simp; omega) (by simp; omega) fun sev w18 h => ?_
  simp only [List.cons_append, List.nil_append] at h
  refine ⟨fun w' => w' = w18, ?_, ?_⟩
  · refine ifF (by simp) ?_
    refine ifF (by simp) ?_
    refine ifF (by simp) ?_
    refine h.rdb 9 rfl Hp.rdSl _ (strL_of rb3) ?_
    refine h.rdb 12 rfl Hp.rdSl _ (strL_of rb3) ?_
    exact ifF (by simp) rfl
  rintro _ rfl
  generalize hres3 : res (List.replicate bs.length 77) (List.replicate d.length 77) = R3 at h r3
  have h := h.nil 52 2 owv
  have h := h.grow (Fr.refl _ _) (t := tBag []) (O := []) ⟨by simp, by simp⟩ (by simp) rfl
  simp only [List.cons_append, List.nil_append] at h
  refine keep_spec h (i := 13) (j := 14) (k := 4) (l := nilS) (b := one) (es := []) (by decide) rfl rfl rfl (by simp) (by omega) fun l1 es1 w19 he1 h => ?_
  simp only [List.set_cons_zero, List.set_cons_succ, List.length_nil] at h he1
  refine ⟨fun apart w' => apart = true ∧ w' = w19, ?_, ?_⟩
  · refine h.rdb 6 rfl Hp.rdSl _ (strL_of rb1) ?_
    refine h.rdb 7 rfl Hp.rdSl _ (strL_of rb1) ?_
    refine ifT (by simp) ?_
    refine h.rdb 5 rfl Hp.rdSl _ (strL_of rb2) ?_
    refine h.rdb 8 rfl Hp.rdSl _ (strL_of rb2) ?_
    exact ⟨by simp, rfl⟩
  rintro apart _ ⟨rfl, rfl⟩
  refine keep_spec h (i := 13) (j := 14) (k := 6) (by decide) rfl rfl rfl (by omega) (by omega) fun l2 es2 w20 he2 h => ?_
  simp only [List.set_cons_zero, List.set_cons_succ] at h
  refine keep_spec h (i := 13) (j := 14) (k := 5) (by decide) rfl rfl rfl (by omega) (by omega) fun l3 es3 w21 he3 h => ?_
  simp only [List.set_cons_zero, List.set_cons_succ] at h
  refine keep_spec h (i := 13) (j := 14) (k := 9) (by decide) rfl rfl rfl (by omega) (by omega) fun l4 es4 w22 he4 h => ?_
  simp only [List.set_cons_zero, List.set_cons_succ] at h
  refine looks_spec h 13 14 rfl rfl (by omega) fun w23 h => ?_
  exact hK _ h.fr
end
end Go.Proofs.Ytmbbfaigbhnhcaa.F
