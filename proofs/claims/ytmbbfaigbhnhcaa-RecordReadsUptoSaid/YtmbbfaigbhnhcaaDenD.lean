/-
  A denotation of the model's code as one formula for each function. Part D: operations that read, operations that write, and their soundness.
-/
import Derived.Test.YtmbbfaigbhnhcaaDenC
import Derived.Laws.BytesArg
set_option linter.unusedSimpArgs false
set_option linter.unusedVariables false
namespace Go.Den

def retShapes (P : Program) (ty : TypeId) : List Sh :=
  match P.underlying ty with
  | some (.tuple es) => es.toList.map (shapeOf P)
  | _ => [shapeOf P ty]

/-- Whatever runs and leaves the world alone, with several results. -/
def RunRoL (shs : List Sh) (P : Program) (sem : Sem Value) (w : World) (R : Fn (kdsOf shs) (World → Prop)) : Prop :=
  ∃ v, (∀ w', Ext w w' → sem.run P w' = .ok v w') ∧ viewRet shs v R w

def fieldOff (P : Program) (s : TypeId) (f : Nat) : Option Nat :=
  match P.underlying s with
  | some (.struct fs) => match fs[f]? with
    | some fd => cond (Nat.beq (P.cellsOf fd.type) 0) none (some fd.offset)
    | none => none
  | _ => none

def dLoad (P : Program) (t : TypeId) (w : World) (a : Addr) (K : Value → Prop) : Prop :=
  match P.underlying t with
  | some d => cond (isAggD d)
      (cond (Nat.beq (P.cellsOf t) (cellKds P 16 t).length) (LdL w a (cellKds P 16 t) 0 fun vs => K (.agg vs.toArray)) False)
      (Ld (cellKd d) w a fun x => K ((cellKd d).inj x))
  | none => False

def intOp (v : Option Operand) (ρ : Operand → Option Value) (d : Int) (K : Int → Prop) : Prop :=
  match v with
  | none => K d
  | some x => match ρ x with
    | some (.int _ n) => K n
    | _ => False

/-- Operands of these types look at no memory. -/
def isPlainT (P : Program) (t : TypeId) : Bool :=
  match P.underlying t with
  | some (.int _) => true
  | some .bool => true
  | some .string => true
  | _ => false

def isIfaceT (P : Program) (t : TypeId) : Bool :=
  match P.underlying t with
  | some (.interface _) => true
  | some (.func _ _ _) => true
  | some (.struct _) => true
  | some (.array _ _) => true
  | _ => false

def mapLen (P : Program) (c : Call) : Bool :=
  match c.callee, c.argTypes.toList with
  | .builtin .len, [t] => match P.underlying t with
    | some (.map _ _) => true
    | _ => false
  | _, _ => false

/-- Is it the making of a string of bytes? -/
def bytesStr (P : Program) (src dst : TypeId) : Bool :=
  match P.underlying src, P.underlying dst with
  | some (.slice e), some .string => (match P.underlying e with
    | some (.int .u8) => true
    | _ => false)
  | _, _ => false

def dRo (P : Program) (op : Op) (ty : TypeId) (ρ : Operand → Option Value) (ρ' : Nat → Bool → Operand → Option Value) (w : World) (K : Value → Prop) : Prop :=
  match op with
  | .nilCheck x =>
    match ρ x with
    | some (.pointer p) => NN p fun a => K (.pointer (some a))
    | some (.func (.func f) fs cs) => K (.func (.func f) fs cs)
    | _ => False
  | .fieldAddr s x f =>
    match fieldOff P s f, ρ x with
    | some off, some (.pointer p) => NN p fun a => K (.pointer (some (a.add off)))
    | _, _ => False
  | .load t x =>
    match ρ x with
    | some (.pointer p) => NN p fun a => dLoad P t w a K
    | _ => False
  | .indexAddr t x ix =>
    match P.underlying t, ρ x, ρ ix with
    | some (.slice el), some (.slice s len _), some (.int _ i) => match P.info? el with
      | some inf => Ix s len i inf.size fun a => K (.pointer (some a))
      | none => False
    | some (.array len el), some (.pointer p), some (.int _ i) => match P.info? el with
      | some inf => NN p fun a => IxA a len i inf.size fun a => K (.pointer (some a))
      | none => False
    | _, _, _ => False
  | .index t x ix =>
    match P.underlying t, ρ x, ρ ix with
    | some .string, some (.string s), some (.int _ i) => IxS s i fun b => K (.int .u8 b)
    | _, _, _ => False
  | .slice t x lo hi mx =>
    match P.underlying t, ρ x with
    | some (.slice el), some (.slice a len cap) => match P.info? el with
      | some inf => cond (mx.isSome && hi.isNone) False
          (intOp mx ρ cap fun m => intOp hi ρ len fun h => intOp lo ρ 0 fun l =>
            Cut ⟨a, len, cap⟩ l h m inf.size fun s => K (.slice s.a s.len s.cap))
      | none => False
    | some (.array n el), some (.pointer p) => match P.info? el with
      | some inf => cond (mx.isSome && hi.isNone) False
          (NN p fun a => intOp mx ρ n fun m => intOp hi ρ n fun h => intOp lo ρ 0 fun l =>
            CutA a n l h m inf.size fun s => K (.slice s.a s.len s.cap))
      | none => False
    | some .string, some (.string s) => cond mx.isSome False
        (intOp hi ρ s.size fun h => intOp lo ρ 0 fun l => CutS s l h fun r => K (.string r))
    | _, _ => False
  | .binOp o t x y _ =>
    match ρ x, ρ y with
    | some a, some b => cond (isIfaceT P t) (RunRo .b P (binSem o t x y a b) w fun r => K (.bool r))
        (match pureBin P o t (isConst y) a b with
        | some v => K v
        | none => cond (isPlainT P t) (dBinP o a b K) (RunRo .b P (binSem o t x y a b) w fun r => K (.bool r)))
    | _, _ => False
  | .build t parts =>
    match P.underlying t, P.info? t, mapO ρ (parts.toList.map (·.2)) with
    | some (.struct fs), some inf, some vs => match inf.zero with
      | some z => cond (fs.toList.all fun f => (P.info? f.type).isSome)
          (dFill P (fs.toList.map fun f => (f.offset, P.cellsOf f.type, f.type)) z.cells.toList ((parts.toList.map (·.1)).zip vs) fun cs => K (.agg cs.toArray)) False
      | none => False
    | some (.array n el), some inf, some vs => match inf.zero with
      | some z => cond (P.info? el).isNone False <| dFill P ((List.range n).map fun i => (i * P.cellsOf el, P.cellsOf el, el)) z.cells.toList ((parts.toList.map (·.1)).zip vs) fun cs => K (.agg cs.toArray)
      | none => False
    | _, _, _ => False
  | .lookup t x ix ok =>
    match ρ x, ρ ix with
    | some m, some k => RunRoL (retShapes P ty) P (Instr.lookup t m k ok) w (curry _ fun cs _ => K (mkRes (unflat (retShapes P ty) cs)))
    | _, _ => False
  | .typeAssert x xt at' ok =>
    match ρ x with
    | some v => RunRoL (retShapes P ty) P (Instr.typeAssert v xt at' ok) w (curry _ fun cs _ => K (mkRes (unflat (retShapes P ty) cs)))
    | _ => False
  | .call c => cond (mapLen P c)
      (match mapO ρ c.args.toList with
      | some vs => RunRo (.i .i64) P (Builtin.len_ c.argTypes ty vs.toArray) w fun n => K (.int .i64 n)
      | none => False)
      (match pureVal P (.call c) ty ρ ρ' with
      | some v => K v
      | none => False)
  | .convert src dst x => match bytesStr P src dst with
    | true => match ρ x with
      | some (.slice a len cap) => RdB w ⟨a, len, cap⟩ fun b => K (.string b)
      | _ => False
    | false => match pureVal P (.convert src dst x) ty ρ ρ' with
      | some v => K v
      | none => False
  | op => match pureVal P op ty ρ ρ' with
    | some v => K v
    | none => False

def isLoad (P : Program) : Op → Bool
  | .load _ _ => true
  | .convert src dst _ => bytesStr P src dst
  | _ => false

/-- Does it look at no memory? -/
def wl (P : Program) (op : Op) : Bool :=
  match op with
  | .load _ _ | .lookup _ _ _ _ | .typeAssert _ _ _ _ => false
  | .convert src dst _ => !bytesStr P src dst
  | .binOp _ t _ y _ => isPlainT P t
  | .call c => !mapLen P c
  | _ => true

def cellsFrom (a : Addr) : List Value → Nat → List (Addr × Value)
  | [], _ => []
  | v :: vs, i => (a.add i, v) :: cellsFrom a vs (i + 1)

def fpA (P : Program) (t : TypeId) (a : Addr) (v : Value) : List (Addr × Value) :=
  match P.underlying t with
  | some d => cond (isAggD d) (match v with
    | .agg cs => cellsFrom a cs.toList 0
    | _ => []) [(a, v)]
  | none => []

/-- The cells that a load reads. -/
def fpOf (P : Program) (ρ : Operand → Option Value) (op : Op) (v : Value) : List Hold :=
  match op with
  | .load t x => match ρ x with
    | some (.pointer (some a)) => (fpA P t a v).map fun x => .cell x.1 x.2
    | _ => []
  | .convert src dst x => match bytesStr P src dst with
    | true => match ρ x, v with
      | some (.slice a len cap), .string b => [.bytes ⟨a, len, cap⟩ b]
      | _, _ => []
    | false => []
  | _ => []

/-- Does the operation leave the world alone? -/
def dRoOk (P : Program) (op : Op) : Bool :=
  match op with
  | .move _ | .assign _ | .pick _ _ _ | .nilCheck _ | .fieldAddr _ _ _ | .load _ _ | .indexAddr _ _ _ | .index _ _ _ | .slice _ _ _ _ _ | .binOp _ _ _ _ _ | .build _ _ | .typeAssert _ _ _ _
  | .unOp _ _ _ | .extract _ _ | .makeInterface _ _ | .makeFunc _ _ _ | .field _ _ _ => true
  | .convert src dst _ => match P.underlying src, P.underlying dst with
    | some (.int _), some (.int _) => true
    | some .string, some .string => true
    | _, _ => bytesStr P src dst
  | .lookup _ _ _ _ => true
  | .call c => match c.callee with
    | .builtin .len | .builtin .cap | .builtin .min | .builtin .max => true
    | _ => false
  | _ => false

section
variable {P : Program} {e : Operand → Value} {ρ : Operand → Option Value} {ρ' : Nat → Bool → Operand → Option Value} {w : World}

theorem of_NN {p : Option Addr} {K : Addr → Prop} (h : NN p K) : ∃ a, p = some a ∧ K a := by
  cases p with
  | none => exact h.elim
  | some a => exact ⟨a, rfl, h⟩

theorem info_cells {t : TypeId} {i : TypeInfo} (h : P.info? t = some i) : P.cellsOf t = i.size := by simp [Program.cellsOf, h]

theorem of_cellsOf {t : TypeId} {n : Nat} (h : P.cellsOf t = n) (hn : n ≠ 0) : ∃ i, P.info? t = some i ∧ i.size = n := by
  unfold Program.cellsOf at h
  cases hi : P.info? t with
  | none => simp [hi] at h; omega
  | some i => exact ⟨i, rfl, by simpa [hi] using h⟩

theorem info_of_underlying {t : TypeId} {d : TypeDesc} (h : P.underlying t = some d) : ∃ i, P.info? t = some i := by
  unfold Program.underlying at h
  cases hi : P.info? t with
  | none => simp [hi] at h
  | some i => exact ⟨i, rfl⟩

theorem mem_cellsFrom {a : Addr} : ∀ {vs : List Value} {i : Nat} {x : Addr × Value}, x ∈ cellsFrom a vs i → ∃ j v, vs[j]? = some v ∧ x = (a.add (i + j), v)
  | [], i, x, h => by cases h
  | v :: vs, i, x, h => by
    rcases List.mem_cons.1 h with rfl | h
    · exact ⟨0, v, rfl, rfl⟩
    · obtain ⟨j, u, h1, rfl⟩ := mem_cellsFrom h
      exact ⟨j + 1, u, by simpa using h1, by rw [show i + 1 + j = i + (j + 1) by omega]⟩

theorem cellsFrom_mem {a : Addr} : ∀ {vs : List Value} {i j : Nat} {v : Value}, vs[j]? = some v → (a.add (i + j), v) ∈ cellsFrom a vs i
  | [], i, j, v, h => by simp at h
  | u :: vs, i, 0, v, h => by simp only [List.getElem?_cons_zero, Option.some.injEq] at h; subst h; simp [cellsFrom]
  | u :: vs, i, j + 1, v, h => by
    have := cellsFrom_mem (a := a) (vs := vs) (i := i + 1) (j := j) (v := v) (by simpa using h)
    rw [show i + 1 + j = i + (j + 1) by omega] at this
    simp [cellsFrom, this]

theorem of_dLoad {t : TypeId} {a : Addr} {K : Value → Prop} (h : dLoad P t w a K) :
    ∃ v, (∀ x ∈ fpA P t a v, w.cell? x.1 = some x.2) ∧ (∀ w', (∀ x ∈ fpA P t a v, w'.cell? x.1 = some x.2) → (loadVar t a).run P w' = .ok v w') ∧ K v := by
  unfold dLoad at h
  split at h
  · rename_i d hd
    cases hb : isAggD d with
    | false =>
      rw [hb] at h
      obtain ⟨x, hx, hK⟩ := h
      have hfp : fpA P t a ((cellKd d).inj x) = [(a, (cellKd d).inj x)] := by simp [fpA, hd, hb]
      refine ⟨_, by rw [hfp]; simpa using hx, fun w' he => ?_, hK⟩
      rw [hfp] at he
      have hc := he (a, (cellKd d).inj x) (by simp)
      simp only at hc
      simp [loadVar, isAggD_run hd, hb, hc]
    | true =>
      rw [hb] at h
      simp only [cond_true] at h
      cases hn : Nat.beq (P.cellsOf t) (cellKds P 16 t).length with
      | false => rw [hn] at h; exact h.elim
      | true =>
        rw [hn] at h
        obtain ⟨vs, hl, hc, hK⟩ := of_LdL h
        obtain ⟨i, hi⟩ := info_of_underlying hd
        have hsz : i.size = vs.length := by rw [hl, ← Nat.eq_of_beq_eq_true hn, info_cells hi]
        have hfp : fpA P t a (.agg vs.toArray) = cellsFrom a vs 0 := by simp [fpA, hd, hb]
        refine ⟨_, ?_, fun w' he => ?_, hK⟩
        · rw [hfp]
          intro x hx
          obtain ⟨j, v, h1, rfl⟩ := mem_cellsFrom hx
          exact hc j v (by simpa using h1)
        · have := run_loadCells_list (P := P) w' a vs (fun j v hj => by
            have := he (a.add (0 + j), v) (by rw [hfp]; exact cellsFrom_mem (by simpa using hj))
            simpa using this)
          simp [loadVar, isAggD_run hd, hb, sizeOf, typeInfo, hi, hsz, this]
  · exact h.elim

theorem of_intOp {v : Option Operand} {d : Int} {K : Int → Prop} (hρ : ∀ x v, ρ x = some v → e x = v) (h : intOp v ρ d K) :
    ∃ n, ((v.map e = none ∧ n = d) ∨ ∃ k, v.map e = some (.int k n)) ∧ K n := by
  unfold intOp at h
  split at h
  · exact ⟨d, .inl ⟨rfl, rfl⟩, h⟩
  · rename_i x
    split at h
    · rename_i k n hx
      exact ⟨n, .inr ⟨k, by simp [hρ _ _ hx]⟩, h⟩
    · exact h.elim

theorem run_sliceBounds {b : Bool} {len cap : Nat} {lo hi mx : Option Value} {l h m : Int}
    (hm : (mx = none ∧ m = cap) ∨ ∃ k, mx = some (.int k m)) (hh : (hi = none ∧ h = len) ∨ ∃ k, hi = some (.int k h)) (hl : (lo = none ∧ l = 0) ∨ ∃ k, lo = some (.int k l))
    (hc : mx.isSome = true → hi.isSome = true) (h1 : 0 ≤ l) (h2 : l ≤ h) (h3 : h ≤ m) (h4 : m ≤ cap) :
    (Instr.sliceBounds b len cap lo hi mx).run P w = .ok (l.toNat, h.toNat, m.toNat) w := by
  have em : ((m.toNat : Nat) : Int) = m := by omega
  have eh : ((h.toNat : Nat) : Int) = h := by omega
  rcases hm with ⟨rfl, rfl⟩ | ⟨km, rfl⟩ <;> rcases hh with ⟨rfl, rfl⟩ | ⟨kh, rfl⟩ <;> rcases hl with ⟨rfl, rfl⟩ | ⟨kl, rfl⟩ <;>
    first
    | (simp at hc; done)
    | (simp [Instr.sliceBounds, Instr.sliceBound, asIntOf, em, eh, h1, h2, h3, h4, Int.le_trans h1 h2, Int.le_trans (Int.le_trans h1 h2) h3]; done)

theorem isSome_map {α β : Type} (o : Option α) (f : α → β) : (o.map f).isSome = o.isSome := by cases o <;> rfl

theorem fill_mono {F F' : Nat → Option (Nat × Nat)} (hF : ∀ i x, F i = some x → F' i = some x) : ∀ {parts : List (Nat × Value)} {c cs : Array Value},
    Instr.fill F c parts = some cs → Instr.fill F' c parts = some cs
  | [], c, cs, h => h
  | (i, v) :: rest, c, cs, h => by
    simp only [Instr.fill] at h ⊢
    cases hi : F i with
    | none => simp [hi] at h
    | some x =>
      obtain ⟨off, size⟩ := x
      simp only [hi] at h
      simp only [hF i _ hi]
      split
      · rename_i hc; rw [if_pos hc] at h; cases h
      · rename_i hc; rw [if_neg hc] at h; exact fill_mono hF h

theorem run_bytesStr {src dst : TypeId} {w : World} {s : Sl} {b : ByteArray} (hb : bytesStr P src dst = true) (h : BytesAt w s b) :
    (convert src dst (.slice s.a s.len s.cap)).run P w = .ok (.string b) w := by
  unfold bytesStr at hb
  split at hb
  · rename_i e hs hd
    split at hb
    · rename_i he
      rw [run_convert_bytes_string w src dst e _ _ _ hs he hd]
      obtain ⟨hl, ⟨ha, h0⟩ | ⟨a, ha, hc⟩⟩ := h
      · rw [ha]
        have : b = ByteArray.empty := by
          rw [h0] at hl
          apply ByteArray.ext
          apply Array.ext'
          rw [List.eq_nil_of_length_eq_zero hl]
          rfl
        rw [this]
        simp [Conv.bytesToString]
      · rw [ha]
        have hrow : (loadCells a s.len).run P w = .ok ((b.data.toList.map fun x => (x.toNat : Int)).map (Value.int .u8)).toArray w := by
          have := run_loadCells_list (P := P) w a ((b.data.toList.map fun x => (x.toNat : Int)).map (Value.int .u8)) (fun j v hj => by
            rw [List.getElem?_map, List.getElem?_map] at hj
            cases hx : b.data.toList[j]? with
            | none => rw [hx] at hj; cases hj
            | some y =>
              rw [hx] at hj
              simp only [Option.map_some, Option.some.injEq] at hj
              subst hj
              exact hc j y hx)
          rw [List.length_map, List.length_map, hl] at this
          exact this
        rw [run_bytesToString w a s.len s.cap _ hrow, foldl_push_bytes]
        congr 2
        apply ByteArray.ext
        apply Array.ext'
        simp [ByteArray.empty, ByteArray.emptyWithCapacity]
        conv => rhs; rw [← List.map_id b.data.toList]
        apply List.map_congr_left
        intro y _
        simp
    · cases hb
  · cases hb

theorem fp_nil {op : Op} {v : Value} (h : isLoad P op = false) : fpOf P ρ op v = [] := by
  cases op <;> first | rfl | (simp [isLoad] at h; done) | (simp only [isLoad] at h; unfold fpOf; simp only [h])

theorem of_dRo (hρ : ∀ x v, ρ x = some v → e x = v) (hρ' : ∀ c b x v, e (.tmp c) = .bool b → ρ' c b x = some v → e x = v)
    {op : Op} {ty : TypeId} {K : Value → Prop} (h : dRo P op ty ρ ρ' w K)
    (dst : Option Tmp) (pos : String) (after : Array Edge) (g : Option (Nat × Bool)) :
    ∃ v, (∀ x ∈ fpOf P ρ op v, holdAt w x) ∧ (∀ w', (wl P op = true ∨ (isLoad P op = false ∧ Ext w w') ∨ (isLoad P op = true ∧ ∀ x ∈ fpOf P ρ op v, holdAt w' x)) → (execOp e ⟨dst, op, ty, pos, after, g⟩).run P w' = .ok (.value v) w') ∧ K v := by
  unfold dRo at h
  split at h
  · rename_i x
    split at h
    · rename_i p h1
      obtain ⟨a, rfl, hK⟩ := of_NN h
      exact ⟨_, (fun _ hx => (by cases hx)), fun w' he => by simp [execOp, hρ _ _ h1], hK⟩
    · rename_i f fs cs h1
      exact ⟨_, (fun _ hx => (by cases hx)), fun w' he => by simp [execOp, hρ _ _ h1], h⟩
    · exact h.elim
  · rename_i s x f
    split at h
    · rename_i off p h1 h2
      obtain ⟨a, rfl, hK⟩ := of_NN h
      unfold fieldOff at h1
      split at h1
      · rename_i fs hu
        split at h1
        · rename_i fd hf
          cases hz : Nat.beq (P.cellsOf fd.type) 0 with
          | true => rw [hz] at h1; cases h1
          | false =>
            rw [hz] at h1
            simp only [cond_false, Option.some.injEq] at h1
            subst h1
            obtain ⟨i, hi, hs⟩ := of_cellsOf (P := P) (t := fd.type) rfl (by intro h0; rw [h0] at hz; cases hz)
            have hs' : i.size ≠ 0 := by rw [hs]; intro h0; rw [h0] at hz; cases hz
            exact ⟨_, (fun _ hx => (by cases hx)), fun w' he => by simp [execOp, Instr.fieldAt, run_underlying hu, hf, hρ _ _ h2, Instr.sureAddr, fieldPlace, sizeOf, typeInfo, hi, hs'], hK⟩
        · cases h1
      · cases h1
    · exact h.elim
  · rename_i t x
    split at h
    · rename_i p h1
      obtain ⟨a, rfl, hK⟩ := of_NN h
      obtain ⟨v, hfp, hr, hv⟩ := of_dLoad hK
      refine ⟨v, ?_, fun w' he => ?_, hv⟩
      · intro x hx
        simp only [fpOf, h1, List.mem_map] at hx
        obtain ⟨y, hy, rfl⟩ := hx
        exact hfp y hy
      have he' : ∀ x ∈ fpA P t a v, w'.cell? x.1 = some x.2 := by
        rcases he with he | ⟨he, _⟩ | ⟨_, he⟩
        · cases he
        · cases he
        · intro x hx
          exact he (.cell x.1 x.2) (by simp only [fpOf, h1, List.mem_map]; exact ⟨x, hx, rfl⟩)
      simp [execOp, Instr.loadAt, Instr.sureAddr, hρ _ _ h1, hr w' he']
    · exact h.elim
  · rename_i t x ix
    split at h
    · rename_i el s len cap k i hu h1 h2
      split at h
      · rename_i inf hi
        obtain ⟨h3, h4, h5⟩ := h
        obtain ⟨a, rfl, hK⟩ := of_NN h5
        exact ⟨_, (fun _ hx => (by cases hx)), fun w' he => by simp [execOp, Instr.indexAt, run_underlying hu, hρ _ _ h1, hρ _ _ h2, asIntOf, h3, h4, sizeOf, typeInfo, hi], hK⟩
      · exact h.elim
    · rename_i len el p k i hu h1 h2
      split at h
      · rename_i inf hi
        obtain ⟨a, rfl, h3, h4, hK⟩ := of_NN h
        exact ⟨_, (fun _ hx => (by cases hx)), fun w' he => by simp [execOp, Instr.indexAt, run_underlying hu, hρ _ _ h1, hρ _ _ h2, asIntOf, h3, h4, sizeOf, typeInfo, hi, Instr.sureAddr], hK⟩
      · exact h.elim
    · exact h.elim
  · rename_i t x ix
    split at h
    · rename_i s k i hu h1 h2
      obtain ⟨h3, b, hb, hK⟩ := h
      exact ⟨_, (fun _ hx => (by cases hx)), fun w' he => by simp [execOp, Instr.index, run_underlying hu, hρ _ _ h1, hρ _ _ h2, asIntOf, h3, hb], hK⟩
    · exact h.elim
  · rename_i t x lo hi mx
    split at h
    · rename_i el a len cap hu h1
      split at h
      · rename_i inf hinf
        cases hb : (mx.isSome && hi.isNone) with
        | true => rw [hb] at h; exact h.elim
        | false =>
          rw [hb] at h
          simp only [cond_false] at h
          obtain ⟨m, a1, ha⟩ := of_intOp hρ h
          obtain ⟨h', a2, hb'⟩ := of_intOp hρ ha
          obtain ⟨l, a3, c1, c2, c3, c4, hK⟩ := of_intOp hρ hb'
          simp only at c4
          have hsb := fun w' => run_sliceBounds (P := P) (w := w') (b := true) a1 a2 a3 (by
            rw [isSome_map, isSome_map]; intro hm; rw [hm] at hb; cases hi <;> simp_all) c1 c2 c3 c4
          refine ⟨_, (fun _ hx => (by cases hx)), fun w' he => ?_, hK⟩
          simp only [execOp, Instr.sliceAt, Instr.slice, Sem.run_bind, run_underlying hu, Result.andThen_ok, hρ _ _ h1, hsb, sizeOf, typeInfo, run_program, hinf, Sem.run_pure]
      · exact h.elim
    · rename_i n el p hu h1
      split at h
      · rename_i inf hinf
        cases hb : (mx.isSome && hi.isNone) with
        | true => rw [hb] at h; exact h.elim
        | false =>
          rw [hb] at h
          simp only [cond_false] at h
          obtain ⟨a, rfl, hn⟩ := of_NN h
          obtain ⟨m, a1, ha⟩ := of_intOp hρ hn
          obtain ⟨h', a2, hb'⟩ := of_intOp hρ ha
          obtain ⟨l, a3, c1, c2, c3, c4, hK⟩ := of_intOp hρ hb'
          have hsb := fun w' => run_sliceBounds (P := P) (w := w') (b := false) a1 a2 a3 (by
            rw [isSome_map, isSome_map]; intro hm; rw [hm] at hb; cases hi <;> simp_all) c1 c2 c3 c4
          refine ⟨_, (fun _ hx => (by cases hx)), fun w' he => ?_, hK⟩
          simp only [execOp, Instr.sliceAt, Sem.run_bind, run_underlying hu, Result.andThen_ok, hρ _ _ h1, Instr.sureAddr, hsb, sizeOf, typeInfo, run_program, hinf, Sem.run_pure]
      · exact h.elim
    · rename_i s hu h1
      cases hb : mx.isSome with
      | true => rw [hb] at h; exact h.elim
      | false =>
        rw [hb] at h
        simp only [cond_false] at h
        obtain rfl : mx = none := by simpa using hb
        obtain ⟨h', a2, hb'⟩ := of_intOp hρ h
        obtain ⟨l, a3, c1, c2, c3, hK⟩ := of_intOp hρ hb'
        have hsb := fun w' => run_sliceBounds (P := P) (w := w') (b := false) (mx := none) (m := s.size) (.inl ⟨rfl, rfl⟩) a2 a3 (by simp) c1 c2 c3 (Int.le_refl _)
        refine ⟨_, (fun _ hx => (by cases hx)), fun w' he => ?_, hK⟩
        simp [execOp, Instr.sliceAt, Instr.slice, run_underlying hu, hρ _ _ h1, hsb]
    · exact h.elim
  · rename_i o t x y ty'
    split at h
    · rename_i a b h1 h2
      have e1 := hρ _ _ h1
      have e2 := hρ _ _ h2
      have fin : ∀ v w', (binSem o t x y a b).run P w' = .ok v w' → (execOp e ⟨dst, .binOp o t x y ty', ty, pos, after, g⟩).run P w' = .ok (.value v) w' := by
        intro v w' hr
        unfold binSem at hr
        simp only [execOp, e1, e2]
        rw [Sem.run_bind, hr]; rfl
      have ext : isPlainT P t = false → ∀ w', (wl P (.binOp o t x y ty') = true ∨ (isLoad P (.binOp o t x y ty') = false ∧ Ext w w') ∨ (isLoad P (.binOp o t x y ty') = true ∧ ∀ z ∈ fpOf P ρ (.binOp o t x y ty') (.bool true), holdAt w' z)) → Ext w w' := by
        intro hp w' he
        rcases he with he | ⟨_, he⟩ | ⟨he, _⟩
        · simp [wl, hp] at he
        · exact he
        · cases he
      cases hb : isIfaceT P t with
      | true =>
        rw [hb] at h
        obtain ⟨r, hr, hK⟩ := h
        have hp : isPlainT P t = false := by
          unfold isIfaceT at hb
          unfold isPlainT
          split at hb <;> simp_all
        exact ⟨_, (fun _ hx => (by cases hx)), fun w' he => fin _ w' (hr w' (ext hp w' he)), hK⟩
      | false =>
        rw [hb] at h
        simp only [cond_false] at h
        split at h
        · rename_i v hv
          exact ⟨v, (fun _ hx => (by cases hx)), fun w' _ => fin v w' (of_pureBin hv), h⟩
        · cases hp : isPlainT P t with
          | true =>
            rw [hp] at h
            obtain ⟨v, hr, hK⟩ := of_dBinP (P := P) (t := t) (x := x) (y := y) h
            exact ⟨v, (fun _ hx => (by cases hx)), fun w' _ => fin v w' (hr w'), hK⟩
          | false =>
            rw [hp] at h
            obtain ⟨r, hr, hK⟩ := h
            exact ⟨_, (fun _ hx => (by cases hx)), fun w' he => fin _ w' (hr w' (ext hp w' he)), hK⟩
    · exact h.elim
  · rename_i t parts
    have hz : ∀ (places : List (Nat × Nat × TypeId)) (vs : List Value) (z : Value) (F : Nat → Option (Nat × Nat)), mapO ρ (parts.toList.map (·.2)) = some vs →
        (∀ i, F i = (places[i]?).map fun x => (x.1, x.2.1)) →
        dFill P places z.cells.toList ((parts.toList.map (·.1)).zip vs) (fun cs => K (.agg cs.toArray)) →
        ∃ cs : Array Value, Instr.fill F z.cells (parts.map fun (i, x) => (i, e x)).toList = some cs ∧ K (.agg cs) := by
      intro places vs z F hm hF hd
      obtain ⟨cs, hc, hK⟩ := of_dFill hd
      refine ⟨cs, ?_, by simpa using hK⟩
      have e1 := of_mapO hρ hm
      have : (parts.map fun (i, x) => (i, e x)).toList = (parts.toList.map (·.1)).zip vs := by
        rw [← e1]
        simp only [Array.toList_map, List.map_map]
        generalize parts.toList = ps
        induction ps with
        | nil => rfl
        | cons p ps ih => simp [ih]
      rw [this, ← hc]
      congr 1
      funext i
      exact hF i
    split at h
    · rename_i fs inf vs hu hi hm
      split at h
      · rename_i z hzz
        cases hb : (fs.toList.all fun f => (P.info? f.type).isSome) with
        | false => rw [hb] at h; exact h.elim
        | true =>
          rw [hb] at h
          simp only [cond_true] at h
          have hall : ∀ f ∈ fs.toList, ∃ i, P.info? f.type = some i := fun f hf => Option.isSome_iff_exists.1 (List.all_eq_true.1 hb f hf)
          have hmap : ∀ w, (fs.mapM fun f => (do pure (f.offset, ← sizeOf f.type) : Sem (Nat × Nat))).run P w = .ok (fs.map fun f => (f.offset, P.cellsOf f.type)) w := by
            intro w
            have key : ∀ (l : List Field), (∀ f ∈ l, ∃ i, P.info? f.type = some i) →
                (l.mapM fun f => (do pure (f.offset, ← sizeOf f.type) : Sem (Nat × Nat))).run P w = .ok (l.map fun f => (f.offset, P.cellsOf f.type)) w := by
              intro l
              induction l with
              | nil => intro _; simp
              | cons f l ih =>
                intro hl'
                obtain ⟨i, hi'⟩ := hl' f (by simp)
                have ih' := ih (fun f' hf' => hl' f' (by simp [hf']))
                have hs : (sizeOf f.type).run P w = .ok i.size w := by simp [sizeOf, typeInfo, hi']
                simp only [List.mapM_cons, Sem.run_bind, hs, Result.andThen_ok, Sem.run_pure, ih', List.map_cons, info_cells hi']
            rw [Array.mapM_eq_mapM_toList, Sem.run_map, key _ hall]
            simp only [Result.andThen_ok]
            congr 1
            apply Array.ext'
            simp
          obtain ⟨cs, hc, hK⟩ := hz _ vs z (fun i => (fs.map fun f => (f.offset, P.cellsOf f.type))[i]?) hm (fun i => by simp; cases fs[i]? <;> rfl) h
          refine ⟨_, (fun _ hx => (by cases hx)), fun w' he => ?_, hK⟩
          simp only [execOp, Instr.build, Sem.run_bind, zeroValue, typeInfo, run_program, Result.andThen_ok, hi, Sem.run_pure, hzz, run_underlying hu, hmap, hc]
      · exact h.elim
    · rename_i n el inf vs hu hi hm
      split at h
      · rename_i z hzz
        cases hb : (P.info? el).isNone with
        | true => rw [hb] at h; exact h.elim
        | false =>
          rw [hb] at h
          simp only [cond_false] at h
          obtain ⟨ie, hie⟩ : ∃ i, P.info? el = some i := by
            cases he : P.info? el with
            | none => simp [he] at hb
            | some i => exact ⟨i, rfl⟩
          obtain ⟨cs, hc, hK⟩ := hz _ vs z _ hm (fun i => rfl) h
          have hc' := fill_mono (F' := fun i => some (i * ie.size, ie.size)) (by
            intro i x hx
            simp only [Option.map_eq_some_iff] at hx
            obtain ⟨y, hy, rfl⟩ := hx
            simp only [List.getElem?_map, Option.map_eq_some_iff] at hy
            obtain ⟨j, hj, rfl⟩ := hy
            have := List.getElem?_eq_some_iff.1 hj
            obtain ⟨hlt, hj'⟩ := this
            simp only [List.getElem_range] at hj'
            subst hj'
            simp [info_cells hie]) hc
          refine ⟨_, (fun _ hx => (by cases hx)), fun w' he => ?_, hK⟩
          simp only [execOp, Instr.build, Sem.run_bind, zeroValue, typeInfo, run_program, Result.andThen_ok, hi, Sem.run_pure, hzz, run_underlying hu, sizeOf, hie, hc']
      · exact h.elim
    · exact h.elim
  · rename_i t x ix ok
    split at h
    · rename_i m k h1 h2
      obtain ⟨v, hr, hv⟩ := h
      obtain ⟨cs, hK, he⟩ := of_viewRet_curry hv
      rw [he] at hK
      refine ⟨v, (fun _ hx => (by cases hx)), fun w' he => ?_, hK⟩
      have he' : Ext w w' := by
        rcases he with he | ⟨_, he⟩ | ⟨he, _⟩
        · cases he
        · exact he
        · cases he
      simp [execOp, hρ _ _ h1, hρ _ _ h2, hr w' he']
    · exact h.elim
  · rename_i x xt at' ok
    split at h
    · rename_i v0 h1
      obtain ⟨v, hr, hv⟩ := h
      obtain ⟨cs, hK, he⟩ := of_viewRet_curry hv
      rw [he] at hK
      refine ⟨v, (fun _ hx => (by cases hx)), fun w' he => ?_, hK⟩
      have he' : Ext w w' := by
        rcases he with he | ⟨_, he⟩ | ⟨he, _⟩
        · cases he
        · exact he
        · cases he
      simp [execOp, hρ _ _ h1, hr w' he']
    · exact h.elim
  · rename_i c
    cases hb : mapLen P c with
    | true =>
      rw [hb] at h
      simp only [cond_true] at h
      split at h
      · rename_i vs hm
        obtain ⟨n, hr, hK⟩ := h
        have e1 := of_mapO hρ hm
        have a1 : c.args.map e = vs.toArray := Array.ext' (by simp [e1])
        refine ⟨_, (fun _ hx => (by cases hx)), fun w' he => ?_, hK⟩
        have he' : Ext w w' := by
          rcases he with he | ⟨_, he⟩ | ⟨he, _⟩
          · simp [wl, hb] at he
          · exact he
          · cases he
        obtain ⟨callee, args, argTypes⟩ := c
        unfold mapLen at hb
        simp only at hb a1 hr
        split at hb
        · simp only [execOp, Go.resolve, invoke, builtin, a1, Sem.run_bind, Sem.run_pure, Result.andThen_ok, hr w' he', Kd.inj]
        · cases hb
      · exact h.elim
    | false =>
      rw [hb] at h
      simp only [cond_false] at h
      split at h
      · rename_i v hv
        exact ⟨v, (fun _ hx => (by cases hx)), fun w' _ => of_pureVal hρ hρ' hv dst pos after g, h⟩
      · exact h.elim
  · rename_i src dt x
    cases hb : bytesStr P src dt with
    | true =>
      rw [hb] at h
      simp only at h
      split at h
      · rename_i a len cap h1
        obtain ⟨b, hB, hK⟩ := h
        refine ⟨.string b, ?_, fun w' he => ?_, hK⟩
        · intro y hy
          simp only [fpOf, hb, h1, List.mem_singleton] at hy
          subst hy
          exact hB
        · have hB' : BytesAt w' ⟨a, len, cap⟩ b := by
            rcases he with he | ⟨he, _⟩ | ⟨_, he⟩
            · simp [wl, hb] at he
            · simp [isLoad, hb] at he
            · exact he (.bytes ⟨a, len, cap⟩ b) (by simp [fpOf, hb, h1])
          have hr := run_bytesStr hb hB'
          simp [execOp, hρ _ _ h1, hr]
      · exact h.elim
    | false =>
      rw [hb] at h
      simp only at h
      split at h
      · rename_i v hv
        exact ⟨v, (fun y hy => (by simp [fpOf, hb] at hy)), fun w' _ => of_pureVal hρ hρ' hv dst pos after g, h⟩
      · exact h.elim
  · split at h
    · rename_i v hv
      exact ⟨v, (fun x hx => (by rw [fp_nil (by cases op <;> first | rfl | (exfalso; simp_all))] at hx; cases hx)), fun w' _ => of_pureVal hρ hρ' hv dst pos after g, h⟩
    · exact h.elim

end
end Go.Den
