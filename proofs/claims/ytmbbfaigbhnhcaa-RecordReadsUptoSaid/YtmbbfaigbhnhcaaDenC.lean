/-
  A denotation of the model's code as one formula for each function. Part C: all operations.
-/
import Derived.Test.YtmbbfaigbhnhcaaDenB
set_option linter.unusedSimpArgs false
set_option linter.unusedVariables false
namespace Go.Den

abbrev Env := List (Nat × Option Value)
abbrev FEnv := List (Nat × List (Nat × Bool) × Value)

def gt : Env → Nat → Option (Option Value)
  | [], _ => none
  | (j, v) :: r, t => cond (Nat.beq j t) (some v) (gt r t)

def subF (G F : List (Nat × Bool)) : Bool := G.all fun g => F.any fun f => Nat.beq g.1 f.1 && (g.2 == f.2)

def lookF (F : List (Nat × Bool)) : FEnv → Nat → Option Value
  | [], _ => none
  | (d, G, v) :: r, t => cond (Nat.beq d t) (cond (subF G F) (some v) none) (lookF F r t)

def look (l : Env) (fl : FEnv) (F : List (Nat × Bool)) : Operand → Option Value
  | .tmp t => match gt l t with
    | some (some v) => some v
    | some none => lookF F fl t
    | none => none
  | .const v => some v
  | .global g => some (.pointer (some ⟨g, 0, none⟩))
  | .func f => some (.func (.func f) #[] #[])

def mapO (ρ : Operand → Option Value) : List Operand → Option (List Value)
  | [] => some []
  | x :: r => match ρ x, mapO ρ r with
    | some v, some vs => some (v :: vs)
    | _, _ => none

def isConst : Operand → Bool
  | .const _ => true
  | _ => false

def pureVal (P : Program) (op : Op) (ty : TypeId) (ρ : Operand → Option Value) (ρ' : Nat → Bool → Operand → Option Value) : Option Value :=
  match op with
  | .move x => ρ x
  | .assign x => ρ x
  | .pick (.tmp c) a b =>
    match ρ (.tmp c), ρ' c true a, ρ' c false b with
    | some (.bool cv), some (.bool x), some (.bool y) => some (.bool (cond cv x y))
    | some (.bool true), va, _ => va
    | some (.bool false), _, vb => vb
    | _, _, _ => none
  | .binOp o t x y _ =>
    match ρ x, ρ y with
    | some a, some b => pureBin P o t (isConst y) a b
    | _, _ => none
  | .unOp o _ x =>
    match o, ρ x with
    | .not, some (.bool b) => some (.bool (!b))
    | .neg, some (.int k n) => some (.int k (k.wrap (0 - n)))
    | .xor, some (.int k n) => some (.int k (k.wrap ((BitVec.ofInt k.bits (if k.signed then -1 else k.max) ^^^ BitVec.ofInt k.bits n).toNat : Nat)))
    | _, _ => none
  | .extract x i =>
    match ρ x with
    | some (.tuple vs) => vs.toList[i]?
    | _ => none
  | .call c =>
    match c.callee, c.args.toList, c.argTypes.toList with
    | .builtin .len, [x], [t] =>
      match P.underlying t, ρ x with
      | some (.slice _), some (.slice _ n _) => some (.int .i64 n)
      | some .string, some (.string s) => some (.int .i64 s.size)
      | _, _ => none
    | .builtin .cap, [x], [t] =>
      match P.underlying t, ρ x with
      | some (.slice _), some (.slice _ _ n) => some (.int .i64 n)
      | _, _ => none
    | .builtin .min, [x, y], _ =>
      match ρ x, ρ y with
      | some (.int k a), some (.int _ b) => some (.int k (if b < a then b else a))
      | _, _ => none
    | .builtin .max, [x, y], _ =>
      match ρ x, ρ y with
      | some (.int k a), some (.int _ b) => some (.int k (if b > a then b else a))
      | _, _ => none
    | _, _, _ => none
  | .convert src dst x =>
    match P.underlying src, P.underlying dst, ρ x with
    | some _, some (.int k), some (.int _ n) => some (.int k (k.wrap n))
    | some .string, some .string, some (.string s) => some (.string s)
    | _, _, _ => none
  | .makeInterface t x =>
    match P.underlying t, ρ x with
    | some (.interface _), _ => none
    | some _, some v => some (.iface t v)
    | _, _ => none
  | .makeFunc fn first captured =>
    match mapO ρ first.toList, mapO ρ captured.toList with
    | some fs, some cs => some (.func fn fs.toArray cs.toArray)
    | _, _ => none
  | .field t x f =>
    match P.underlying t, ρ x with
    | some (.struct fs), some (.agg cs) =>
      match fs[f]? with
      | some fd => match P.underlying fd.type, P.info? fd.type with
        | some d, some i => cond (isAggD d) (some (.agg ((cs.toList.drop fd.offset).take i.size).toArray)) cs.toList[fd.offset]?
        | _, _ => none
      | none => none
    | _, _ => none
  | _ => none

section
variable {P : Program} {e : Operand → Value} {ρ : Operand → Option Value} {ρ' : Nat → Bool → Operand → Option Value} {w : World}

theorem of_mapO (hρ : ∀ x v, ρ x = some v → e x = v) : ∀ {xs : List Operand} {vs : List Value}, mapO ρ xs = some vs → xs.map e = vs
  | [], vs, h => by simp only [mapO, Option.some.injEq] at h; subst h; rfl
  | x :: r, vs, h => by
    simp only [mapO] at h
    cases h1 : ρ x with
    | none => simp [h1] at h
    | some v =>
      cases h2 : mapO ρ r with
      | none => simp [h1, h2] at h
      | some ws =>
        simp only [h1, h2, Option.some.injEq] at h
        subst h
        simp [hρ x v h1, of_mapO hρ h2]

theorem array_one {α : Type} {a : Array α} {x : α} (h : a.toList = [x]) : a = #[x] := Array.ext' (by simpa using h)
theorem array_two {α : Type} {a : Array α} {x y : α} (h : a.toList = [x, y]) : a = #[x, y] := Array.ext' (by simpa using h)

theorem isAggD_run {t : TypeId} {d : TypeDesc} (h : P.underlying t = some d) : (isAgg t).run P w = .ok (isAggD d) w := by
  simp only [isAgg, Sem.run_bind, run_underlying h, Result.andThen_ok]
  cases d <;> rfl

theorem of_pureVal (hρ : ∀ x v, ρ x = some v → e x = v) (hρ' : ∀ c b x v, e (.tmp c) = .bool b → ρ' c b x = some v → e x = v)
    {op : Op} {ty : TypeId} {v : Value} (h : pureVal P op ty ρ ρ' = some v) (dst : Option Tmp) (pos : String) (after : Array Edge) (g : Option (Nat × Bool)) :
    (execOp e ⟨dst, op, ty, pos, after, g⟩).run P w = .ok (.value v) w := by
  unfold pureVal at h
  split at h
  · have := hρ _ _ h; simp [execOp, this]
  · have := hρ _ _ h; simp [execOp, this]
  · rename_i c a b
    split at h
    · rename_i cv x y h1 h2 h3
      simp only [Option.some.injEq] at h
      subst h
      have e1 := hρ _ _ h1
      cases cv with
      | true => have e2 := hρ' c true a _ e1 h2; simp [execOp, asBool, e1, e2]
      | false => have e2 := hρ' c false b _ e1 h3; simp [execOp, asBool, e1, e2]
    · rename_i h1 _
      have e1 := hρ _ _ h1
      have e2 := hρ' c true a _ e1 h; simp [execOp, asBool, e1, e2]
    · rename_i h1 _
      have e1 := hρ _ _ h1
      have e2 := hρ' c false b _ e1 h; simp [execOp, asBool, e1, e2]
    · cases h
  · rename_i o t x y ty'
    split at h
    · rename_i a b h1 h2
      have e1 := hρ _ _ h1
      have e2 := hρ _ _ h2
      have hr := of_pureBin (w := w) (x := x) (y := y) h
      unfold binSem at hr
      simp only [execOp, e1, e2]
      rw [Sem.run_bind]
      rw [hr]; rfl
    · cases h
  · rename_i o t x
    split at h
    · rename_i b h1
      simp only [Option.some.injEq] at h; subst h
      simp [execOp, Op.unary, hρ _ _ h1]
    · rename_i k n h1
      simp only [Option.some.injEq] at h; subst h
      simp [execOp, Op.unary, Op.intArith, hρ _ _ h1]
    · rename_i k n h1
      simp only [Option.some.injEq] at h; subst h
      simp [execOp, Op.unary, Op.intBits, hρ _ _ h1]
    · cases h
  · rename_i x i
    split at h
    · rename_i vs h1
      have e1 := hρ _ _ h1
      have : vs[i]? = some v := by simpa using h
      simp [execOp, Instr.extract, e1, this]
    · cases h
  · rename_i c
    obtain ⟨callee, args, argTypes⟩ := c
    simp only at h
    split at h
    · rename_i x t ha ht
      obtain rfl := array_one ha
      obtain rfl := array_one ht
      split at h
      · rename_i e' a n c' hu h1
        simp only [Option.some.injEq] at h; subst h
        have e1 := hρ _ _ h1
        simp [execOp, Go.resolve, invoke, builtin, Builtin.len_, run_underlying hu, e1, goInt]
      · rename_i s hu h1
        simp only [Option.some.injEq] at h; subst h
        have e1 := hρ _ _ h1
        simp [execOp, Go.resolve, invoke, builtin, Builtin.len_, run_underlying hu, e1, goInt]
      · cases h
    · rename_i x t ha ht
      obtain rfl := array_one ha
      obtain rfl := array_one ht
      split at h
      · rename_i e' a n c' hu h1
        simp only [Option.some.injEq] at h; subst h
        have e1 := hρ _ _ h1
        simp [execOp, Go.resolve, invoke, builtin, Builtin.cap_, run_underlying hu, e1, goInt]
      · cases h
    · rename_i x y ha
      obtain rfl := array_two ha
      split at h
      · rename_i k a k' b h1 h2
        simp only [Option.some.injEq] at h; subst h
        have e1 := hρ _ _ h1
        have e2 := hρ _ _ h2
        simp [execOp, Go.resolve, invoke, builtin, Builtin.min_, Builtin.min2, e1, e2]
      · cases h
    · rename_i x y ha
      obtain rfl := array_two ha
      split at h
      · rename_i k a k' b h1 h2
        simp only [Option.some.injEq] at h; subst h
        have e1 := hρ _ _ h1
        have e2 := hρ _ _ h2
        simp [execOp, Go.resolve, invoke, builtin, Builtin.max_, Builtin.max2, e1, e2]
      · cases h
    · cases h
  · rename_i src dst' x
    split at h
    · rename_i d k k' n hs hd h1
      simp only [Option.some.injEq] at h; subst h
      have e1 := hρ _ _ h1
      simp [execOp, convert, run_underlying hs, run_underlying hd, e1, Conv.intToInt]
    · rename_i s hs hd h1
      simp only [Option.some.injEq] at h; subst h
      have e1 := hρ _ _ h1
      simp [execOp, convert, run_underlying hs, run_underlying hd, e1]
    · cases h
  · rename_i t x
    split at h
    · cases h
    · rename_i d v' hne hu h1
      simp only [Option.some.injEq] at h; subst h
      have e1 := hρ _ _ h1
      simp only [execOp, Instr.makeInterface, Sem.run_bind, run_underlying hu, Result.andThen_ok, e1]
      cases d <;> first | rfl | exact (hne _ rfl).elim
    · cases h
  · rename_i fn first captured
    split at h
    · rename_i fs cs h1 h2
      simp only [Option.some.injEq] at h; subst h
      have e1 := of_mapO hρ h1
      have e2 := of_mapO hρ h2
      have a1 : first.map e = fs.toArray := Array.ext' (by simp [e1])
      have a2 : captured.map e = cs.toArray := Array.ext' (by simp [e2])
      simp [execOp, Instr.makeFunc, a1, a2]
    · cases h
  · rename_i t x f
    split at h
    · rename_i fs cs hu h1
      have e1 := hρ _ _ h1
      split at h
      · rename_i fd hf
        split at h
        · rename_i d i hd hi
          simp only [execOp, Instr.field, Sem.run_bind, run_underlying hu, Result.andThen_ok, e1, hf, asAgg, Sem.run_pure, part, isAggD_run hd]
          cases hb : isAggD d with
          | true =>
            rw [hb] at h
            simp only [cond_true, Option.some.injEq] at h
            subst h
            simp only [if_true, Sem.run_bind, sizeOf, typeInfo, run_program, Result.andThen_ok, hi, Sem.run_pure]
            congr 3
            apply Array.ext'
            simp [List.extract_eq_take_drop]
          | false =>
            rw [hb] at h
            simp only [cond_false] at h
            have : cs[fd.offset]? = some v := by simpa using h
            simp [this]
        · cases h
      · cases h
    · cases h
  · cases h

end
end Go.Den
