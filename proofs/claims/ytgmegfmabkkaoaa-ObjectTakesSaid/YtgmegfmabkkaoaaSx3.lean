/- Small rules for symbolic steps, the third part: what a pure operation gives. Program-independent. -/
import Derived.Test.YtgmegfmabkkaoaaSx2
namespace Go.Sx
open Go

structure TyI where
  desc : TypeDesc
  size : Nat
  bytes : Nat
  zero : List Value

/-- What is known of the program's types. -/
structure Tab (P : Program) where
  tab : List (Nat × TyI)
  ok : ∀ t i, (t, i) ∈ tab → P.underlying t = some i.desc ∧ ∃ ti z, P.info? t = some ti ∧ ti.size = i.size ∧ ti.bytes = i.bytes ∧ ti.zero = some z ∧ z.cells = i.zero.toArray

def findT : List (Nat × TyI) → Nat → Option TyI
  | [], _ => none
  | (d, v) :: E, t => bif Nat.beq d t then some v else findT E t
theorem findT_mem : ∀ {l : List (Nat × TyI)} {t : Nat} {i : TyI}, findT l t = some i → (t, i) ∈ l
  | [], t, i, h => by simp [findT] at h
  | (d, v) :: E, t, i, h => by
    simp only [findT] at h
    cases hb : Nat.beq d t with
    | true =>
      simp only [hb, cond_true, Option.some.injEq] at h
      have := Nat.eq_of_beq_eq_true hb
      subst this; subst h; simp
    | false =>
      simp only [hb, cond_false] at h
      simp [findT_mem h]
def Tab.get {P : Program} (T : Tab P) (t : Nat) : Option TyI := findT T.tab t
theorem Tab.und {P : Program} (T : Tab P) {t : Nat} {i : TyI} (h : T.get t = some i) : P.underlying t = some i.desc := (T.ok t i (findT_mem h)).1
theorem Tab.inf {P : Program} (T : Tab P) {t : Nat} {i : TyI} (h : T.get t = some i) : ∃ ti z, P.info? t = some ti ∧ ti.size = i.size ∧ ti.bytes = i.bytes ∧ ti.zero = some z ∧ z.cells = i.zero.toArray := (T.ok t i (findT_mem h)).2

def isAggD : TypeDesc → Bool
  | .struct _ | .array _ _ => true
  | _ => false

def nth : List Value → Nat → Option Value
  | [], _ => none
  | v :: _, 0 => some v
  | _ :: l, i + 1 => nth l i
theorem nth_eq : ∀ (l : List Value) (i : Nat), nth l i = l[i]?
  | [], i => by simp [nth]
  | v :: l, 0 => by simp [nth]
  | v :: l, i + 1 => by simp [nth, nth_eq l i]
/-- m cells from a place on. -/
def nths (l : List Value) : Nat → Nat → Option (List Value)
  | _, 0 => some []
  | i, m + 1 => match nth l i, nths l (i + 1) m with
    | some v, some vs => some (v :: vs)
    | _, _ => none
theorem nths_spec : ∀ {l : List Value} {m i : Nat} {vs : List Value}, nths l i m = some vs → vs.length = m ∧ ∀ j, j < m → l[i + j]? = vs[j]?
  | l, 0, i, vs, h => by simp only [nths, Option.some.injEq] at h; subst h; simp
  | l, m + 1, i, vs, h => by
    simp only [nths] at h
    cases h1 : nth l i with
    | none => simp [h1] at h
    | some v =>
      cases h2 : nths l (i + 1) m with
      | none => simp [h1, h2] at h
      | some us =>
        simp only [h1, h2, Option.some.injEq] at h
        subst h
        obtain ⟨g1, g2⟩ := nths_spec h2
        refine ⟨by simp [g1], fun j hj => ?_⟩
        cases j with
        | zero => rw [nth_eq] at h1; simp [h1]
        | succ j => rw [show i + (j + 1) = i + 1 + j by omega, g2 j (by omega)]; simp
/-- One cell, or those of an aggregate. -/
def packV (agg : Bool) (vs : List Value) : Option Value := if agg then some (.agg vs.toArray) else match vs with
  | [v] => some v
  | _ => none

def sliceLen : Value → Option Value
  | .slice _ m _ => some (.int .i64 (m : Int))
  | .string s => some (.int .i64 (s.size : Int))
  | _ => none
def binB (op : BinOp) (x y : Value) : Option Value :=
  match x, y with
  | .int k a, .int k' b => if k = k' then (match op with
    | .eql => some (.bool (a == b))
    | .neq => some (.bool (a != b))
    | .lss => some (.bool (decide (a < b)))
    | .leq => some (.bool (decide (a ≤ b)))
    | .gtr => some (.bool (decide (a > b)))
    | .geq => some (.bool (decide (a ≥ b)))
    | .and => some (.int k (bits .and k a b))
    | .or => some (.int k (bits .or k a b))
    | .xor => some (.int k (bits .xor k a b))
    | _ => none) else none
  | .string a, .string b => (match op with
    | .eql => some (.bool (decide (a = b)))
    | .neq => some (.bool (!decide (a = b)))
    | _ => none)
  | _, _ => none

/-- The value of a pure operation. -/
def evalP {P : Program} (T : Tab P) (E : Env) : Op → Option Value
  | .move x | .assign x => E.ev x
  | .pick c a b => match E.ev c with
    | some (.bool true) => E.ev a
    | some (.bool false) => E.ev b
    | _ => none
  | .nilCheck x => match E.ev x with
    | some (.pointer (some a)) => some (.pointer (some a))
    | some (.func (.func f) l c) => some (.func (.func f) l c)
    | _ => none
  | .extract x i => match E.ev x with
    | some (.tuple vs) => nth vs.toList i
    | _ => none
  | .unOp .not _ x => match E.ev x with
    | some (.bool b) => some (.bool !b)
    | _ => none
  | .binOp op _ x y _ => match E.ev x, E.ev y with
    | some a, some b => binB op a b
    | _, _ => none
  | .makeFunc (.func f) first captured => match E.evs first.toList, E.evs captured.toList with
    | some l, some c => some (.func (.func f) l.toArray c.toArray)
    | _, _ => none
  | .fieldAddr s x f => match E.ev x, T.get s with
    | some (.pointer (some ⟨b, o, none⟩)), some i => (match i.desc with
      | .struct fields => (match fields.toList[f]? with
        | some ⟨_, fty, foff, _, _, _, _⟩ => (match T.get fty with
          | some ⟨_, fsz, _, _⟩ => if fsz = 0 then none else some (.pointer (some ⟨b, o + foff, none⟩))
          | none => none)
        | none => none)
      | _ => none)
    | _, _ => none
  | .field s x f => match E.ev x, T.get s with
    | some (.agg cs), some i => (match i.desc with
      | .struct fields => (match fields.toList[f]? with
        | some fd => (match T.get fd.type with
          | some fi => (match nths cs.toList fd.offset fi.size with
            | some vs => packV (isAggD fi.desc) vs
            | none => none)
          | none => none)
        | none => none)
      | _ => none)
    | _, _ => none
  | .convert src dst x => match T.get src, T.get dst, E.ev x with
    | some _, some j, some v => (match j.desc, v with
      | .int k, .int _ m => some (.int k (k.wrap m))
      | .string, .string s => some (.string s)
      | _, _ => none)
    | _, _, _ => none
  | .call c => match c.callee, c.args.toList, c.argTypes.toList with
    | .builtin .len, [x], [t] => (match T.get t, E.ev x with
      | some i, some v => (match i.desc, v with
        | .slice _, .slice _ m _ => some (.int .i64 (m : Int))
        | .string, .string s => some (.int .i64 (s.size : Int))
        | .array m _, _ => some (.int .i64 (m : Int))
        | _, _ => none)
      | _, _ => none)
    | _, _, _ => none
  | _ => none
end Go.Sx
