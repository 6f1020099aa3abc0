/- Contracts and plain laws for the proofs of this seat. Conditions: those written at each theorem. -/
import Derived.Test.YtlhbbpagjkjplaaDoorRune
import Derived.Lib.IndexAny
set_option linter.unusedVariables false
set_option linter.unusedSimpArgs false
/-! Quoted paths: plain functions. -/
namespace Go.Proofs.YtlhbbpagjkjplaaDoor
open Go.Lib

def oddB (c : UInt8) : Bool := c.toNat < 32 || c.toNat == 127 || c.toNat == 34 || c.toNat == 92
def plainB (l : By) : Bool := l.all (fun c => !oddB c) && !l.isEmpty && !(l.head? == some 32)
def octL (c : UInt8) : By := [92, UInt8.ofNat (48 + c.toNat / 64), UInt8.ofNat (48 + c.toNat / 8 % 8), UInt8.ofNat (48 + c.toNat % 8)]
def oneL (c : UInt8) : By := if c.toNat = 34 ∨ c.toNat = 92 then [92, c] else if c.toNat = 10 then [92, 110] else if c.toNat = 9 then [92, 116] else if 32 ≤ c.toNat ∧ c.toNat < 127 then [c] else octL c
def cleanB (l : By) : Bool := l.all (fun c => !(c.toNat == 32 || decide (127 < c.toNat)))
def bodyL (l : By) : By := l.flatMap oneL
def quoteL (l : By) : By := if plainB l && cleanB l then l else 34 :: (bodyL l ++ [34])

theorem oneL_length (c : UInt8) : 1 ≤ (oneL c).length ∧ (oneL c).length ≤ 4 := by
  unfold oneL octL; repeat' split
  all_goals simp
theorem bodyL_append (a b : By) : bodyL (a ++ b) = bodyL a ++ bodyL b := by simp [bodyL]
theorem bodyL_length : ∀ l : By, (bodyL l).length ≤ 4 * l.length
  | [] => by simp [bodyL]
  | c :: r => by
    have h1 := bodyL_length r
    have h2 := oneL_length c
    simp only [bodyL, List.flatMap_cons, List.length_append, List.length_cons] at *
    omega

/-- How long the text without quotes is that stands at the beginning. -/
def headLen (l : By) : Nat := if indexAny l [32, 10] = -1 then l.length else (indexAny l [32, 10]).toNat

theorem headLen_le (l : By) : headLen l ≤ l.length := by
  have : ∀ l : By, indexAny l [32, 10] < l.length ∨ indexAny l [32, 10] = -1 := by
    intro l
    induction l with
    | nil => right; rfl
    | cons b l ih =>
      unfold indexAny
      split
      · left; simp
      · split
        · right; rfl
        · rename_i h; have h' : indexAny l [32, 10] ≠ -1 := by simpa using h
          left; simp only [List.length_cons]; omega
  unfold headLen
  split
  · omega
  · have h1 := this l; have h2 := indexAny_ge [32, 10] l; omega

def plainR (l : By) : By × Int × Int := if quoteL (l.take (headLen l)) = l.take (headLen l) then (l.take (headLen l), (headLen l : Int), 0) else ([], 0, 4)

/-- Where the mark stands that ends a quoted text (counted from i on). -/
def endL : By → Nat → Option Nat
  | [], _ => none
  | [c], i => if c.toNat = 34 then some i else none
  | c :: d :: r, i => if c.toNat = 34 then some i else if c.toNat = 92 then endL r (i + 2) else endL (d :: r) (i + 1)

def octV (a b c : UInt8) : Option UInt8 :=
  if (48 ≤ a.toNat ∧ a.toNat ≤ 55) ∧ (48 ≤ b.toNat ∧ b.toNat ≤ 55) ∧ (48 ≤ c.toNat ∧ c.toNat ≤ 55) ∧ 64 * (a.toNat - 48) + 8 * (b.toNat - 48) + (c.toNat - 48) ≤ 255 then some (UInt8.ofNat (64 * (a.toNat - 48) + 8 * (b.toNat - 48) + (c.toNat - 48))) else none

/-- The byte that an escape stands for, and how long it is. -/
def takenL : By → Option (UInt8 × Nat)
  | [] => none
  | c :: r =>
    if c.toNat ≠ 92 then some (c, 1) else
    match r with
    | [] => none
    | d :: q =>
      if d.toNat = 34 ∨ d.toNat = 92 then some (d, 2) else if d.toNat = 110 then some (10, 2) else if d.toNat = 116 then some (9, 2) else
      match q with
      | e :: f :: _ => (octV d e f).map fun v => (v, 4)
      | _ => none

theorem takenL_pos (l : By) (c : UInt8) (k : Nat) (h : takenL l = some (c, k)) : 1 ≤ k ∧ k ≤ l.length ∧ k ≤ 4 := by
  unfold takenL at h
  repeat' split at h
  all_goals simp at h
  all_goals (try (obtain ⟨_, rfl⟩ := h))
  all_goals (try (obtain ⟨_, _, _, rfl⟩ := h))
  all_goals simp

/-- What escapes stand for, to the end. -/
def decB : Nat → By → Option By
  | 0, l => if l = [] then some [] else none
  | n + 1, l => if l = [] then some [] else match takenL l with
    | none => none
    | some (c, k) => (decB n (l.drop k)).map (c :: ·)

def unqC (l : By) (n : Nat) : Option By → By × Int × Int
  | none => ([], 0, 4)
  | some o => if quoteL o = l.take (n + 1) then (o, ((n + 1 : Nat) : Int), 0) else ([], 0, 4)

def unqR (l : By) : By × Int × Int :=
  if l.head? = some 34 then
    match endL (l.drop 1) 1 with
    | none => ([], 0, 3)
    | some n => unqC l n (decB l.length ((l.take n).drop 1))
  else plainR l
end Go.Proofs.YtlhbbpagjkjplaaDoor
