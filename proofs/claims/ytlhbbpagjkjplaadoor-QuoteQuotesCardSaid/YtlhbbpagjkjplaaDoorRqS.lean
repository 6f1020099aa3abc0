/- Plain laws: the steps of the reference's reading. Conditions: those written at each theorem. -/
import Derived.Test.YtlhbbpagjkjplaaDoorRqP
import Derived.Test.YtlhbbpagjkjplaaDoorRq2
set_option linter.unusedVariables false
set_option linter.unusedSimpArgs false
namespace Go.Proofs.YtlhbbpagjkjplaaDoor
open Go.Lib

theorem refD_c1 (n i : Nat) (c : UInt8) (r : By) (h : i < n) (hc : c.toNat ≠ 92) : refD n n i (c :: r) = c :: refD n n (i + 1) r := by
  obtain ⟨m, rfl⟩ : ∃ m, n = m + 1 := ⟨n - 1, by omega⟩
  conv => lhs; unfold refD
  rw [if_neg (by omega)]
  dsimp only
  rw [if_pos hc, refD_fuel _ m (m + 1) _ _ (by omega) (by omega)]
theorem refD_c2 (n i : Nat) (c d : UInt8) (q : By) (h : i < n) (hc : c.toNat = 92) (hd : d.toNat = 110) : refD n n i (c :: d :: q) = 10 :: refD n n (i + 2) q := by
  obtain ⟨m, rfl⟩ : ∃ m, n = m + 1 := ⟨n - 1, by omega⟩
  conv => lhs; unfold refD
  rw [if_neg (by omega)]
  dsimp only
  rw [if_neg (by omega), if_pos hd, refD_fuel _ m (m + 1) _ _ (by omega) (by omega)]
theorem refD_c3 (n i : Nat) (c d : UInt8) (q : By) (h : i < n) (hc : c.toNat = 92) (hd : d.toNat = 116) : refD n n i (c :: d :: q) = 9 :: refD n n (i + 2) q := by
  obtain ⟨m, rfl⟩ : ∃ m, n = m + 1 := ⟨n - 1, by omega⟩
  conv => lhs; unfold refD
  rw [if_neg (by omega)]
  dsimp only
  rw [if_neg (by omega), if_neg (by omega), if_pos hd, refD_fuel _ m (m + 1) _ _ (by omega) (by omega)]
theorem refD_c4 (n i : Nat) (c d : UInt8) (q : By) (h : i < n) (hc : c.toNat = 92) (hd : d.toNat ≠ 110 ∧ d.toNat ≠ 116) (ho : (48 ≤ d.toNat ∧ d.toNat ≤ 51) ∧ i + 3 < n ∧ oct2 q = true) : refD n n i (c :: d :: q) = oct2V d q :: refD n n (i + 4) (q.drop 2) := by
  obtain ⟨m, rfl⟩ : ∃ m, n = m + 1 := ⟨n - 1, by omega⟩
  conv => lhs; unfold refD
  rw [if_neg (by omega)]
  dsimp only
  rw [if_neg (by omega), if_neg hd.1, if_neg hd.2, if_pos ho, refD_fuel _ m (m + 1) _ _ (by omega) (by omega)]
theorem refD_c5 (n i : Nat) (c d : UInt8) (q : By) (h : i < n) (hc : c.toNat = 92) (hd : d.toNat ≠ 110 ∧ d.toNat ≠ 116) (ho : ¬ ((48 ≤ d.toNat ∧ d.toNat ≤ 51) ∧ i + 3 < n ∧ oct2 q = true)) : refD n n i (c :: d :: q) = d :: refD n n (i + 2) q := by
  obtain ⟨m, rfl⟩ : ∃ m, n = m + 1 := ⟨n - 1, by omega⟩
  conv => lhs; unfold refD
  rw [if_neg (by omega)]
  dsimp only
  rw [if_neg (by omega), if_neg hd.1, if_neg hd.2, if_neg ho, refD_fuel _ m (m + 1) _ _ (by omega) (by omega)]

theorem drop_at (s : ByteArray) (k : Nat) (h : k < s.size) : s.data.toList.drop k = s[k]'h :: s.data.toList.drop (k + 1) := by
  rw [get_dl]; exact List.drop_eq_getElem_cons h
theorem or_octF : ∀ a : Fin 4, ∀ b c : Fin 8, bits .or .u8 (bits .or .u8 ((a.val * 64 : Nat) : Int) ((b.val * 8 : Nat) : Int)) ((c.val : Nat) : Int) = ((64 * a.val + 8 * b.val + c.val : Nat) : Int) := by decide
theorem or_oct (d x y : Nat) (h1 : 48 ≤ d ∧ d ≤ 51) (h2 : 48 ≤ x ∧ x ≤ 55) (h3 : 48 ≤ y ∧ y ≤ 55) :
    bits .or .u8 (bits .or .u8 (IntKind.u8.wrap (IntKind.u8.wrap ((d : Int) - 48) * 64)) (IntKind.u8.wrap (IntKind.u8.wrap ((x : Int) - 48) * 8))) (IntKind.u8.wrap ((y : Int) - 48)) = ((64 * (d - 48) + 8 * (x - 48) + (y - 48) : Nat) : Int) := by
  rw [IntWalk.u8_in _ (by omega : (0 : Int) ≤ (d : Int) - 48 ∧ (d : Int) - 48 ≤ 255), IntWalk.u8_in _ (by omega : (0 : Int) ≤ (x : Int) - 48 ∧ (x : Int) - 48 ≤ 255), IntWalk.u8_in _ (by omega : (0 : Int) ≤ (y : Int) - 48 ∧ (y : Int) - 48 ≤ 255),
    IntWalk.u8_in _ (by omega : (0 : Int) ≤ ((d : Int) - 48) * 64 ∧ ((d : Int) - 48) * 64 ≤ 255), IntWalk.u8_in _ (by omega : (0 : Int) ≤ ((x : Int) - 48) * 8 ∧ ((x : Int) - 48) * 8 ≤ 255)]
  have h := or_octF ⟨d - 48, by omega⟩ ⟨x - 48, by omega⟩ ⟨y - 48, by omega⟩
  dsimp only at h
  rw [show ((d : Int) - 48) * 64 = (((d - 48) * 64 : Nat) : Int) by omega, show ((x : Int) - 48) * 8 = (((x - 48) * 8 : Nat) : Int) by omega, show ((y : Int) - 48) = ((y - 48 : Nat) : Int) by omega]
  exact h

def refE (l : By) : Option Nat → By × Int × Int
  | none => ([], 0, 3)
  | some n => refC l n
theorem unqR_ref (l : By) (h : l.head? = some 34) : unqR l = refE l (endL (l.drop 1) 1) := by
  unfold unqR
  rw [if_pos h]
  cases hR : endL (l.drop 1) 1 with
  | none => rfl
  | some n =>
    obtain ⟨g1, g2⟩ := endL_shift _ _ _ (Nat.le_refl _) n hR
    rw [List.length_drop] at g2
    show _ = refC l n
    rw [refC_eq _ n h g1 (by omega)]
end Go.Proofs.YtlhbbpagjkjplaaDoor
