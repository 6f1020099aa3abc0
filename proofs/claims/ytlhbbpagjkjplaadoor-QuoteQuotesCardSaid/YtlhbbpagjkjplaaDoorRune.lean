/- Contracts and plain laws for the proofs of this seat. Conditions: those written at each theorem. -/
import Derived.Lib.TrimUEq
import Derived.Lib.ValidU
import Derived.Shelf.GgClosure.StringsIndexFunc
set_option linter.unusedVariables false
set_option linter.unusedSimpArgs false
/-! Runes and bytes: plain facts on the model's decoder. -/
namespace Go.Proofs.YtlhbbpagjkjplaaDoor
open Go.Lib

abbrev By := List UInt8

theorem decL_ascii (c : UInt8) (r : By) (h : c.toNat < 128) : decodeL (c :: r) = (c.toNat, 1) := by
  rw [decodeL_N]; unfold decodeN; simp [List.getD, h]

def DecOk (n b0 b1 b2 b3 : Nat) (p : Nat × Nat) : Prop :=
  128 ≤ p.1 ∧ 1 ≤ p.2 ∧ p.2 ≤ n ∧ p.2 ≤ 4 ∧ (2 ≤ p.2 → 128 ≤ b1) ∧ (3 ≤ p.2 → 128 ≤ b2) ∧ (4 ≤ p.2 → 128 ≤ b3)
theorem DecOk.ite {n b0 b1 b2 b3 : Nat} {c : Prop} [Decidable c] {p q : Nat × Nat} (h1 : c → DecOk n b0 b1 b2 b3 p) (h2 : ¬ c → DecOk n b0 b1 b2 b3 q) : DecOk n b0 b1 b2 b3 (if c then p else q) := by
  by_cases h : c
  · rw [if_pos h]; exact h1 h
  · rw [if_neg h]; exact h2 h
theorem decN_ok (n b0 b1 b2 b3 : Nat) (hn : 1 ≤ n) (h : 128 ≤ b0) : DecOk n b0 b1 b2 b3 (decodeN n b0 b1 b2 b3) := by
  have bad : DecOk n b0 b1 b2 b3 (65533, 1) := ⟨by omega, by omega, by dsimp only; omega, by dsimp only; omega, fun h => by dsimp only at h; omega, fun h => by dsimp only at h; omega, fun h => by dsimp only at h; omega⟩
  unfold decodeN
  refine DecOk.ite (fun h' => by omega) fun _ => DecOk.ite (fun h2 => DecOk.ite (fun h3 => ?_) fun _ => bad) fun _ => DecOk.ite (fun h2 => DecOk.ite (fun h3 => ?_) fun _ => bad) fun _ => DecOk.ite (fun h2 => DecOk.ite (fun h3 => ?_) fun _ => bad) fun _ => bad
  all_goals exact ⟨by dsimp only; omega, by dsimp only; omega, by dsimp only; omega, by dsimp only; omega, fun h => by dsimp only at h; omega, fun h => by dsimp only at h; omega, fun h => by dsimp only at h; omega⟩

theorem mem_take_getD (l : By) (k : Nat) (x : UInt8) (h : x ∈ l.take k) : ∃ j, j < k ∧ j < l.length ∧ x = l.getD j 0 := by
  obtain ⟨j, hj, rfl⟩ := List.getElem_of_mem h
  rw [List.length_take] at hj
  exact ⟨j, by omega, by omega, by rw [List.getElem_take]; simp [List.getD, List.getElem?_eq_getElem (show j < l.length by omega)]⟩

theorem decL_high (c : UInt8) (r : By) (h : 128 ≤ c.toNat) :
    128 ≤ (decodeL (c :: r)).1 ∧ 1 ≤ (decodeL (c :: r)).2 ∧ (decodeL (c :: r)).2 ≤ (c :: r).length ∧ ∀ x ∈ (c :: r).take (decodeL (c :: r)).2, 128 ≤ x.toNat := by
  obtain ⟨h1, h2, h3, h4, h5, h6, h7⟩ := decN_ok (c :: r).length ((c :: r).getD 0 0).toNat ((c :: r).getD 1 0).toNat ((c :: r).getD 2 0).toNat ((c :: r).getD 3 0).toNat (by simp) h
  rw [← decodeL_N] at h1 h2 h3 h4 h5 h6 h7
  refine ⟨h1, h2, h3, fun x hx => ?_⟩
  obtain ⟨j, hj, _, rfl⟩ := mem_take_getD _ _ _ hx
  match j, hj with
  | 0, _ => exact h
  | 1, hj => exact h5 (by omega)
  | 2, hj => exact h6 (by omega)
  | 3, hj => exact h7 (by omega)
  | j + 4, hj => omega
theorem drop_cons_of_lt (l : By) (pos : Nat) (h : pos < l.length) : ∃ c r, l.drop pos = c :: r ∧ r = l.drop (pos + 1) ∧ c = l.getD pos 0 := by
  refine ⟨l[pos], l.drop (pos + 1), List.drop_eq_getElem_cons h, rfl, ?_⟩
  simp [List.getD, List.getElem?_eq_getElem h]

/-- A test on runes that asks of a byte below 128 what q asks, and is the same for all others: it is q's, byte by byte. -/
theorem idxFunc_any (p : Nat → Bool) (q : UInt8 → Bool) (b : Bool) (hq : ∀ c : UInt8, c.toNat < 128 → p c.toNat = q c) (hp : ∀ r, 128 ≤ r → p r = b) (hb : ∀ c : UInt8, 128 ≤ c.toNat → q c = b) (s : ByteArray) :
    decide (0 ≤ Lib.idxFunc p true s) = s.data.toList.any q := by
  have key : ∀ (f pos : Nat), s.size ≤ pos + f → ((0 ≤ Lib.idxFuncFrom p true s f pos) ↔ (s.data.toList.drop pos).any q = true) := by
    intro f
    induction f with
    | zero =>
      intro pos h
      have : s.data.toList.drop pos = [] := List.drop_eq_nil_of_le (by rw [← size_eq]; omega)
      simp [Lib.idxFuncFrom, this]
    | succ f ih =>
      intro pos h
      unfold Lib.idxFuncFrom
      by_cases hlt : pos < s.size
      · rw [if_pos hlt]
        obtain ⟨c, r, he, hr, hc⟩ := drop_cons_of_lt s.data.toList pos (by rw [← size_eq]; exact hlt)
        rw [← decodeL_drop, he]
        by_cases ha : c.toNat < 128
        · rw [decL_ascii c r ha]
          simp only [List.any_cons]
          by_cases hpc : p c.toNat = true
          · rw [if_pos hpc]
            rw [hq c ha] at hpc
            simp [hpc]
          · rw [if_neg hpc]
            rw [hq c ha] at hpc
            rw [ih (pos + 1) (by omega), hr]
            simp [hpc]
        · obtain ⟨h1, h2, h3, h4⟩ := decL_high c r (by omega)
          rw [hp _ h1]
          cases b with
          | true => simp [hb c (by omega)]
          | false =>
            rw [if_neg (by simp), ih _ (by omega), ← List.drop_drop, he]
            conv => rhs; rw [← List.take_append_drop (decodeL (c :: r)).2 (c :: r)]
            rw [List.any_append]
            have : ((c :: r).take (decodeL (c :: r)).2).any q = false := by
              rw [List.any_eq_false]
              intro x hx
              rw [hb x (h4 x hx)]; simp
            rw [this]; simp
      · rw [if_neg hlt]
        have : s.data.toList.drop pos = [] := List.drop_eq_nil_of_le (by rw [← size_eq]; omega)
        simp [this]
  have := key s.size 0 (by omega)
  rw [List.drop_zero] at this
  unfold Lib.idxFunc
  rw [Bool.eq_iff_iff, decide_eq_true_iff]
  exact this
end Go.Proofs.YtlhbbpagjkjplaaDoor
