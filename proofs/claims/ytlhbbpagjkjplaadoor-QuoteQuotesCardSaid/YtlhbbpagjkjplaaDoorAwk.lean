/- Contracts and plain laws for the proofs of this seat. Conditions: those written at each theorem. -/
import Derived.Test.YtlhbbpagjkjplaaDoorPath
set_option linter.unusedVariables false
set_option linter.unusedSimpArgs false
namespace Go.Proofs.YtlhbbpagjkjplaaDoor
open Go.RowKit Go.Proofs

/-- A path of signs below 128. -/
theorem Tryd.qPath_ascii (s : ByteArray) (w : World) (hr : Tryd.Rdy w) (ha : (Lib.splitB ⟨#[47]⟩ 0 (Lib.countB s ⟨#[47]⟩) s).all (fun p => decide (p.size ≤ 1000) && p.data.toList.all (fun c => decide (c.toNat < 128))) = true) :
    Calls Tryd.prog 56 #[.string s] w fun e w' => e = .returned (.bool (pathB nameA s)) ∧ Below w.heap.size w w' := by
  refine Tryd.qPath nameA s w hr fun p hp w1 hr1 => ?_
  rw [List.all_eq_true] at ha
  have h := ha p hp
  rw [Bool.and_eq_true, List.all_eq_true] at h
  refine (Tryd.qname_ascii p w1 (by have := of_decide_eq_true h.1; omega) (fun c hc => of_decide_eq_true (h.2 c hc))).mono ?_
  rintro e w' ⟨rfl, rfl⟩
  exact ⟨rfl, Below.refl _ _⟩

theorem awk1 : pathB nameA ⟨#[97, 47, 98]⟩ = true := by decide
theorem awk2 : pathB nameA ⟨#[97, 47, 47, 98]⟩ = false := by decide
theorem awk3 : quoteL [97, 32, 98] = [34, 97, 32, 98, 34] := by decide

set_option maxHeartbeats 4000000 in
set_option maxRecDepth 100000 in
theorem Tryd.qawake (w : World) (hr : Tryd.Rdy w) :
    Calls Tryd.prog 20 #[] w fun e w' => e = .returned (.bool true) ∧ Below w.heap.size w w' := by
  have HR := Lib.hid hr
  clear hr
  go_enter Tryd.func20, Tryd.ntmps20
  go_wp2_with fail
  refine (Tryd.qPath_ascii _ _ HR.out (by decide)).mono ?_
  rintro e w1 ⟨rfl, hb1⟩
  rw [awk1]
  go_wp2_with fail
  refine (Tryd.qPath_ascii _ _ (HR.out.below hb1) (by decide)).mono ?_
  rintro e w2 ⟨rfl, hb2⟩
  rw [awk2]
  go_wp2_with fail
  refine (Tryd.QuoteB [97, 32, 98] _ (by decide) ((HR.out.below hb1).below hb2).1).mono ?_
  rintro e w3 ⟨rfl, hb3⟩
  rw [awk3]
  go_wp2
  go_ret
  have h12 := hb1.trans (hb2.mono hb1.size)
  exact ⟨rfl, h12.trans (hb3.mono h12.size)⟩
end Go.Proofs.YtlhbbpagjkjplaaDoor
