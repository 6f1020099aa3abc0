/- The law of quoting: what its function answers. Conditions: those written at each theorem. -/
import Derived.Test.YtlhbbpagjkjplaaDoorRu2
import Derived.Test.YtlhbbpagjkjplaaDoorAwk
set_option linter.unusedVariables false
set_option linter.unusedSimpArgs false
namespace Go.Proofs.YtlhbbpagjkjplaaDoor
open Go.RowKit Go.Proofs

set_option maxHeartbeats 8000000 in
set_option maxRecDepth 100000 in
theorem Tryd.QuoteQuotes_law (s t : ByteArray) (w : World) (hr : Tryd.Rdy w) :
    Calls Tryd.prog 4 #[.string s, .string t] w fun e w' => e = .returned (.bool true) ∧ Below w.heap.size w w' := by
  by_cases h1 : 1000 < s.size
  · have e1 : (1000 : Int) < (s.size : Int) := by omega
    clear h1
    go_enter Tryd.func4, Tryd.ntmps4
    go_wp2_with fail
    refine (Tryd.qawake _ hr).mono ?_
    rintro e w1 ⟨rfl, hb1⟩
    go_wp2
    go_ret
    exact ⟨rfl, hb1⟩
  · have e1 : decide ((1000 : Int) < (s.size : Int)) = false := by simp; omega
    by_cases h2 : 1000 < t.size
    · have e2 : (1000 : Int) < (t.size : Int) := by omega
      clear h1 h2
      go_enter Tryd.func4, Tryd.ntmps4
      go_wp2_with fail
      refine (Tryd.qawake _ hr).mono ?_
      rintro e w1 ⟨rfl, hb1⟩
      go_wp2
      go_ret
      exact ⟨rfl, hb1⟩
    · have e2 : ¬ (1000 : Int) < (t.size : Int) := by omega
      have hs : s.size ≤ 1000 := by omega
      have ht : t.size ≤ 1000 := by omega
      have HR := Lib.hid hr
      obtain ⟨y, m, f, hu⟩ : ∃ y m f, unqR t.data.toList = (y, m, f) := ⟨_, _, _, rfl⟩
      have HU := Lib.hid hu
      obtain ⟨q, hq⟩ : ∃ q, quoteL s.data.toList = q := ⟨_, rfl⟩
      have HQ := Lib.hid hq
      clear h1 h2 hr hu hq
      go_enter Tryd.func4, Tryd.ntmps4
      go_wp2_with fail
      refine (Tryd.Unquote t _ (by omega) HR.out.1).mono ?_
      rintro e w1 ⟨rfl, hb1⟩
      rw [HU.out]
      go_wp2_with fail
      refine (Tryd.rUnquote t _ (by omega)).mono ?_
      rintro e w2 ⟨rfl, hb2⟩
      rw [HU.out]
      have hb2' := hb1.trans (hb2.mono hb1.size)
      go_wp2_with fail
      refine (Tryd.qawake _ (HR.out.below hb2')).mono ?_
      rintro e w3 ⟨rfl, hb3⟩
      have hb3' := hb2'.trans (hb3.mono hb2'.size)
      go_wp2_with fail
      refine (Tryd.Quote s _ (by omega) (HR.out.below hb3').1).mono ?_
      rintro e w4 ⟨rfl, hb4⟩
      rw [HQ.out]
      have hb4' := hb3'.trans (hb4.mono hb3'.size)
      go_wp2_with fail
      refine (Tryd.rQuote s _ (by omega)).mono ?_
      rintro e w5 ⟨rfl, hb5⟩
      rw [HQ.out]
      have hb5' := hb4'.trans (hb5.mono hb4'.size)
      go_wp2
      go_ret
      exact ⟨by simp, hb5'⟩
end Go.Proofs.YtlhbbpagjkjplaaDoor
