/- Contracts and plain laws for the proofs of this seat. Conditions: those written at each theorem. -/
import Derived.Test.YtlhbbpagjkjplaaDoorBackP
import Derived.Test.YtlhbbpagjkjplaaDoorAwk
set_option linter.unusedVariables false
set_option linter.unusedSimpArgs false
namespace Go.Proofs.YtlhbbpagjkjplaaDoor
open Go.RowKit Go.Proofs

set_option maxHeartbeats 8000000 in
set_option maxRecDepth 100000 in
theorem Tryd.QuoteBack_many (s more : ByteArray) (line : Bool) (t : ByteArray) (w : World) (hr : Tryd.Rdy w) (h : 800 < s.size ∨ 300 < more.size ∨ 800 < t.size) :
    Calls Tryd.prog 5 #[.string s, .string more, .bool line, .string t] w fun e w' => e = .returned (.bool true) ∧ Below w.heap.size w w' := by
  by_cases h1 : 800 < s.size
  · have e1 : (800 : Int) < (s.size : Int) := by omega
    clear h h1
    go_enter Tryd.func5, Tryd.ntmps5
    go_wp2_with fail
    refine (Tryd.qawake _ hr).mono ?_
    rintro e w1 ⟨rfl, hb1⟩
    go_wp2
    go_ret
    exact ⟨rfl, hb1⟩
  · have e1 : decide ((800 : Int) < (s.size : Int)) = false := by simp; omega
    by_cases h2 : 300 < more.size
    · have e2 : (300 : Int) < (more.size : Int) := by omega
      clear h h1 h2
      go_enter Tryd.func5, Tryd.ntmps5
      go_wp2_with fail
      refine (Tryd.qawake _ hr).mono ?_
      rintro e w1 ⟨rfl, hb1⟩
      go_wp2
      go_ret
      exact ⟨rfl, hb1⟩
    · have e2 : decide ((300 : Int) < (more.size : Int)) = false := by simp; omega
      have e3 : (800 : Int) < (t.size : Int) := by omega
      clear h h1 h2
      go_enter Tryd.func5, Tryd.ntmps5
      go_wp2_with fail
      refine (Tryd.qawake _ hr).mono ?_
      rintro e w1 ⟨rfl, hb1⟩
      go_wp2
      go_ret
      exact ⟨rfl, hb1⟩

theorem bodyL_ge : ∀ l : By, l.length ≤ (bodyL l).length
  | [] => Nat.le_refl _
  | c :: r => by
    have h1 := bodyL_ge r
    have h2 := oneL_length c
    show _ ≤ (oneL c ++ bodyL r).length
    rw [List.length_append, List.length_cons]; omega
theorem quoteL_ge (l : By) : l.length ≤ (quoteL l).length := by
  have := bodyL_ge l
  unfold quoteL; split
  · exact Nat.le_refl _
  · simp only [List.length_cons, List.length_append, List.length_nil]; omega

set_option maxHeartbeats 8000000 in
set_option maxRecDepth 100000 in
theorem Tryd.QuoteBack_few (s more : ByteArray) (line : Bool) (t : ByteArray) (w : World) (hr : Tryd.Rdy w) (h1 : s.size ≤ 800) (h2 : more.size ≤ 300) (h3 : t.size ≤ 800) :
    Calls Tryd.prog 5 #[.string s, .string more, .bool line, .string t] w fun e w' => e = .returned (.bool true) ∧ Below w.heap.size w w' := by
  have e1 : ¬ (800 : Int) < (s.size : Int) := by omega
  have e2 : ¬ (300 : Int) < (more.size : Int) := by omega
  have e3 : ¬ (800 : Int) < (t.size : Int) := by omega
  have HR := Lib.hid hr
  clear hr
  go_enter Tryd.func5, Tryd.ntmps5
  go_wp2_with fail
  refine (Tryd.Quote s _ (by omega) HR.out.1).mono ?_
  rintro e w1 ⟨rfl, hb1⟩
  obtain ⟨q, hq⟩ : ∃ q, quoteL s.data.toList = q := ⟨_, rfl⟩
  rw [hq]
  have hql : q.length ≤ 3202 := by
    have := bodyL_length s.data.toList
    have h5 := size_dl s
    rw [← hq]; unfold quoteL; split
    · omega
    · simp only [List.length_cons, List.length_append, List.length_nil]; omega
  have hcat : ∀ b : UInt8, (⟨q.toArray⟩ ++ (⟨#[b]⟩ ++ more) : ByteArray).data.toList = q ++ b :: more.data.toList := by intro b; simp [ByteArray.data_append]
  have hcl : ∀ b : UInt8, (⟨q.toArray⟩ ++ (⟨#[b]⟩ ++ more) : ByteArray).size ≤ 1000000000 := by
    intro b; rw [size_dl, hcat, List.length_append, List.length_cons, ← size_dl]; omega
  have HC := Lib.hid hcat
  have HL := Lib.hid hcl
  clear hcat hcl
  have hback : ∀ b : UInt8, b ∈ ([32, 10] : By) → unqR (q ++ b :: more.data.toList) = (s.data.toList, (q.length : Int), 0) := by
    intro b hb; rw [← hq]; exact unq_quote _ _ b hb
  have HQ := Lib.hid hq
  have HB := Lib.hid hback
  clear hq hback
  have hss : (⟨s.data.toList.toArray⟩ : ByteArray) = s := by cases s; simp
  have HS := Lib.hid hss
  clear hss
  obtain ⟨y, m, f, hu⟩ : ∃ y m f, unqR t.data.toList = (y, m, f) := ⟨_, _, _, rfl⟩
  have hy : f = 0 → ∃ n : Nat, m = (n : Int) ∧ n ≤ t.size ∧ quoteL y = t.data.toList.take n ∧ y.length ≤ 1000 := by
    intro hf
    obtain ⟨n, g1, g2, g3⟩ := quote_unq t.data.toList (by rw [hu]; exact hf)
    rw [hu] at g1 g3
    refine ⟨n, g1, g2, g3, ?_⟩
    have g4 := quoteL_ge y
    have g5 := size_dl t
    rw [g3, List.length_take] at g4
    omega
  have HU := Lib.hid hu
  have HY := Lib.hid hy
  clear hu hy
  have key : ∀ (b : UInt8), b ∈ ([32, 10] : By) → ∀ w1 : World, Below w.heap.size w w1 → Calls Tryd.prog 21 #[.string (⟨q.toArray⟩ ++ (⟨#[b]⟩ ++ more))] w1 fun e w' => e = .returned (.tuple #[.string s, .int .i64 (q.length : Int), .int .i64 0]) ∧ Below w.heap.size w w' := by
    intro b hb w1 hb1
    have h := Tryd.Unquote (⟨q.toArray⟩ ++ (⟨#[b]⟩ ++ more)) w1 (HL.out b) (HR.out.below hb1).1
    rw [HC.out b, HB.out b hb, HS.out] at h
    exact h.mono fun _ _ ⟨g1, g2⟩ => ⟨g1, hb1.trans (g2.mono hb1.size)⟩
  have KEY := Lib.hid key
  clear key
  cases line with
  | true =>
    go_wp2_with fail
    refine (KEY.out 10 (by decide) _ hb1).mono ?_
    rintro e w2 ⟨rfl, hb2⟩
    go_wp2_with fail
    refine (Tryd.qawake _ (HR.out.below hb2)).mono ?_
    rintro e w3 ⟨rfl, hb3⟩
    go_wp2_with fail
    refine (Tryd.Unquote t _ (by omega) ((HR.out.below hb2).below hb3).1).mono ?_
    rintro e w4 ⟨rfl, hb4⟩
    rw [HU.out]
    have hb5 := hb2.trans (hb3.mono hb2.size)
    have hb6 := hb5.trans (hb4.mono hb5.size)
    by_cases hf : f = 0
    · obtain ⟨n, rfl, hn, hq2, hyl⟩ := HY.out hf
      subst hf
      have n1 : (0 : Int) ≤ (n : Int) := by omega
      have n2 : (n : Int) ≤ (t.size : Int) := by omega
      have hqq : (quoteL y == (t.extract 0 n).toList) = true := by rw [hq2]; simp [toList_dl, Lib.extract_data]
      have HR6 := Lib.hid (HR.out.below hb6)
      clear hq2 HY HC HL HQ HB KEY HU HR
      go_upto_region 11 with (fail)
      refine region_below (by kernel_rfl) (by kernel_rfl) ?_
      repeat (refine wpQuiet_step (fun K hK => ?_); go_simp; first | (refine hK _ ?_; clear hK K) | (refine ⟨_, fun _ _ => (by rw [if_pos (by omega)]; exact ⟨rfl, rfl⟩), hK _ ?_⟩; clear hK K) | (refine ⟨_, fun _ _ => rfl, hK _ ?_⟩; clear hK K) | (apply Exists.intro; refine ⟨fun _ hbq => ?_, hK _ ?_⟩; (go_at_call 23; exact below_step hbq (Tryd.QuoteB y _ (by omega) (Utf8Tabs_below HR6.out.1 hbq))); clear hK K))
      refine wpQuiet_nil ?_
      intro w5 hb7
      go_wp2
      go_ret
      exact ⟨rfl, hb6.trans (hb7.mono hb6.size)⟩
    · have ef : (f != 0) = true := by simpa using hf
      have ef2 : (f == 0) = false := beqI_f hf
      clear HY HC HL HQ HB KEY HU HR hf
      go_upto_region 11 with (fail)
      go_quiet (fail)
      go_wp2
      go_ret
      exact ⟨rfl, ⟨hb6.os, hb6.tape, hb6.output, hb6.size, hb6.block⟩⟩
  | false =>
    go_wp2_with fail
    refine (KEY.out 32 (by decide) _ hb1).mono ?_
    rintro e w2 ⟨rfl, hb2⟩
    go_wp2_with fail
    refine (Tryd.qawake _ (HR.out.below hb2)).mono ?_
    rintro e w3 ⟨rfl, hb3⟩
    go_wp2_with fail
    refine (Tryd.Unquote t _ (by omega) ((HR.out.below hb2).below hb3).1).mono ?_
    rintro e w4 ⟨rfl, hb4⟩
    rw [HU.out]
    have hb5 := hb2.trans (hb3.mono hb2.size)
    have hb6 := hb5.trans (hb4.mono hb5.size)
    by_cases hf : f = 0
    · obtain ⟨n, rfl, hn, hq2, hyl⟩ := HY.out hf
      subst hf
      have n1 : (0 : Int) ≤ (n : Int) := by omega
      have n2 : (n : Int) ≤ (t.size : Int) := by omega
      have hqq : (quoteL y == (t.extract 0 n).toList) = true := by rw [hq2]; simp [toList_dl, Lib.extract_data]
      have HR6 := Lib.hid (HR.out.below hb6)
      clear hq2 HY HC HL HQ HB KEY HU HR
      go_upto_region 11 with (fail)
      refine region_below (by kernel_rfl) (by kernel_rfl) ?_
      repeat (refine wpQuiet_step (fun K hK => ?_); go_simp; first | (refine hK _ ?_; clear hK K) | (refine ⟨_, fun _ _ => (by rw [if_pos (by omega)]; exact ⟨rfl, rfl⟩), hK _ ?_⟩; clear hK K) | (refine ⟨_, fun _ _ => rfl, hK _ ?_⟩; clear hK K) | (apply Exists.intro; refine ⟨fun _ hbq => ?_, hK _ ?_⟩; (go_at_call 23; exact below_step hbq (Tryd.QuoteB y _ (by omega) (Utf8Tabs_below HR6.out.1 hbq))); clear hK K))
      refine wpQuiet_nil ?_
      intro w5 hb7
      go_wp2
      go_ret
      exact ⟨rfl, hb6.trans (hb7.mono hb6.size)⟩
    · have ef : (f != 0) = true := by simpa using hf
      have ef2 : (f == 0) = false := beqI_f hf
      clear HY HC HL HQ HB KEY HU HR hf
      go_upto_region 11 with (fail)
      go_quiet (fail)
      go_wp2
      go_ret
      exact ⟨rfl, ⟨hb6.os, hb6.tape, hb6.output, hb6.size, hb6.block⟩⟩

/-- The law's function answers true, whatever the input. -/
theorem Tryd.QuoteBack_law (s more : ByteArray) (line : Bool) (t : ByteArray) (w : World) (hr : Tryd.Rdy w) :
    Calls Tryd.prog 5 #[.string s, .string more, .bool line, .string t] w fun e w' => e = .returned (.bool true) ∧ Below w.heap.size w w' := by
  by_cases h : 800 < s.size ∨ 300 < more.size ∨ 800 < t.size
  · exact Tryd.QuoteBack_many s more line t w hr h
  · exact Tryd.QuoteBack_few s more line t w hr (by omega) (by omega) (by omega)
end Go.Proofs.YtlhbbpagjkjplaaDoor
