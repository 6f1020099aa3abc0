/- Contracts and plain laws for the proofs of this seat. Conditions: those written at each theorem. -/
import Derived.Test.YtlhbbpagjkjplaaDoorUnq2
set_option linter.unusedVariables false
set_option linter.unusedSimpArgs false
/-! What is quoted is read again: plain. -/
namespace Go.Proofs.YtlhbbpagjkjplaaDoor
open Go.Lib

theorem endL_cons (c : UInt8) (x : By) (i : Nat) (hx : x ≠ []) (h1 : c.toNat ≠ 34) (h2 : c.toNat ≠ 92) : endL (c :: x) i = endL x (i + 1) := by
  cases x with
  | nil => exact absurd rfl hx
  | cons d r => conv => lhs; unfold endL
                rw [if_neg h1, if_neg h2]
theorem endL_esc (d : UInt8) (x : By) (i : Nat) : endL (92 :: d :: x) i = endL x (i + 2) := by
  conv => lhs; unfold endL
  rw [if_neg (by decide), if_pos (by decide)]
theorem endL_mark (x : By) (i : Nat) : endL (34 :: x) i = some i := by
  cases x with
  | nil => unfold endL; rw [if_pos (by decide)]
  | cons d r => unfold endL; rw [if_pos (by decide)]
theorem dig_n (n : Nat) (h : n < 8) : (UInt8.ofNat (48 + n)).toNat = 48 + n := by
  rw [UInt8.toNat_ofNat_of_lt' (show _ < 256 by omega)]
theorem endL_one (c : UInt8) (x : By) (i : Nat) (hx : x ≠ []) : endL (oneL c ++ x) i = endL x (i + (oneL c).length) := by
  have hc := c.toNat_lt
  unfold oneL
  split
  · exact endL_esc c x i
  · rename_i h1
    split
    · exact endL_esc 110 x i
    · split
      · exact endL_esc 116 x i
      · split
        · exact endL_cons c x i hx (by omega) (by omega)
        · have d1 := dig_n (c.toNat / 8 % 8) (by omega)
          have d2 := dig_n (c.toNat % 8) (by omega)
          show endL (92 :: _ :: _ :: _ :: x) i = _
          rw [endL_esc, endL_cons _ _ _ (by simp) (by omega) (by omega), endL_cons _ _ _ hx (by omega) (by omega)]
          rfl
theorem endL_body : ∀ (s rest : By) (i : Nat), endL (bodyL s ++ 34 :: rest) i = some (i + (bodyL s).length)
  | [], rest, i => by show endL (34 :: rest) i = _; rw [endL_mark]; rfl
  | c :: s, rest, i => by
    have h := endL_body s rest (i + (oneL c).length)
    show endL (oneL c ++ bodyL s ++ 34 :: rest) i = _
    rw [List.append_assoc, endL_one _ _ _ (by simp), h]
    congr 1
    show _ = i + (oneL c ++ bodyL s).length
    rw [List.length_append]; omega
theorem taken_one (c : UInt8) (x : By) : takenL (oneL c ++ x) = some (c, (oneL c).length) := by
  have hc := c.toNat_lt
  unfold oneL
  split
  · rename_i h
    show takenL (92 :: c :: x) = _
    unfold takenL
    dsimp only
    rw [if_neg (by decide), if_pos h]; rfl
  · rename_i h1
    split
    · rename_i h
      obtain rfl : c = 10 := UInt8.toNat_inj.1 h
      show takenL (92 :: 110 :: x) = _
      unfold takenL
      dsimp only
      rw [if_neg (by decide), if_neg (by decide), if_pos (by decide)]; rfl
    · split
      · rename_i h
        obtain rfl : c = 9 := UInt8.toNat_inj.1 h
        show takenL (92 :: 116 :: x) = _
        unfold takenL
        dsimp only
        rw [if_neg (by decide), if_neg (by decide), if_neg (by decide), if_pos (by decide)]; rfl
      · split
        · show takenL (c :: x) = _
          unfold takenL
          dsimp only
          rw [if_pos (by omega)]; rfl
        · have d0 := dig_n (c.toNat / 64) (by omega)
          have d1 := dig_n (c.toNat / 8 % 8) (by omega)
          have d2 := dig_n (c.toNat % 8) (by omega)
          show takenL (92 :: _ :: _ :: _ :: x) = _
          unfold takenL
          dsimp only
          rw [if_neg (by decide), if_neg (by rw [d0]; omega), if_neg (by rw [d0]; omega), if_neg (by rw [d0]; omega)]
          unfold octV
          rw [d0, d1, d2, if_pos (by omega)]
          show some (_, 4) = some (c, 4)
          congr 2
          rw [show 64 * (48 + c.toNat / 64 - 48) + 8 * (48 + c.toNat / 8 % 8 - 48) + (48 + c.toNat % 8 - 48) = c.toNat by omega]
          exact UInt8.ofNat_toNat
theorem dec_body : ∀ s : By, decB (bodyL s).length (bodyL s) = some s
  | [] => rfl
  | c :: s => by
    have h := dec_body s
    show decB (oneL c ++ bodyL s).length (oneL c ++ bodyL s) = _
    have h1 := oneL_length c
    rw [decB_step _ (by intro e; have := congrArg List.length e; rw [List.length_append, List.length_nil] at this; omega) c _ (taken_one c (bodyL s)), List.drop_left, h]
    rfl

theorem idx_clean (set : By) (b : UInt8) (rest : By) (hb : b ∈ set) : ∀ s : By, (∀ c ∈ s, c ∉ set) → indexAny (s ++ b :: rest) set = s.length := by
  intro s
  induction s with
  | nil => intro _; show indexAny (b :: rest) set = _; unfold indexAny; rw [if_pos (by simpa using hb)]; rfl
  | cons c s ih =>
    intro h
    have h1 := ih (fun x hx => h x (List.mem_cons_of_mem _ hx))
    have h2 := h c (List.mem_cons_self ..)
    show indexAny (c :: (s ++ b :: rest)) set = _
    unfold indexAny
    rw [if_neg (by simpa using h2), h1, if_neg (by simp)]
    simp

theorem plain_cleans (s : By) (h : (plainB s && cleanB s) = true) : ∀ c ∈ s, c ∉ ([32, 10] : By) := by
  intro c hc hm
  rw [Bool.and_eq_true] at h
  obtain ⟨h1, h2⟩ := h
  unfold plainB at h1
  rw [Bool.and_eq_true, Bool.and_eq_true, List.all_eq_true] at h1
  have h3 := h1.1.1 c hc
  unfold cleanB at h2
  rw [List.all_eq_true] at h2
  have h4 := h2 c hc
  simp only [List.mem_cons, List.not_mem_nil, or_false] at hm
  rcases hm with rfl | rfl
  · exact absurd h4 (by decide)
  · exact absurd h3 (by decide)
theorem plain_head (s : By) (h : (plainB s && cleanB s) = true) (x : By) : (s ++ x).head? ≠ some 34 := by
  rw [Bool.and_eq_true] at h
  obtain ⟨h1, h2⟩ := h
  unfold plainB at h1
  rw [Bool.and_eq_true, Bool.and_eq_true, List.all_eq_true] at h1
  cases s with
  | nil => exact absurd h1.1.2 (by decide)
  | cons c s =>
    intro e
    have h3 := h1.1.1 c (List.mem_cons_self ..)
    simp only [List.cons_append, List.head?_cons, Option.some.injEq] at e
    subst e
    exact absurd h3 (by decide)

/-- What is quoted is read again, whatever stands behind a blank or an end of line. -/
theorem unq_quote (s more : By) (b : UInt8) (hb : b ∈ ([32, 10] : By)) : unqR (quoteL s ++ b :: more) = (s, ((quoteL s).length : Int), 0) := by
  by_cases h : (plainB s && cleanB s) = true
  · have hq : quoteL s = s := by unfold quoteL; rw [if_pos h]
    rw [hq]
    unfold unqR
    rw [if_neg (plain_head s h _)]
    have hi := idx_clean [32, 10] b more hb s (plain_cleans s h)
    have hh : headLen (s ++ b :: more) = s.length := by unfold headLen; rw [hi, if_neg (by omega)]; rfl
    unfold plainR
    rw [hh, List.take_left, if_pos hq]
  · have hq : quoteL s = 34 :: (bodyL s ++ [34]) := by unfold quoteL; rw [if_neg h]
    have hl : quoteL s ++ b :: more = 34 :: (bodyL s ++ 34 :: (b :: more)) := by rw [hq]; simp
    have ht : (quoteL s ++ b :: more).take (1 + (bodyL s).length + 1) = quoteL s := by
      have : (quoteL s).length = 1 + (bodyL s).length + 1 := by rw [hq]; simp; omega
      rw [← this, List.take_left]
    have hd : ((quoteL s ++ b :: more).take (1 + (bodyL s).length)).drop 1 = bodyL s := by
      rw [hl, Nat.add_comm 1, List.take_succ_cons, List.drop_succ_cons, List.drop_zero, List.take_left]
    have he : endL ((quoteL s ++ b :: more).drop 1) 1 = some (1 + (bodyL s).length) := by
      rw [hl, List.drop_succ_cons, List.drop_zero, endL_body]
    unfold unqR
    rw [if_pos (by rw [hl]; rfl), he]
    dsimp only
    rw [hd, decB_fuel _ _ (by rw [List.length_append, hq]; simp; omega), dec_body]
    unfold unqC
    dsimp only
    rw [if_pos ht.symm]
    congr 2
    rw [hq]; simp; omega

/-- What is read, quoted again, is what was read. -/
theorem quote_unq (t : By) (h : (unqR t).2.2 = 0) : ∃ n : Nat, (unqR t).2.1 = (n : Int) ∧ n ≤ t.length ∧ quoteL (unqR t).1 = t.take n := by
  unfold unqR at h ⊢
  split at h
  · rename_i h1
    rw [if_pos h1]
    split at h
    · exact absurd h (by decide)
    · rename_i n hn
      obtain ⟨g1, g2⟩ := endL_shift _ _ _ (Nat.le_refl _) n hn
      rw [List.length_drop] at g2
      unfold unqC at h ⊢
      split at h
      · exact absurd h (by decide)
      · rename_i o ho
        split at h
        · rename_i hq
          rw [if_pos hq]
          exact ⟨n + 1, rfl, by omega, hq⟩
        · exact absurd h (by decide)
  · rename_i h1
    rw [if_neg h1]
    unfold plainR at h ⊢
    split at h
    · rename_i hq
      rw [if_pos hq]
      exact ⟨headLen t, rfl, headLen_le t, hq⟩
    · exact absurd h (by decide)
end Go.Proofs.YtlhbbpagjkjplaaDoor
