/- Plain laws for the proofs of this seat: how the reference reads an ident. Conditions: those written at each theorem. -/
import Derived.Test.YtlhbbpagjkjplaaDoorIdP
import Derived.Lib.Bytealg
set_option linter.unusedVariables false
set_option linter.unusedSimpArgs false
namespace Go.Proofs.YtlhbbpagjkjplaaDoor
open Go.Lib

theorem indexByte_ge (l : By1) (c : UInt8) : -1 ≤ indexByte l c := by
  induction l with
  | nil => exact Int.le_refl _
  | cons b l ih =>
    unfold indexByte
    split
    · omega
    · split
      · omega
      · omega
theorem indexByte_snoc (l : By1) (x c : UInt8) : indexByte (l ++ [x]) c = if 0 ≤ indexByte l c then indexByte l c else if x = c then (l.length : Int) else -1 := by
  induction l with
  | nil =>
    show indexByte [x] c = _
    unfold indexByte
    by_cases h : x = c
    · subst h; simp [indexByte]
    · simp [indexByte, h]
  | cons b l ih =>
    have hg := indexByte_ge l c
    show indexByte (b :: (l ++ [x])) c = _
    rw [indexByte, ih]
    by_cases hb : (b == c) = true
    · rw [if_pos hb, if_pos]
      · rw [indexByte, if_pos hb]
      · rw [indexByte, if_pos hb]; exact Int.le_refl _
    · rw [if_neg hb]
      have e : indexByte (b :: l) c = if indexByte l c == -1 then -1 else indexByte l c + 1 := by rw [indexByte, if_neg hb]
      rw [e]
      by_cases h0 : 0 ≤ indexByte l c
      · rw [if_pos h0, if_neg (by simp; omega), if_pos (by omega)]
      · have h1 : indexByte l c = -1 := by omega
        rw [h1]
        by_cases hx : x = c
        · simp [hx]
        · simp [hx]
theorem indexByte_skip (a b : By1) (c : UInt8) (h : ∀ x ∈ a, x ≠ c) : indexByte (a ++ c :: b) c = a.length := by
  induction a with
  | nil => show indexByte (c :: b) c = _; unfold indexByte; simp
  | cons x a ih =>
    have h1 := ih (fun y hy => h y (by simp [hy]))
    have h2 := h x (by simp)
    show indexByte (x :: (a ++ c :: b)) c = _
    rw [indexByte, if_neg (by simpa using h2), h1, if_neg (by simp)]
    simp
theorem indexByte_lt (l : By1) (c : UInt8) : indexByte l c < l.length ∨ l = [] := by
  induction l with
  | nil => right; rfl
  | cons b l ih =>
    left
    unfold indexByte
    split
    · simp only [List.length_cons]; omega
    · split
      · simp only [List.length_cons]; omega
      · rcases ih with h | h
        · simp; omega
        · subst h; simp [indexByte]
theorem indexByte_at (l : By1) (c : UInt8) (h : 0 ≤ indexByte l c) : indexByte l c < l.length := by
  rcases indexByte_lt l c with h1 | h1
  · exact h1
  · subst h1; simp [indexByte] at h

/-- What the reference does with an ident's text, behind the marks. -/
def identR2 (s nm em rest : By1) : Idn × Int :=
  if (takeN ((rest.take (rest.length - 6)).drop 1)).2 ≠ 0 then (idn0, 4)
  else if (takeZ (rest.drop (rest.length - 5))).2 ≠ 0 then (idn0, 4)
  else if idnOk ⟨nm, em, (takeN ((rest.take (rest.length - 6)).drop 1)).1, (takeZ (rest.drop (rest.length - 5))).1⟩ = false then (idn0, 4)
  else if idnPrint ⟨nm, em, (takeN ((rest.take (rest.length - 6)).drop 1)).1, (takeZ (rest.drop (rest.length - 5))).1⟩ ≠ s then (idn0, 4)
  else (⟨nm, em, (takeN ((rest.take (rest.length - 6)).drop 1)).1, (takeZ (rest.drop (rest.length - 5))).1⟩, 0)
def identR1 (s nm em rest : By1) : Idn × Int :=
  if rest.length < 8 then (idn0, 4) else if rest.getD 0 0 ≠ 32 then (idn0, 4) else if rest.getD (rest.length - 6) 0 ≠ 32 then (idn0, 4) else identR2 s nm em rest
def identR0 (s : By1) (o e : Int) : Idn × Int :=
  if o < 0 then (idn0, 4) else if e < o then (idn0, 4) else if 0 < o ∧ s.getD (o - 1).toNat 0 ≠ 32 then (idn0, 4) else if o = 1 then (idn0, 4)
  else identR1 s (if 1 < o then s.take (o - 1).toNat else []) ((s.take e.toNat).drop (o + 1).toNat) (s.drop (e + 1).toNat)
def identR (s : By1) : Idn × Int := identR0 s (indexByte s 60) (indexByte s 62)

theorem identR2_good (s nm em rest : By1) (h : (identR2 s nm em rest).2 = 0) : idnOk (identR2 s nm em rest).1 = true ∧ idnL (identR2 s nm em rest).1 = s := by
  unfold identR2 at h ⊢
  split at h
  · simp at h
  · rename_i h1
    rw [if_neg h1]
    split at h
    · simp at h
    · rename_i h2
      rw [if_neg h2]
      split at h
      · simp at h
      · rename_i h3
        rw [if_neg h3]
        split at h
        · simp at h
        · rename_i h4
          rw [if_neg h4]
          simp only [Bool.not_eq_false] at h3
          refine ⟨h3, ?_⟩
          have h5 : idnPrint _ = s := Decidable.not_not.1 h4
          unfold idnPrint at h5
          rw [if_pos h3] at h5
          exact h5
theorem identR2_bad (s nm em rest : By1) (h : (identR2 s nm em rest).2 ≠ 0) : identR2 s nm em rest = (idn0, 4) := by
  unfold identR2 at h ⊢
  split
  · rfl
  · rename_i h1
    rw [if_neg h1] at h
    split
    · rfl
    · rename_i h2
      rw [if_neg h2] at h
      split
      · rfl
      · rename_i h3
        rw [if_neg h3] at h
        split
        · rfl
        · rename_i h4
          rw [if_neg h4] at h
          exact absurd rfl h
theorem identR1_good (s nm em rest : By1) (h : (identR1 s nm em rest).2 = 0) : idnOk (identR1 s nm em rest).1 = true ∧ idnL (identR1 s nm em rest).1 = s := by
  unfold identR1 at h ⊢
  split at h
  · simp at h
  · rename_i h1
    rw [if_neg h1]
    split at h
    · simp at h
    · rename_i h2
      rw [if_neg h2]
      split at h
      · simp at h
      · rename_i h3
        rw [if_neg h3]
        exact identR2_good _ _ _ _ h
theorem identR1_bad (s nm em rest : By1) (h : (identR1 s nm em rest).2 ≠ 0) : identR1 s nm em rest = (idn0, 4) := by
  unfold identR1 at h ⊢
  split
  · rfl
  · rename_i h1
    rw [if_neg h1] at h
    split
    · rfl
    · rename_i h2
      rw [if_neg h2] at h
      split
      · rfl
      · rename_i h3
        rw [if_neg h3] at h
        exact identR2_bad _ _ _ _ h
theorem identR0_good (s : By1) (o e : Int) (h : (identR0 s o e).2 = 0) : idnOk (identR0 s o e).1 = true ∧ idnL (identR0 s o e).1 = s := by
  unfold identR0 at h ⊢
  split at h
  · simp at h
  · rename_i h1
    rw [if_neg h1]
    split at h
    · simp at h
    · rename_i h2
      rw [if_neg h2]
      split at h
      · simp at h
      · rename_i h3
        rw [if_neg h3]
        split at h
        · simp at h
        · rename_i h4
          rw [if_neg h4]
          exact identR1_good _ _ _ _ h
theorem identR0_bad (s : By1) (o e : Int) (h : (identR0 s o e).2 ≠ 0) : identR0 s o e = (idn0, 4) := by
  unfold identR0 at h ⊢
  split
  · rfl
  · rename_i h1
    rw [if_neg h1] at h
    split
    · rfl
    · rename_i h2
      rw [if_neg h2] at h
      split
      · rfl
      · rename_i h3
        rw [if_neg h3] at h
        split
        · rfl
        · rename_i h4
          rw [if_neg h4] at h
          exact identR1_bad _ _ _ _ h

theorem identR_print (i : Idn) (h : idnOk i = true) : identR (idnL i) = (i, 0) := by
  obtain ⟨h1, h2, h3, h4, h5⟩ := idn_parts i h
  obtain ⟨A, hA⟩ : ∃ A : By1, (if i.nm = [] then [] else i.nm ++ [32]) = A := ⟨_, rfl⟩
  obtain ⟨D, hD⟩ : ∃ D, itoa i.wh = D := ⟨_, rfl⟩
  obtain ⟨Z, hZ⟩ : ∃ Z, zoneL i.zn = Z := ⟨_, rfl⟩
  have hZl : Z.length = 5 := by rw [← hZ]; exact zoneL_length _
  have hDl : 1 ≤ D.length := by
    rw [← hD]
    cases hh : itoa i.wh with
    | nil => exact absurd hh (itoa_ne _)
    | cons a b => simp
  have hs : idnL i = A ++ 60 :: (i.em ++ 62 :: (32 :: (D ++ 32 :: Z))) := by
    unfold idnL; rw [hA, hD, hZ]; simp [List.append_assoc]
  have hA60 : ∀ x ∈ A, x ≠ 60 ∧ x ≠ 62 := by
    intro x hx
    rw [← hA] at hx
    by_cases hn : i.nm = []
    · rw [if_pos hn] at hx; simp at hx
    · rw [if_neg hn] at hx
      rcases List.mem_append.1 hx with hx | hx
      · exact ⟨(called_bar _ h1 x hx).1, (called_bar _ h1 x hx).2.1⟩
      · simp only [List.mem_singleton] at hx; subst hx; decide
  have ho : indexByte (idnL i) 60 = (A.length : Int) := by
    rw [hs]; exact indexByte_skip _ _ _ (fun x hx => (hA60 x hx).1)
  have he : indexByte (idnL i) 62 = ((A.length + 1 + i.em.length : Nat) : Int) := by
    rw [hs]
    have := indexByte_skip (A ++ 60 :: i.em) (32 :: (D ++ 32 :: Z)) 62 (by
      intro x hx
      rcases List.mem_append.1 hx with hx | hx
      · exact (hA60 x hx).2
      · rcases List.mem_cons.1 hx with hx | hx
        · subst hx; decide
        · exact (called_bar _ h2 x hx).2.1)
    rw [show A ++ 60 :: (i.em ++ 62 :: (32 :: (D ++ 32 :: Z))) = (A ++ 60 :: i.em) ++ 62 :: (32 :: (D ++ 32 :: Z)) by simp, this]
    simp; omega
  have hem : ((idnL i).take (A.length + 1 + i.em.length)).drop (A.length + 1) = i.em := by
    rw [hs, show A ++ 60 :: (i.em ++ 62 :: (32 :: (D ++ 32 :: Z))) = (A ++ [60]) ++ (i.em ++ (62 :: 32 :: (D ++ 32 :: Z))) by simp]
    rw [List.drop_take, show A.length + 1 = (A ++ [60]).length by simp, List.drop_left, Nat.add_sub_cancel_left, List.take_left]
  have hrest : (idnL i).drop (A.length + 1 + i.em.length + 1) = 32 :: (D ++ 32 :: Z) := by
    rw [hs, show A ++ 60 :: (i.em ++ 62 :: (32 :: (D ++ 32 :: Z))) = (A ++ 60 :: i.em ++ [62]) ++ (32 :: (D ++ 32 :: Z)) by simp]
    rw [show A.length + 1 + i.em.length + 1 = (A ++ 60 :: i.em ++ [62]).length by simp; omega, List.drop_left]
  have hrl : (32 :: (D ++ 32 :: Z)).length = D.length + 7 := by simp [hZl]
  have q1 : ((32 :: (D ++ 32 :: Z)).take ((32 :: (D ++ 32 :: Z)).length - 6)).drop 1 = D := by
    rw [hrl, show D.length + 7 - 6 = D.length + 1 by omega, List.take_succ_cons, List.take_left]; rfl
  have q2 : (32 :: (D ++ 32 :: Z)).drop ((32 :: (D ++ 32 :: Z)).length - 5) = Z := by
    rw [hrl, show D.length + 7 - 5 = D.length + 1 + 1 by omega, List.drop_succ_cons]
    rw [show D ++ 32 :: Z = (D ++ [32]) ++ Z by simp, show D.length + 1 = (D ++ [32]).length by simp, List.drop_left]
  have q3 : (32 :: (D ++ 32 :: Z)).getD ((32 :: (D ++ 32 :: Z)).length - 6) 0 = 32 := by
    rw [hrl, show D.length + 7 - 6 = D.length + 1 by omega]
    simp [List.getD]
  have hnm : (if 1 < (A.length : Int) then (idnL i).take ((A.length : Int) - 1).toNat else []) = i.nm := by
    by_cases hn : i.nm = []
    · rw [if_pos hn] at hA; subst hA; simp [hn]
    · rw [if_neg hn] at hA
      have hp : 1 ≤ i.nm.length := by
        cases hh : i.nm with
        | nil => exact absurd hh hn
        | cons a b => simp
      have hAl : A.length = i.nm.length + 1 := by rw [← hA]; simp
      have ht : ((A.length : Int) - 1).toNat = i.nm.length := by omega
      rw [if_pos (by omega), ht, hs, ← hA]
      rw [List.append_assoc, List.take_left]
  have hn := takeN_itoa i.wh (by unfold i64R; omega)
  have hz := takeZ_zoneL i.zn h5
  rw [hD] at hn
  rw [hZ] at hz
  have heta : (⟨i.nm, i.em, i.wh, i.zn⟩ : Idn) = i := rfl
  unfold identR
  rw [ho, he]
  unfold identR0
  rw [if_neg (by omega), if_neg (by omega), if_neg, if_neg, hnm]
  · rw [show ((A.length + 1 + i.em.length : Nat) : Int).toNat = A.length + 1 + i.em.length by omega, show ((A.length : Int) + 1).toNat = A.length + 1 by omega, show (((A.length + 1 + i.em.length : Nat) : Int) + 1).toNat = A.length + 1 + i.em.length + 1 by omega, hem, hrest]
    unfold identR1
    rw [if_neg (by rw [hrl]; omega), if_neg (by simp), if_neg (by rw [q3]; simp)]
    unfold identR2
    rw [q1, q2, hn, hz, heta, h]
    unfold idnPrint
    rw [if_pos h]
    simp
  · intro hx
    by_cases hn : i.nm = []
    · rw [if_pos hn] at hA; subst hA; simp at hx
    · rw [if_neg hn] at hA
      have hp : 1 ≤ i.nm.length := by
        cases hh : i.nm with
        | nil => exact absurd hh hn
        | cons a b => simp
      have hAl : A.length = i.nm.length + 1 := by rw [← hA]; simp
      omega
  · intro ⟨hx, hy⟩
    apply hy
    by_cases hn : i.nm = []
    · rw [if_pos hn] at hA; subst hA; simp at hx
    · rw [if_neg hn] at hA
      have hAl : A.length = i.nm.length + 1 := by rw [← hA]; simp
      have ht : ((A.length : Int) - 1).toNat = i.nm.length := by omega
      rw [ht, hs, ← hA]
      simp [List.getD]
theorem identR_eq (s : By1) : identR s = parseI s :=
  parseI_unique s _ (fun i hi hs => by rw [← hs]; exact identR_print i hi) (fun h => identR0_good _ _ _ h) (fun h => identR0_bad _ _ _ h)

/-! ### The reference's zones -/
def zoneR : By1 → Int × Int
  | [a, b, c, d, e] =>
    if a ≠ 43 ∧ a ≠ 45 then (0, 4)
    else if ([b, c, d, e].any fun x => !(decide (48 ≤ x.toNat) && decide (x.toNat ≤ 57))) then (0, 4)
    else if 59 < (d.toNat - 48) * 10 + (e.toNat - 48) then (0, 4)
    else if 840 < ((b.toNat - 48) * 10 + (c.toNat - 48)) * 60 + ((d.toNat - 48) * 10 + (e.toNat - 48)) then (0, 4)
    else if a = 45 ∧ ((b.toNat - 48) * 10 + (c.toNat - 48)) * 60 + ((d.toNat - 48) * 10 + (e.toNat - 48)) = 0 then (0, 4)
    else (zoneV a b c d e, 0)
  | _ => (0, 4)
theorem u8eq (c : UInt8) (n : Nat) (h : n < 256) (hc : c.toNat = n) : UInt8.ofNat n = c := by
  apply UInt8.toNat_inj.1
  rw [UInt8.toNat_ofNat_of_lt' (by show n < 256; exact h)]; exact hc.symm
theorem zoneR_eq (s : By1) : zoneR s = takeZ s := by
  refine takeZ_unique s _ ?_ ?_ ?_
  · intro v hv hs
    have hz : -840 ≤ v ∧ v ≤ 840 := by unfold zonedB at hv; simpa using hv
    obtain ⟨q, hq⟩ : ∃ q : Nat, v.natAbs = q := ⟨_, rfl⟩
    have hq2 : q ≤ 840 := by omega
    have e1 := u8d (q / 60 / 10 % 10) (by omega)
    have e2 := u8d (q / 60 % 10) (by omega)
    have e3 := u8d (q % 60 / 10 % 10) (by omega)
    have e4 := u8d (q % 60 % 10) (by omega)
    rw [← hs]
    have hL : zoneL v = [if v < 0 then 45 else 43, UInt8.ofNat (48 + q / 60 / 10 % 10), UInt8.ofNat (48 + q / 60 % 10), UInt8.ofNat (48 + q % 60 / 10 % 10), UInt8.ofNat (48 + q % 60 % 10)] := by
      unfold zoneL twoL; rw [hq]; rfl
    rw [hL]
    unfold zoneR
    simp only [List.any_cons, List.any_nil, e1, e2, e3, e4]
    have hd : ∀ k : Nat, k < 10 → (!(decide (48 ≤ 48 + k) && decide (48 + k ≤ 57))) = false := by
      intro k hk; simp; omega
    rw [hd _ (by omega), hd _ (by omega), hd _ (by omega), hd _ (by omega)]
    simp only [Bool.or_false, Bool.false_eq_true, if_false]
    have hV : zoneV (if v < 0 then 45 else 43) (UInt8.ofNat (48 + q / 60 / 10 % 10)) (UInt8.ofNat (48 + q / 60 % 10)) (UInt8.ofNat (48 + q % 60 / 10 % 10)) (UInt8.ofNat (48 + q % 60 % 10)) = v := by
      unfold zoneV
      rw [e1, e2, e3, e4]
      by_cases hn : v < 0
      · rw [if_pos hn, if_pos rfl]; omega
      · rw [if_neg hn, if_neg (by decide)]; omega
    rw [hV]
    have hqq : ((48 + q / 60 / 10 % 10 - 48) * 10 + (48 + q / 60 % 10 - 48)) * 60 + ((48 + q % 60 / 10 % 10 - 48) * 10 + (48 + q % 60 % 10 - 48)) = q := by
      simp only [Nat.add_sub_cancel_left]
      clear hV hL hd e1 e2 e3 e4 hq hz hs hv
      have t1 : q / 60 ≤ 14 := by omega
      have t2 : q / 60 / 10 % 10 = q / 60 / 10 := by omega
      have t3 : q % 60 / 10 % 10 = q % 60 / 10 := by omega
      rw [t2, t3]; omega
    have hqm : (48 + q % 60 / 10 % 10 - 48) * 10 + (48 + q % 60 % 10 - 48) ≤ 59 := by
      simp only [Nat.add_sub_cancel_left]
      clear hV hL hd e1 e2 e3 e4 hq hz hs hv
      omega
    rw [hqq]
    rw [if_neg, if_neg (by omega), if_neg (by omega), if_neg]
    · intro ⟨hx, hy⟩
      by_cases hn : v < 0
      · omega
      · rw [if_neg hn] at hx; exact absurd hx (by decide)
    · by_cases hn : v < 0
      · rw [if_pos hn]; simp
      · rw [if_neg hn]; simp
  · intro h
    unfold zoneR at h ⊢
    split at h
    · rename_i a b c d e
      split at h
      · simp at h
      · rename_i h1
        rw [if_neg h1]
        split at h
        · simp at h
        · rename_i h2
          rw [if_neg h2]
          split at h
          · simp at h
          · rename_i h3
            rw [if_neg h3]
            split at h
            · simp at h
            · rename_i h4
              rw [if_neg h4]
              split at h
              · simp at h
              · rename_i h5
                rw [if_neg h5]
                simp only [List.any_cons, List.any_nil, Bool.or_false, Bool.or_eq_true, Bool.not_eq_true', Bool.and_eq_false_iff, decide_eq_false_iff_not, not_or, not_and, Decidable.not_not] at h2
                obtain ⟨⟨b1, b2⟩, ⟨c1, c2⟩, ⟨d1, d2⟩, ⟨f1, f2⟩⟩ := h2
                have ha : a = 43 ∨ a = 45 := by
                  by_cases h43 : a = 43
                  · exact Or.inl h43
                  · exact Or.inr (Decidable.not_not.1 fun h45 => h1 ⟨h43, h45⟩)
                obtain ⟨m, hm⟩ : ∃ m : Nat, ((b.toNat - 48) * 10 + (c.toNat - 48)) * 60 + ((d.toNat - 48) * 10 + (e.toNat - 48)) = m := ⟨_, rfl⟩
                rw [hm] at h4 h5
                have key : ∀ sg : UInt8, ∀ v : Int, v.natAbs = m → (if v < 0 then (45 : UInt8) else 43) = sg → zonedB v = true ∧ zoneL v = [sg, b, c, d, e] := by
                  intro sg v hv hsg
                  refine ⟨by unfold zonedB; simp; omega, ?_⟩
                  unfold zoneL twoL
                  rw [hv, hsg]
                  simp only [List.cons_append, List.nil_append]
                  rw [u8eq b _ (by omega) (by omega), u8eq c _ (by omega) (by omega), u8eq d _ (by omega) (by omega), u8eq e _ (by omega) (by omega)]
                unfold zoneV
                rw [hm]
                rcases ha with ha | ha
                · subst ha
                  rw [if_neg (by decide)]
                  exact key 43 m (by omega) (by rw [if_neg (by omega)])
                · subst ha
                  have hm0 : m ≠ 0 := fun hx => h5 ⟨rfl, hx⟩
                  rw [if_pos rfl]
                  exact key 45 (-(m : Int)) (by omega) (by rw [if_pos (by omega)])
    · simp at h
  · intro h
    unfold zoneR at h ⊢
    split
    · rename_i a b c d e
      repeat' split
      all_goals (first | rfl | skip)
      rename_i h1 h2 h3 h4 h5
      dsimp only at h
      rw [if_neg h1, if_neg h2, if_neg h3, if_neg h4, if_neg h5] at h
      exact absurd rfl h
    · rfl
end Go.Proofs.YtlhbbpagjkjplaaDoor
