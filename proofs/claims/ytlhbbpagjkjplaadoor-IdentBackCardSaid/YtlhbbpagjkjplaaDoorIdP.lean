/- Plain laws for the proofs of this seat: idents as text. Conditions: those written at each theorem. -/
import Derived.Test.YtlhbbpagjkjplaaDoorNum
import Derived.Lib.ValidU
import Derived.Lib.Strings
set_option linter.unusedVariables false
set_option linter.unusedSimpArgs false
/-! Idents: plain functions. -/
namespace Go.Proofs.YtlhbbpagjkjplaaDoor
open Go.Lib

abbrev By1 := List UInt8
def barB (c : UInt8) : Bool := c.toNat == 0 || c.toNat == 10 || c.toNat == 60 || c.toNat == 62
/-- May somebody be called so. -/
def calledB (l : By1) : Bool := decide (l.length ≤ 200) && Lib.validD l && !(l.any barB) && !(l.head? == some 32) && !(l.getLast? == some 32)
def zonedB (z : Int) : Bool := decide (-840 ≤ z) && decide (z ≤ 840)
structure Idn where
  nm : By1
  em : By1
  wh : Int
  zn : Int
def idn0 : Idn := ⟨[], [], 0, 0⟩
def idnOk (i : Idn) : Bool := calledB i.nm && calledB i.em && decide (0 ≤ i.wh) && decide (i.wh ≤ 1099511627775) && zonedB i.zn
def twoL (n : Nat) : By1 := [UInt8.ofNat (48 + n / 10 % 10), UInt8.ofNat (48 + n % 10)]
def zoneL (z : Int) : By1 := (if z < 0 then 45 else 43) :: (twoL (z.natAbs / 60) ++ twoL (z.natAbs % 60))
def idnL (i : Idn) : By1 := (if i.nm = [] then [] else i.nm ++ [32]) ++ ([60] ++ i.em ++ [62, 32] ++ itoa i.wh ++ [32] ++ zoneL i.zn)
def idnPrint (i : Idn) : By1 := if idnOk i then idnL i else []

theorem called_bar (l : By1) (h : calledB l = true) : ∀ c ∈ l, c ≠ 60 ∧ c ≠ 62 ∧ c ≠ 10 ∧ c ≠ 0 := by
  unfold calledB at h
  simp only [Bool.and_eq_true, Bool.not_eq_true'] at h
  have h2 := h.1.1.2
  rw [List.any_eq_false] at h2
  intro c hc
  have h3 := h2 c hc
  unfold barB at h3
  refine ⟨?_, ?_, ?_, ?_⟩ <;> (intro e; subst e; exact h3 (by decide))
theorem called_len (l : By1) (h : calledB l = true) : l.length ≤ 200 := by
  unfold calledB at h
  simp only [Bool.and_eq_true] at h
  exact of_decide_eq_true h.1.1.1.1

/-! ### Where a word begins first -/
theorem index_skip (t b : By1) (c : UInt8) : ∀ a : By1, (∀ x ∈ a, x ≠ c) → index (a ++ (c :: t) ++ b) (c :: t) = a.length := by
  intro a
  induction a with
  | nil =>
    intro _
    show index (c :: (t ++ b)) (c :: t) = 0
    rw [index, if_pos]
    rw [List.isPrefixOf_iff_prefix]
    exact ⟨b, by simp⟩
  | cons x a ih =>
    intro h
    have h1 := ih (fun y hy => h y (by simp [hy]))
    show index (x :: (a ++ (c :: t) ++ b)) (c :: t) = _
    rw [index, if_neg, h1, if_neg]
    · simp
    · simp
    · rw [List.isPrefixOf_iff_prefix]
      intro ⟨r, hr⟩
      injection hr with h2 _
      exact h x (by simp) h2.symm
theorem cut_skip (t b : By1) (c : UInt8) (a : By1) (h : ∀ x ∈ a, x ≠ c) : cut (a ++ (c :: t) ++ b) (c :: t) = (a, b, true) := by
  unfold cut
  rw [index_skip t b c a h, if_pos (by omega)]
  simp only [Int.toNat_natCast]
  rw [List.append_assoc, List.take_left, ← List.drop_drop, List.drop_left, List.drop_left]
theorem trimSuffix_blank (a : By1) : trimSuffix (a ++ [32]) [32] = a := by
  unfold trimSuffix hasSuffix
  rw [if_pos]
  · simp
  · rw [List.isSuffixOf_iff_suffix]; exact ⟨a, rfl⟩
theorem trimSuffix_nil : trimSuffix [] [32] = [] := by decide

/-! ### Zones -/
def zoneV (a b c d e : UInt8) : Int := if a = 45 then -((((b.toNat - 48) * 10 + (c.toNat - 48)) * 60 + ((d.toNat - 48) * 10 + (e.toNat - 48)) : Nat) : Int) else ((((b.toNat - 48) * 10 + (c.toNat - 48)) * 60 + ((d.toNat - 48) * 10 + (e.toNat - 48)) : Nat) : Int)
/-- What Zone answers. -/
def takeZ : By1 → Int × Int
  | [a, b, c, d, e] =>
    if ([b, c, d, e].all fun x => decide (48 ≤ x.toNat) && decide (x.toNat ≤ 57)) && zonedB (zoneV a b c d e) && (zoneL (zoneV a b c d e) == [a, b, c, d, e]) then (zoneV a b c d e, 0) else (0, 4)
  | _ => (0, 4)

theorem zoneL_length (z : Int) : (zoneL z).length = 5 := by unfold zoneL twoL; simp
theorem takeZ_zoneL (z : Int) (h : zonedB z = true) : takeZ (zoneL z) = (z, 0) := by
  have hz : -840 ≤ z ∧ z ≤ 840 := by
    unfold zonedB at h
    simpa using h
  have hq : z.natAbs ≤ 840 := by omega
  obtain ⟨q, hq'⟩ : ∃ q : Nat, z.natAbs = q := ⟨_, rfl⟩
  rw [hq'] at hq
  have e1 := u8d (q / 60 / 10 % 10) (by omega)
  have e2 := u8d (q / 60 % 10) (by omega)
  have e3 := u8d (q % 60 / 10 % 10) (by omega)
  have e4 := u8d (q % 60 % 10) (by omega)
  have hv : zoneV (if z < 0 then 45 else 43) (UInt8.ofNat (48 + q / 60 / 10 % 10)) (UInt8.ofNat (48 + q / 60 % 10)) (UInt8.ofNat (48 + q % 60 / 10 % 10)) (UInt8.ofNat (48 + q % 60 % 10)) = z := by
    unfold zoneV
    rw [e1, e2, e3, e4]
    by_cases hn : z < 0
    · rw [if_pos hn, if_pos rfl]; omega
    · rw [if_neg hn, if_neg (by decide)]; omega
  have hL : zoneL z = [if z < 0 then 45 else 43, UInt8.ofNat (48 + q / 60 / 10 % 10), UInt8.ofNat (48 + q / 60 % 10), UInt8.ofNat (48 + q % 60 / 10 % 10), UInt8.ofNat (48 + q % 60 % 10)] := by
    unfold zoneL twoL; rw [hq']; rfl
  have hL' := hL
  rw [hL]
  unfold takeZ
  simp only
  rw [hv, hL', h, if_pos]
  simp only [List.all_cons, List.all_nil, e1, e2, e3, e4, beq_self_eq_true, Bool.and_true, Bool.and_eq_true, decide_eq_true_eq]
  omega
theorem takeZ_ok (s : By1) (z : Int) (h : takeZ s = (z, 0)) : zonedB z = true ∧ zoneL z = s := by
  unfold takeZ at h
  split at h
  · rename_i a b c d e
    split at h
    · rename_i hc
      simp only [Bool.and_eq_true, beq_iff_eq] at hc
      injection h with h1 _
      subst h1
      exact ⟨hc.1.2, hc.2⟩
    · simp at h
  · simp at h
theorem takeZ_err (s : By1) : (takeZ s).2 = 0 ∨ takeZ s = (0, 4) := by
  unfold takeZ
  split
  · split
    · left; rfl
    · right; rfl
  · right; rfl
theorem takeZ_unique (s : By1) (r : Int × Int) (h1 : ∀ v, zonedB v = true → zoneL v = s → r = (v, 0)) (h2 : r.2 = 0 → zonedB r.1 = true ∧ zoneL r.1 = s) (h3 : r.2 ≠ 0 → r = (0, 4)) : r = takeZ s := by
  by_cases h : r.2 = 0
  · obtain ⟨ha, hb⟩ := h2 h
    rw [← hb, takeZ_zoneL _ ha, ← h]
  · rcases takeZ_err s with he | he
    · obtain ⟨ha, hb⟩ := takeZ_ok s (takeZ s).1 (by rw [← he])
      have := h1 _ ha hb
      rw [this] at h; exact absurd rfl h
    · rw [h3 h, he]

/-! ### Idents -/
theorem idn_parts (i : Idn) (h : idnOk i = true) : calledB i.nm = true ∧ calledB i.em = true ∧ 0 ≤ i.wh ∧ i.wh ≤ 1099511627775 ∧ zonedB i.zn = true := by
  unfold idnOk at h
  simp only [Bool.and_eq_true, decide_eq_true_eq] at h
  exact ⟨h.1.1.1.1, h.1.1.1.2, h.1.1.2, h.1.2, h.2⟩
/-- What Parse answers. -/
def idnOf (s : By1) : Idn := ⟨trimSuffix (cut s [60]).1 [32], (cut (cut s [60]).2.1 [62, 32]).1, (takeN (cut (cut (cut s [60]).2.1 [62, 32]).2.1 [32]).1).1, (takeZ (cut (cut (cut s [60]).2.1 [62, 32]).2.1 [32]).2.1).1⟩
def idnFit (s : By1) : Bool := (cut s [60]).2.2 && (cut (cut s [60]).2.1 [62, 32]).2.2 && (cut (cut (cut s [60]).2.1 [62, 32]).2.1 [32]).2.2 &&
  decide ((takeN (cut (cut (cut s [60]).2.1 [62, 32]).2.1 [32]).1).2 = 0) && decide ((takeZ (cut (cut (cut s [60]).2.1 [62, 32]).2.1 [32]).2.1).2 = 0) && idnOk (idnOf s) && (idnPrint (idnOf s) == s)
def parseI (s : By1) : Idn × Int := if idnFit s then (idnOf s, 0) else (idn0, 4)

theorem itoa_dig (v : Int) (h : 0 ≤ v) : ∀ c ∈ itoa v, digP c := by
  obtain ⟨n, rfl⟩ := Int.eq_ofNat_of_zero_le h
  rw [itoa_nonneg]; exact decDigits_dig n
theorem dig_ne (c : UInt8) (h : digP c) : c ≠ 32 ∧ c ≠ 60 ∧ c ≠ 62 ∧ c ≠ 10 := by
  unfold digP at h
  refine ⟨?_, ?_, ?_, ?_⟩ <;> (intro e; subst e; revert h; decide)

theorem parseI_print (i : Idn) (h : idnOk i = true) : parseI (idnL i) = (i, 0) := by
  obtain ⟨h1, h2, h3, h4, h5⟩ := idn_parts i h
  have c1 : ∃ a : By1, cut (idnL i) [60] = (a, i.em ++ [62, 32] ++ (itoa i.wh ++ [32] ++ zoneL i.zn), true) ∧ trimSuffix a [32] = i.nm := by
    by_cases hn : i.nm = []
    · refine ⟨[], ?_, by rw [hn]; exact trimSuffix_nil⟩
      have := cut_skip [] (i.em ++ [62, 32] ++ (itoa i.wh ++ [32] ++ zoneL i.zn)) 60 [] (by simp)
      rw [← this]
      unfold idnL
      rw [if_pos hn]
      simp [List.append_assoc]
    · refine ⟨i.nm ++ [32], ?_, trimSuffix_blank _⟩
      have := cut_skip [] (i.em ++ [62, 32] ++ (itoa i.wh ++ [32] ++ zoneL i.zn)) 60 (i.nm ++ [32]) (by
        intro x hx
        rcases List.mem_append.1 hx with hx | hx
        · exact (called_bar _ h1 x hx).1
        · simp only [List.mem_singleton] at hx; subst hx; decide)
      rw [← this]
      unfold idnL
      rw [if_neg hn]
      simp [List.append_assoc]
  obtain ⟨a, c1, ha⟩ := c1
  have c2 := cut_skip [32] (itoa i.wh ++ [32] ++ zoneL i.zn) 62 i.em (fun x hx => (called_bar _ h2 x hx).2.1)
  have c3 := cut_skip [] (zoneL i.zn) 32 (itoa i.wh) (fun x hx => (dig_ne x (itoa_dig _ h3 x hx)).1)
  have hn := takeN_itoa i.wh (by unfold i64R; omega)
  have hz := takeZ_zoneL i.zn h5
  have hof : idnOf (idnL i) = i := by
    unfold idnOf
    rw [c1]; simp only
    rw [c2]; simp only
    rw [c3]; simp only
    rw [hn, hz, ha]
  have hfit : idnFit (idnL i) = true := by
    unfold idnFit
    rw [hof, c1]; simp only
    rw [c2]; simp only
    rw [c3]; simp only
    rw [hn, hz, h]
    unfold idnPrint
    rw [h]
    simp
  unfold parseI
  rw [hfit, hof]; rfl
theorem parseI_ok (s : By1) (h : (parseI s).2 = 0) : idnOk (parseI s).1 = true ∧ idnL (parseI s).1 = s := by
  unfold parseI at h ⊢
  cases hf : idnFit s with
  | false => rw [hf] at h; simp at h
  | true =>
    simp only [if_true]
    unfold idnFit at hf
    simp only [Bool.and_eq_true, beq_iff_eq] at hf
    have h1 := hf.1.2
    have h2 := hf.2
    unfold idnPrint at h2
    rw [h1] at h2
    exact ⟨h1, h2⟩
theorem parseI_err (s : By1) : (parseI s).2 = 0 ∨ parseI s = (idn0, 4) := by
  unfold parseI; split
  · left; rfl
  · right; rfl
theorem parseI_unique (s : By1) (r : Idn × Int) (h1 : ∀ i, idnOk i = true → idnL i = s → r = (i, 0)) (h2 : r.2 = 0 → idnOk r.1 = true ∧ idnL r.1 = s) (h3 : r.2 ≠ 0 → r = (idn0, 4)) : r = parseI s := by
  by_cases h : r.2 = 0
  · obtain ⟨ha, hb⟩ := h2 h
    rw [← hb, parseI_print _ ha, ← h]
  · rcases parseI_err s with he | he
    · obtain ⟨ha, hb⟩ := parseI_ok s he
      have := h1 _ ha hb
      rw [this] at h; exact absurd rfl h
    · rw [h3 h, he]
end Go.Proofs.YtlhbbpagjkjplaaDoor
