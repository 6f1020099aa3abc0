/- Plain laws for the proofs of this seat: decimal numbers. Conditions: those written at each theorem. -/
import Derived.Lib.ParseIntB
import Derived.Lib.ItoaMem
import Derived.Lib.IndexMore
set_option linter.unusedVariables false
set_option linter.unusedSimpArgs false
/-! Numbers as digits of ten: plain functions. -/
namespace Go.Proofs.YtlhbbpagjkjplaaDoor
open Go.Lib

def digP (c : UInt8) : Prop := 48 ≤ c.toNat ∧ c.toNat ≤ 57
def valF (acc : Nat) (l : List UInt8) : Nat := l.foldl (fun a c => a * 10 + (c.toNat - 48)) acc
theorem valF_cons (acc : Nat) (c : UInt8) (r : List UInt8) : valF acc (c :: r) = valF (acc * 10 + (c.toNat - 48)) r := by unfold valF; rw [List.foldl_cons]
theorem valF_nil (acc : Nat) : valF acc [] = acc := by unfold valF; rw [List.foldl_nil]
theorem valF_le (l : List UInt8) : ∀ acc, acc ≤ valF acc l := by
  induction l with
  | nil => intro acc; rw [valF_nil]; exact Nat.le_refl _
  | cons c r ih => intro acc; have := ih (acc * 10 + (c.toNat - 48)); rw [valF_cons]; omega
theorem valF_append (a b : List UInt8) : ∀ acc, valF acc (a ++ b) = valF (valF acc a) b := by
  induction a with
  | nil => intro acc; rw [List.nil_append, valF_nil]
  | cons c r ih => intro acc; rw [List.cons_append, valF_cons, ih, valF_cons]
theorem valF_snoc (a : List UInt8) (c : UInt8) (acc : Nat) : valF acc (a ++ [c]) = valF acc a * 10 + (c.toNat - 48) := by rw [valF_append, valF_cons, valF_nil]
theorem u8d (k : Nat) (h : k < 10) : (UInt8.ofNat (48 + k)).toNat = 48 + k := UInt8.toNat_ofNat_of_lt' (by show 48 + k < 256; omega)

theorem decDigits_dig : ∀ (u : Nat), ∀ c ∈ decDigits u, digP c := by
  intro u
  induction u using Nat.strongRecOn with
  | _ u ih =>
    by_cases h : u < 10
    · rw [decDigits, dif_pos h]
      intro c hc
      simp only [List.mem_singleton] at hc
      subst hc
      unfold digP
      rw [u8d u h]; omega
    · rw [decDigits, dif_neg h]
      intro c hc
      rcases List.mem_append.1 hc with hc | hc
      · exact ih (u / 10) (by omega) c hc
      · simp only [List.mem_singleton] at hc
        subst hc
        unfold digP
        rw [u8d _ (by omega)]; omega
theorem decDigits_ne (u : Nat) : decDigits u ≠ [] := by
  by_cases h : u < 10
  · rw [decDigits, dif_pos h]; simp
  · rw [decDigits, dif_neg h]; simp
theorem valF_decDigits : ∀ (u : Nat), valF 0 (decDigits u) = u := by
  intro u
  induction u using Nat.strongRecOn with
  | _ u ih =>
    by_cases h : u < 10
    · rw [decDigits, dif_pos h]
      rw [valF_cons, valF_nil, u8d u h]; omega
    · rw [decDigits, dif_neg h, valF_snoc, ih (u / 10) (by omega), u8d _ (by omega)]; omega

theorem u8_of_dig (c : UInt8) (h : digP c) (k : Nat) (hk : k = c.toNat - 48) : UInt8.ofNat (48 + k) = c := by
  unfold digP at h
  apply UInt8.toNat_inj.1
  rw [UInt8.toNat_ofNat_of_lt' (by show 48 + k < 256; omega)]; omega

/-- The digits of the number that digits spell, behind a number that is not zero. -/
theorem decDigits_valF (r : List UInt8) : ∀ acc, 1 ≤ acc → (∀ c ∈ r, digP c) → decDigits (valF acc r) = decDigits acc ++ r := by
  induction r with
  | nil => intro acc _ _; rw [valF_nil]; simp
  | cons c r ih =>
    intro acc ha hd
    have hc := hd c (by simp)
    unfold digP at hc
    have h1 := ih (acc * 10 + (c.toNat - 48)) (by omega) (fun x hx => hd x (by simp [hx]))
    rw [valF_cons, h1, decDigits, dif_neg (by omega), show (acc * 10 + (c.toNat - 48)) / 10 = acc by omega, u8_of_dig c (hd c (by simp)) _ (by omega)]
    simp
theorem decDigits_val0 (c : UInt8) (r : List UInt8) (hd : ∀ x ∈ c :: r, digP x) (h : c.toNat ≠ 48 ∨ r = []) : decDigits (valF 0 (c :: r)) = c :: r := by
  have hc := hd c (by simp)
  have hc' := hc
  unfold digP at hc'
  have h1 : decDigits (c.toNat - 48) = [c] := by rw [decDigits, dif_pos (by omega), u8_of_dig c hc _ rfl]
  rw [valF_cons, show 0 * 10 + (c.toNat - 48) = c.toNat - 48 by omega]
  rcases h with h | h
  · rw [decDigits_valF r _ (by omega) (fun x hx => hd x (by simp [hx])), h1]; rfl
  · subst h; rw [valF_nil]; exact h1

theorem parseUintM_val (M : Nat) (hM : M ≤ 18446744073709551615) (l : List UInt8) : ∀ acc, (∀ c ∈ l, digP c) → valF acc l ≤ M → parseUintM M acc l = .ok (valF acc l) := by
  induction l with
  | nil => intro acc _ _; rw [valF_nil, parseUintM]
  | cons c r ih =>
    intro acc hd hv
    have hc := hd c (by simp)
    unfold digP at hc
    rw [valF_cons] at hv ⊢
    have hv' := hv
    have hle := valF_le r (acc * 10 + (c.toNat - 48))
    have h1 : ¬ 1844674407370955162 ≤ acc := by omega
    have h2 : ¬ M < acc * 10 + (c.toNat - 48) := by omega
    have h3 := ih _ (fun x hx => hd x (by simp [hx])) hv'
    simp only [parseUintM, if_pos hc, if_neg h1, if_neg h2]
    exact h3

def i64R (v : Int) : Prop := -9223372036854775808 ≤ v ∧ v ≤ 9223372036854775807

theorem parseUintB_dec (n : Nat) (h : n ≤ 18446744073709551615) : parseUintB 64 (decDigits n) = .ok n := by
  unfold parseUintB
  rw [if_neg (decDigits_ne n), parseUintM_val _ (by decide) _ _ (decDigits_dig n) (by rw [valF_decDigits]; exact h), valF_decDigits]

theorem parseIntB_itoa (v : Int) (h : i64R v) : parseIntB 64 (itoa v) = .ok v := by
  unfold i64R at h
  by_cases hn : v < 0
  · obtain ⟨n, hv⟩ : ∃ n : Nat, v.natAbs = n := ⟨_, rfl⟩
    have hi : itoa v = 45 :: decDigits n := by unfold itoa; rw [if_pos hn, hv]
    rw [hi]
    unfold parseIntB
    simp only [show (45 : UInt8).toNat = 45 from rfl]
    rw [if_pos (by simp), parseUintB_dec n (by omega)]
    simp only [not_true_eq_false, false_and, if_false, true_and, if_true]
    rw [if_neg (by simp; omega)]
    congr 1; omega
  · obtain ⟨n, rfl⟩ := Int.eq_ofNat_of_zero_le (show 0 ≤ v by omega)
    rw [itoa_nonneg]
    obtain ⟨c, r, he⟩ : ∃ c r, decDigits n = c :: r := by
      cases hh : decDigits n with
      | nil => exact absurd hh (decDigits_ne n)
      | cons c r => exact ⟨c, r, rfl⟩
    have hc := decDigits_dig n c (by rw [he]; simp)
    unfold digP at hc
    have hp := parseUintB_dec n (by omega)
    rw [he] at hp ⊢
    unfold parseIntB
    simp only
    rw [if_neg (by omega), hp]
    simp only
    rw [if_neg (by simp; omega), if_neg (by omega), if_neg (by omega)]

theorem parseIntB_range (l : List UInt8) (v : Int) (h : parseIntB 64 l = .ok v) : i64R v := by
  unfold parseIntB at h
  unfold i64R
  cases l with
  | nil => simp at h
  | cons c r =>
    simp only at h
    rcases hu : parseUintB 64 (if c.toNat = 43 ∨ c.toNat = 45 then r else c :: r) with u | _ | _
    rotate_left
    · rw [hu] at h; simp at h
    · rw [hu] at h; simp at h
    · rw [hu] at h
      simp only at h
      by_cases hn : c.toNat = 45
      · rw [if_neg (by omega)] at h
        by_cases h2 : 2 ^ (64 - 1) < u
        · rw [if_pos ⟨hn, h2⟩] at h; simp at h
        · rw [if_neg (fun x => h2 x.2), if_pos hn] at h
          injection h with h
          have h3 : (2 : Nat) ^ (64 - 1) = 9223372036854775808 := by decide
          omega
      · by_cases h2 : 2 ^ (64 - 1) ≤ u
        · rw [if_pos ⟨hn, h2⟩] at h; simp at h
        · rw [if_neg (fun x => h2 x.2), if_neg (by omega), if_neg hn] at h
          injection h with h
          have h3 : (2 : Nat) ^ (64 - 1) = 9223372036854775808 := by decide
          omega

/-- What TakeNumber answers. -/
def takeN (s : List UInt8) : Int × Int :=
  if s = [] then (0, 3) else match parseIntB 64 s with
    | .ok v => if itoa v = s then (v, 0) else (0, 4)
    | _ => (0, 4)

theorem itoa_ne (v : Int) : itoa v ≠ [] := by
  unfold itoa; split
  · simp
  · exact decDigits_ne _
theorem takeN_itoa (v : Int) (h : i64R v) : takeN (itoa v) = (v, 0) := by
  unfold takeN
  rw [if_neg (itoa_ne v), parseIntB_itoa v h]
  simp
theorem takeN_ok (s : List UInt8) (v : Int) (h : takeN s = (v, 0)) : itoa v = s ∧ i64R v := by
  unfold takeN at h
  by_cases h0 : s = []
  · rw [if_pos h0] at h; simp at h
  · rw [if_neg h0] at h
    rcases hp : parseIntB 64 s with u | _ | _
    rotate_left
    · rw [hp] at h; simp at h
    · rw [hp] at h; simp at h
    · rw [hp] at h
      simp only at h
      by_cases hi : itoa u = s
      · rw [if_pos hi] at h
        injection h with h1 h2
        subst h1
        exact ⟨hi, parseIntB_range s u hp⟩
      · rw [if_neg hi] at h; simp at h
theorem takeN_err (s : List UInt8) : (takeN s).2 = 0 ∨ takeN s = (0, if s = [] then 3 else 4) := by
  unfold takeN
  by_cases h0 : s = []
  · right; rw [if_pos h0, if_pos h0]
  · rw [if_neg h0]
    rw [if_neg h0]
    rcases hp : parseIntB 64 s with u | _ | _
    rotate_left
    · right; rfl
    · right; rfl
    · simp only
      by_cases hi : itoa u = s
      · left; rw [if_pos hi]
      · right; rw [if_neg hi]
/-- Whatever reads what is printed, and reads nothing else, reads so. -/
theorem takeN_unique (s : List UInt8) (r : Int × Int) (h1 : ∀ v, i64R v → itoa v = s → r = (v, 0)) (h2 : r.2 = 0 → itoa r.1 = s ∧ i64R r.1) (h3 : r.2 ≠ 0 → r = (0, if s = [] then 3 else 4)) : r = takeN s := by
  by_cases h : r.2 = 0
  · obtain ⟨ha, hb⟩ := h2 h
    rw [← ha, takeN_itoa _ hb, ← h]
  · rcases takeN_err s with he | he
    · obtain ⟨ha, hb⟩ := takeN_ok s (takeN s).1 (by rw [← he])
      have := h1 _ hb ha
      rw [this] at h; exact absurd rfl h
    · rw [h3 h, he]

/-- What the reference's TakeNumber does. -/
def magR (minus : Bool) (d : List UInt8) : Int × Int :=
  if d = [] ∨ 19 < d.length ∨ (d.head? = some 48 ∧ (1 < d.length ∨ minus = true)) then (0, 4)
  else if d.any (fun c => !(decide (48 ≤ c.toNat) && decide (c.toNat ≤ 57))) then (0, 4)
  else if 9223372036854775808 < valF 0 d ∨ (minus = false ∧ valF 0 d = 9223372036854775808) then (0, 4)
  else (if minus then -(valF 0 d : Int) else valF 0 d, 0)
def takeR (s : List UInt8) : Int × Int :=
  match s with
  | [] => (0, 3)
  | c :: r => if c = 45 then magR true r else magR false (c :: r)

theorem any_dig (d : List UInt8) : d.any (fun c => !(decide (48 ≤ c.toNat) && decide (c.toNat ≤ 57))) = false ↔ ∀ c ∈ d, digP c := by
  rw [List.any_eq_false]
  constructor
  · intro h c hc
    have := h c hc
    unfold digP
    simpa using this
  · intro h c hc
    have := h c hc
    unfold digP at this
    simpa using this

theorem magR_ok (minus : Bool) (d : List UInt8) (h : (magR minus d).2 = 0) : itoa (magR minus d).1 = (if minus then 45 :: d else d) ∧ i64R (magR minus d).1 := by
  unfold magR at h ⊢
  by_cases h1 : d = [] ∨ 19 < d.length ∨ (d.head? = some 48 ∧ (1 < d.length ∨ minus = true))
  · rw [if_pos h1] at h; simp at h
  · rw [if_neg h1] at h ⊢
    cases h2 : d.any (fun c => !(decide (48 ≤ c.toNat) && decide (c.toNat ≤ 57))) with
    | true => rw [h2] at h; simp at h
    | false =>
      rw [h2] at h
      simp only [Bool.false_eq_true, if_false] at h ⊢
      by_cases h3 : 9223372036854775808 < valF 0 d ∨ (minus = false ∧ valF 0 d = 9223372036854775808)
      · rw [if_pos h3] at h; simp at h
      · rw [if_neg h3]
        have hd := (any_dig d).1 h2
        cases d with
        | nil => exact absurd (Or.inl rfl) h1
        | cons c r =>
          have hz : c.toNat ≠ 48 ∨ r = [] := by
            by_cases hc : c.toNat = 48
            · right
              have hc' : c = 48 := UInt8.toNat_inj.1 hc
              cases r with
              | nil => rfl
              | cons x y => exact absurd (Or.inr (Or.inr ⟨by rw [hc']; rfl, Or.inl (by simp)⟩)) h1
            · exact Or.inl hc
          have hval := decDigits_val0 c r hd hz
          cases minus with
          | true =>
            have hpos : 1 ≤ valF 0 (c :: r) := by
              have hc : c.toNat ≠ 48 := by
                intro hc
                have hc' : c = 48 := UInt8.toNat_inj.1 hc
                exact h1 (Or.inr (Or.inr ⟨by rw [hc']; rfl, Or.inr rfl⟩))
              have h4 := hd c (by simp)
              unfold digP at h4
              have := valF_le r (0 * 10 + (c.toNat - 48))
              rw [valF_cons]
              omega
            simp only [if_true]
            refine ⟨?_, ?_⟩
            · rw [itoa_neg _ hpos, hval]
            · unfold i64R; omega
          | false =>
            simp only [Bool.false_eq_true, if_false]
            refine ⟨?_, ?_⟩
            · rw [itoa_nonneg, hval]
            · unfold i64R
              have : valF 0 (c :: r) ≠ 9223372036854775808 := fun e => h3 (Or.inr ⟨rfl, e⟩)
              omega
theorem magR_err (minus : Bool) (d : List UInt8) (h : (magR minus d).2 ≠ 0) : magR minus d = (0, 4) := by
  unfold magR at h ⊢
  split
  · rfl
  · rename_i h1
    rw [if_neg h1] at h
    split
    · rfl
    · rename_i h2
      rw [if_neg h2] at h
      split
      · rfl
      · rename_i h3
        rw [if_neg h3] at h
        exact absurd rfl h

theorem nDigits_le19 (n : Nat) (h : n ≤ 9223372036854775808) : (decDigits n).length ≤ 19 := by
  rw [decDigits_length]
  by_cases h0 : nDigits n ≤ 19
  · exact h0
  · exfalso
    have h1 : ∀ k u : Nat, k < nDigits u → k = 0 ∨ 10 ^ k ≤ u := by
      intro k
      induction k with
      | zero => intro u _; exact Or.inl rfl
      | succ k ih =>
        intro u hk
        right
        by_cases hu : u < 10
        · rw [nDigits_small hu] at hk; omega
        · rw [nDigits_big hu] at hk
          rcases ih (u / 10) (by omega) with h2 | h2
          · subst h2; simp; omega
          · rw [Nat.pow_succ]; omega
    rcases h1 19 n (by omega) with h2 | h2
    · omega
    · have : (10 : Nat) ^ 19 = 10000000000000000000 := by decide
      omega

theorem magR_dec (minus : Bool) (n : Nat) (h : n ≤ 9223372036854775808) (h2 : minus = false → n ≠ 9223372036854775808) (h3 : minus = true → 1 ≤ n) : magR minus (decDigits n) = (if minus then -(n : Int) else n, 0) := by
  have hd := decDigits_dig n
  have hv := valF_decDigits n
  have hl := nDigits_le19 n h
  have hh : (decDigits n).head? = some 48 → n = 0 := by
    intro hh
    by_cases h0 : n = 0
    · exact h0
    · exfalso
      have key : ∀ u : Nat, 1 ≤ u → (decDigits u).head? ≠ some 48 := by
        intro u
        induction u using Nat.strongRecOn with
        | _ u ih =>
          intro hu he
          by_cases h9 : u < 10
          · rw [decDigits, dif_pos h9] at he
            simp only [List.head?_cons, Option.some.injEq] at he
            have := congrArg UInt8.toNat he
            rw [u8d u h9] at this
            have h48 : (48 : UInt8).toNat = 48 := rfl
            omega
          · rw [decDigits, dif_neg h9] at he
            refine ih (u / 10) (by omega) (by omega) ?_
            cases hx : decDigits (u / 10) with
            | nil => exact absurd hx (decDigits_ne _)
            | cons a b => rw [hx] at he; simpa using he
      exact key n (by omega) hh
  unfold magR
  rw [if_neg, hv]
  · rw [(any_dig _).2 hd]
    simp only [Bool.false_eq_true, if_false]
    rw [if_neg]
    intro hx
    rcases hx with hx | ⟨hx, hy⟩
    · omega
    · exact h2 hx hy
  · intro hx
    rcases hx with hx | hx | ⟨hx, hy⟩
    · exact decDigits_ne n hx
    · omega
    · have h0 := hh hx
      subst h0
      rcases hy with hy | hy
      · have : decDigits 0 = [48] := by rw [decDigits, dif_pos (by omega)]; rfl
        rw [this] at hy; simp at hy
      · have := h3 hy; omega

theorem takeR_eq (s : List UInt8) : takeR s = takeN s := by
  cases s with
  | nil => rfl
  | cons c r =>
    refine takeN_unique _ _ ?_ ?_ ?_
    · intro v hv hs
      unfold i64R at hv
      by_cases hn : v < 0
      · obtain ⟨n, hvn⟩ : ∃ n : Nat, v.natAbs = n := ⟨_, rfl⟩
        have hi : itoa v = 45 :: decDigits n := by unfold itoa; rw [if_pos hn, hvn]
        rw [hi] at hs
        injection hs with hc hr
        subst hc hr
        unfold takeR
        simp only [if_true]
        rw [magR_dec true n (by omega) (by simp) (by omega)]
        simp only [if_true]
        congr 1; omega
      · obtain ⟨n, rfl⟩ := Int.eq_ofNat_of_zero_le (show 0 ≤ v by omega)
        rw [itoa_nonneg] at hs
        have hc := decDigits_dig n c (by rw [hs]; simp)
        unfold digP at hc
        have hne : c ≠ 45 := by intro e; subst e; have : (45 : UInt8).toNat = 45 := rfl; omega
        unfold takeR
        simp only
        rw [if_neg hne, ← hs, magR_dec false n (by omega) (by omega) (by simp)]
        simp
    · intro h
      unfold takeR at h ⊢
      simp only at h ⊢
      by_cases hc : c = 45
      · subst hc
        simp only [if_true] at h ⊢
        have := magR_ok true r h
        simpa using this
      · rw [if_neg hc] at h ⊢
        have := magR_ok false (c :: r) h
        simpa using this
    · intro h
      have e : takeR (c :: r) = if c = 45 then magR true r else magR false (c :: r) := rfl
      rw [e] at h ⊢
      rw [show (if c :: r = [] then (3 : Int) else 4) = 4 by simp]
      by_cases hc : c = 45
      · subst hc
        simp only [if_true] at h ⊢
        exact magR_err true r h
      · rw [if_neg hc] at h ⊢
        exact magR_err false (c :: r) h
end Go.Proofs.YtlhbbpagjkjplaaDoor
