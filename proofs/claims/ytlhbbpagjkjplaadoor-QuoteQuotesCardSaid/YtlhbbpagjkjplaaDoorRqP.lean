/- Plain laws of the reference's reading of quoted text. Conditions: those written at each theorem. -/
import Derived.Test.YtlhbbpagjkjplaaDoorBackP
set_option linter.unusedVariables false
set_option linter.unusedSimpArgs false
namespace Go.Proofs.YtlhbbpagjkjplaaDoor
open Go.Lib

def oct2 : By → Bool
  | e :: g :: _ => decide (48 ≤ e.toNat) && decide (e.toNat ≤ 55) && decide (48 ≤ g.toNat) && decide (g.toNat ≤ 55)
  | _ => false
def oct2V (d : UInt8) : By → UInt8
  | e :: g :: _ => UInt8.ofNat (64 * (d.toNat - 48) + 8 * (e.toNat - 48) + (g.toNat - 48))
  | _ => 0

/-- The reference's reading, from place i on (m: what stands there), up to the mark at n. -/
def refD (n : Nat) : Nat → Nat → By → By
  | 0, _, _ => []
  | f + 1, i, m =>
    if n ≤ i then [] else
    match m with
    | [] => []
    | c :: r =>
      if c.toNat ≠ 92 then c :: refD n f (i + 1) r else
      match r with
      | [] => []
      | d :: q =>
        if d.toNat = 110 then 10 :: refD n f (i + 2) q
        else if d.toNat = 116 then 9 :: refD n f (i + 2) q
        else if (48 ≤ d.toNat ∧ d.toNat ≤ 51) ∧ i + 3 < n ∧ oct2 q = true then oct2V d q :: refD n f (i + 4) (q.drop 2)
        else d :: refD n f (i + 2) q

theorem refD_done (n f i : Nat) (m : By) (h : n ≤ i) : refD n f i m = [] := by
  cases f with
  | zero => rfl
  | succ f => unfold refD; rw [if_pos h]

theorem refD_fuel (n : Nat) : ∀ (f g i : Nat) (m : By), n - i ≤ f → n - i ≤ g → refD n f i m = refD n g i m := by
  intro f
  induction f with
  | zero => intro g i m h1 h2; rw [refD_done _ _ _ _ (by omega), refD_done _ _ _ _ (by omega)]
  | succ f ih =>
    intro g i m h1 h2
    by_cases hn : n ≤ i
    · rw [refD_done _ _ _ _ hn, refD_done _ _ _ _ hn]
    · obtain ⟨g, rfl⟩ : ∃ g', g = g' + 1 := ⟨g - 1, by omega⟩
      unfold refD
      rw [if_neg hn, if_neg hn]
      cases m with
      | nil => rfl
      | cons c r =>
        dsimp only
        cases r with
        | nil => dsimp only; rw [ih g (i + 1) [] (by omega) (by omega)]
        | cons d q =>
          dsimp only
          rw [ih g (i + 1) (d :: q) (by omega) (by omega), ih g (i + 2) q (by omega) (by omega), ih g (i + 4) (q.drop 2) (by omega) (by omega)]

/-- One step, at a quoted byte. -/
theorem refD_one (n f i : Nat) (c : UInt8) (x : By) (h : i + (oneL c).length ≤ n) : refD n (f + 1) i (oneL c ++ x) = c :: refD n f (i + (oneL c).length) x := by
  have hc := c.toNat_lt
  by_cases c1 : c.toNat = 34 ∨ c.toNat = 92
  · have ho : oneL c = [92, c] := by unfold oneL; rw [if_pos c1]
    rw [ho] at h ⊢
    simp only [List.length_cons, List.length_nil] at h
    show refD n (f + 1) i (92 :: c :: x) = c :: refD n f (i + 2) x
    conv => lhs; unfold refD
    rw [if_neg (by omega)]
    dsimp only
    rw [if_neg (by decide), if_neg (by omega), if_neg (by omega), if_neg (by omega)]
  · by_cases c2 : c.toNat = 10
    · obtain rfl : c = 10 := UInt8.toNat_inj.1 c2
      show refD n (f + 1) i (92 :: 110 :: x) = 10 :: refD n f (i + 2) x
      have h' : i + 2 ≤ n := h
      conv => lhs; unfold refD
      rw [if_neg (by omega)]
      dsimp only
      rw [if_neg (by decide), if_pos (by decide)]
    · by_cases c3 : c.toNat = 9
      · obtain rfl : c = 9 := UInt8.toNat_inj.1 c3
        show refD n (f + 1) i (92 :: 116 :: x) = 9 :: refD n f (i + 2) x
        have h' : i + 2 ≤ n := h
        conv => lhs; unfold refD
        rw [if_neg (by omega)]
        dsimp only
        rw [if_neg (by decide), if_neg (by decide), if_pos (by decide)]
      · by_cases c4 : 32 ≤ c.toNat ∧ c.toNat < 127
        · have ho : oneL c = [c] := by unfold oneL; rw [if_neg c1, if_neg c2, if_neg c3, if_pos c4]
          rw [ho] at h ⊢
          simp only [List.length_cons, List.length_nil] at h
          show refD n (f + 1) i (c :: x) = c :: refD n f (i + 1) x
          conv => lhs; unfold refD
          rw [if_neg (by omega)]
          dsimp only
          rw [if_pos (by omega)]
        · have ho : oneL c = octL c := by unfold oneL; rw [if_neg c1, if_neg c2, if_neg c3, if_neg c4]
          rw [ho] at h ⊢
          simp only [octL, List.length_cons, List.length_nil] at h
          have d0 := dig_n (c.toNat / 64) (by omega)
          have d1 := dig_n (c.toNat / 8 % 8) (by omega)
          have d2 := dig_n (c.toNat % 8) (by omega)
          have h2 : oct2 (UInt8.ofNat (48 + c.toNat / 8 % 8) :: UInt8.ofNat (48 + c.toNat % 8) :: x) = true := by
            unfold oct2; dsimp only; rw [d1, d2]; simp; omega
          have h3 : oct2V (UInt8.ofNat (48 + c.toNat / 64)) (UInt8.ofNat (48 + c.toNat / 8 % 8) :: UInt8.ofNat (48 + c.toNat % 8) :: x) = c := by
            unfold oct2V
            dsimp only
            rw [d0, d1, d2, show 64 * (48 + c.toNat / 64 - 48) + 8 * (48 + c.toNat / 8 % 8 - 48) + (48 + c.toNat % 8 - 48) = c.toNat by omega, UInt8.ofNat_toNat]
          show refD n (f + 1) i (92 :: UInt8.ofNat (48 + c.toNat / 64) :: (UInt8.ofNat (48 + c.toNat / 8 % 8) :: UInt8.ofNat (48 + c.toNat % 8) :: x)) = c :: refD n f (i + 4) x
          conv => lhs; unfold refD
          rw [if_neg (by omega)]
          dsimp only
          rw [if_neg (by decide), if_neg (by omega), if_neg (by omega), if_pos ⟨by omega, by omega, h2⟩, h3]
          rfl

theorem refD_body (n : Nat) : ∀ (o : By) (f i : Nat) (x : By), i + (bodyL o).length = n → n - i ≤ f → refD n f i (bodyL o ++ x) = o
  | [], f, i, x, h, hf => by simp only [bodyL, List.flatMap_nil, List.length_nil] at h; exact refD_done _ _ _ _ (by omega)
  | c :: o, f, i, x, h, hf => by
    have hl := oneL_length c
    have hb : bodyL (c :: o) = oneL c ++ bodyL o := rfl
    rw [hb, List.length_append] at h
    obtain ⟨f, rfl⟩ : ∃ f', f = f' + 1 := ⟨f - 1, by omega⟩
    rw [hb, List.append_assoc, refD_one n f i c _ (by omega), refD_body n o f _ x (by omega) (by omega)]

/-- What the reference answers of a quoted text. -/
def refC (l : By) (n : Nat) : By × Int × Int :=
  if quoteL (refD n n 1 (l.drop 1)) = l.take (n + 1) then (refD n n 1 (l.drop 1), ((n + 1 : Nat) : Int), 0) else ([], 0, 4)

theorem quote_form (o l : By) (n : Nat) (hh : l.head? = some 34) (h : quoteL o = l.take (n + 1)) (hn : n < l.length) : l.take (n + 1) = 34 :: (bodyL o ++ [34]) := by
  by_cases hp : (plainB o && cleanB o) = true
  · have hq : quoteL o = o := by unfold quoteL; rw [if_pos hp]
    have := plain_head o hp []
    rw [List.append_nil, ← hq, h] at this
    exact absurd (by cases l with
      | nil => cases hh
      | cons a r => simpa using hh) this
  · rw [← h]; unfold quoteL; rw [if_neg hp]

theorem refC_eq (l : By) (n : Nat) (hh : l.head? = some 34) (h1 : 1 ≤ n) (hn : n < l.length) : refC l n = unqC l n (decB l.length ((l.take n).drop 1)) := by
  by_cases hex : ∃ o, quoteL o = l.take (n + 1)
  · obtain ⟨o, ho⟩ := hex
    have hf := quote_form o l n hh ho hn
    have hlen : n + 1 = 1 + (bodyL o).length + 1 := by
      have := congrArg List.length hf
      rw [List.length_take] at this
      simp at this; omega
    have hbn : 1 + (bodyL o).length = n := by omega
    have hd : l.drop 1 = bodyL o ++ (34 :: l.drop (n + 1)) := by
      have h2 : l.drop 1 = (l.take (n + 1) ++ l.drop (n + 1)).drop 1 := by rw [List.take_append_drop]
      rw [h2, hf]
      simp
    have hr : refD n n 1 (l.drop 1) = o := by rw [hd]; exact refD_body n o n 1 _ hbn (by omega)
    have hi : (l.take n).drop 1 = bodyL o := by
      rw [List.drop_take, hd, show n - 1 = (bodyL o).length by omega, List.take_left]
    unfold refC
    rw [hr, if_pos ho, hi, decB_fuel _ _ (by omega), dec_body]
    unfold unqC
    dsimp only
    rw [if_pos ho]
  · unfold refC
    rw [if_neg (fun h => hex ⟨_, h⟩)]
    unfold unqC
    split
    · rfl
    · rename_i o ho
      rw [if_neg (fun h => hex ⟨_, h⟩)]

theorem idx_none (set : By) : ∀ l : By, (∀ c ∈ l, c ∉ set) → indexAny l set = -1 := by
  intro l
  induction l with
  | nil => intro _; rfl
  | cons c l ih =>
    intro h
    have h1 := ih (fun x hx => h x (List.mem_cons_of_mem _ hx))
    have h2 := h c (List.mem_cons_self ..)
    unfold indexAny
    rw [if_neg (by simpa using h2), h1]; rfl
theorem head_at (l : By) (k : Nat) (hk : k < l.length) (h : ∀ c ∈ l.take k, c ∉ ([32, 10] : By)) (hc : l[k]'hk ∈ ([32, 10] : By)) : headLen l = k := by
  have h1 : l = l.take k ++ (l[k]'hk) :: l.drop (k + 1) := by rw [← List.drop_eq_getElem_cons hk, List.take_append_drop]
  have h2 := idx_clean [32, 10] (l[k]'hk) (l.drop (k + 1)) hc (l.take k) h
  rw [← h1, List.length_take, Nat.min_eq_left (by omega)] at h2
  unfold headLen
  rw [h2, if_neg (by omega)]; rfl
theorem head_all (l : By) (h : ∀ c ∈ l, c ∉ ([32, 10] : By)) : headLen l = l.length := by
  unfold headLen; rw [idx_none _ _ h, if_pos rfl]
end Go.Proofs.YtlhbbpagjkjplaaDoor
