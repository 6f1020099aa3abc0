/- Contracts and plain laws for the proofs of this seat. Conditions: those written at each theorem. -/
import Derived.Test.YtlhbbpagjkjplaaDoorUnq
set_option linter.unusedVariables false
set_option linter.unusedSimpArgs false
namespace Go.Proofs.YtlhbbpagjkjplaaDoor
open Go.RowKit Go.Proofs

def octF (l : By) : Nat → Int
  | 0 => 0
  | n + 1 => 8 * octF l n + (((l.getD (n + 1) 0).toNat : Int) - 48)
def octD (l : By) (k : Nat) : Prop := ∀ j, 1 ≤ j → j < k → 48 ≤ (l.getD j 0).toNat ∧ (l.getD j 0).toNat ≤ 55

theorem octF_bd (l : By) : ∀ (n k : Nat), octD l k → n < k → n ≤ 3 → 0 ≤ octF l n ∧ octF l n ≤ 511 := by
  intro n k h hn h3
  match n, hn, h3 with
  | 0, _, _ => simp [octF]
  | 1, hn, _ => have h1 := h 1 (by omega) (by omega); simp only [octF, Nat.zero_add, Nat.reduceAdd]; omega
  | 2, hn, _ => have h1 := h 1 (by omega) (by omega); have h2 := h 2 (by omega) (by omega); simp only [octF, Nat.zero_add, Nat.reduceAdd]; omega
  | 3, hn, _ => have h1 := h 1 (by omega) (by omega); have h2 := h 2 (by omega) (by omega); have h3 := h 3 (by omega) (by omega); simp only [octF, Nat.zero_add, Nat.reduceAdd]; omega

/-- An escape that is none of the short ones. -/
def longE (l : By) : Prop := 4 ≤ l.length ∧ (l.getD 0 0).toNat = 92 ∧ ¬ ((l.getD 1 0).toNat = 34 ∨ (l.getD 1 0).toNat = 92) ∧ (l.getD 1 0).toNat ≠ 110 ∧ (l.getD 1 0).toNat ≠ 116
theorem taken_long (l : By) (h : longE l) : takenL l = (octV (l.getD 1 0) (l.getD 2 0) (l.getD 3 0)).map fun v => (v, 4) := by
  obtain ⟨h0, h1, h2, h3, h4⟩ := h
  match l, h0, h1, h2, h3, h4 with
  | a :: b :: c :: d :: r, _, h1, h2, h3, h4 =>
    simp only [List.getD_cons_zero, List.getD_cons_succ] at h1 h2 h3 h4 ⊢
    unfold takenL
    dsimp only
    rw [if_neg (by omega), if_neg h2, if_neg h3, if_neg h4]
theorem taken_bad (l : By) (h : longE l) (j : Nat) (hj : 1 ≤ j) (hj4 : j < 4) (hb : (l.getD j 0).toNat < 48 ∨ 55 < (l.getD j 0).toNat) : takenL l = none := by
  rw [taken_long l h]
  unfold octV
  rw [if_neg]
  · rfl
  · rintro ⟨h1, h2, h3, _⟩
    match j, hj, hj4, hb with
    | 1, _, _, hb => omega
    | 2, _, _, hb => omega
    | 3, _, _, hb => omega
theorem taken_oct (l : By) (h : longE l) (hd : octD l 4) : takenL l = if octF l 3 ≤ 255 then some (UInt8.ofNat (octF l 3).toNat, 4) else none := by
  rw [taken_long l h]
  have h1 := hd 1 (by omega) (by omega)
  have h2 := hd 2 (by omega) (by omega)
  have h3 := hd 3 (by omega) (by omega)
  have he : octF l 3 = ((64 * ((l.getD 1 0).toNat - 48) + 8 * ((l.getD 2 0).toNat - 48) + ((l.getD 3 0).toNat - 48) : Nat) : Int) := by simp only [octF, Nat.zero_add, Nat.reduceAdd]; omega
  unfold octV
  rw [he]
  by_cases hq : 64 * ((l.getD 1 0).toNat - 48) + 8 * ((l.getD 2 0).toNat - 48) + ((l.getD 3 0).toNat - 48) ≤ 255
  · rw [if_pos ⟨h1, h2, h3, hq⟩, if_pos (by omega), Int.toNat_natCast]; rfl
  · rw [if_neg (fun h => hq h.2.2.2), if_neg (by omega)]; rfl

def takenV (l : By) : UInt8 × Nat := (takenL l).getD (0, 0)

theorem getD_at (s : ByteArray) (j : Nat) (h : j < s.size) : s.data.toList.getD j 0 = s[j]'h := by
  rw [get_dl]; simp [List.getD, List.getElem?_eq_getElem (show j < s.data.toList.length from h)]

theorem ret_ui {a b : UInt8} {n m : Nat} (h : (a, n) = (b, m)) : Ending.returned (.tuple #[.int .u8 (a.toNat : Int), .int .i64 (n : Int)]) = .returned (.tuple #[.int .u8 (b.toNat : Int), .int .i64 (m : Int)]) := by cases h; rfl

set_option maxHeartbeats 8000000 in
set_option maxRecDepth 100000 in
theorem Tryd.qtaken_long (s : ByteArray) (w : World) (hs : s.size ≤ 1000000000) (hl : longE s.data.toList) :
    Calls Tryd.prog 59 #[.string s] w fun e w' => e = .returned (.tuple #[.int .u8 ((takenV s.data.toList).1.toNat : Int), .int .i64 ((takenV s.data.toList).2 : Int)]) ∧ w' = w := by
  obtain ⟨h4, h0, h1, h2, h3⟩ := hl
  have HL := Lib.hid (show longE s.data.toList from ⟨h4, h0, h1, h2, h3⟩)
  have h4' : 4 ≤ s.size := h4
  rw [getD_at s 0 (by omega)] at h0
  rw [getD_at s 1 (by omega)] at h1 h2 h3
  obtain ⟨x0, hx0⟩ : ∃ x, s[0]'(by omega) = x := ⟨_, rfl⟩
  obtain ⟨x1, hx1⟩ : ∃ x, s[1]'(by omega) = x := ⟨_, rfl⟩
  rw [hx0] at h0
  rw [hx1] at h1 h2 h3
  have e0 : ((x0.toNat : Int) != 92) = false := by simp; omega
  have e1 : ((x1.toNat : Int) == 34) = false := beqI_f (by omega)
  have e2 : ((x1.toNat : Int) == 92) = false := beqI_f (by omega)
  have e3 : ((x1.toNat : Int) == 110) = false := beqI_f (by omega)
  have e4 : ((x1.toNat : Int) == 116) = false := beqI_f (by omega)
  have e5 : (2 : Int) ≤ (s.size : Int) := by omega
  have e6 : ¬ (s.size : Int) < 4 := by omega
  have HX1 := Lib.hid hx1
  clear h0 h1 h2 h3 h4
  go_enter Tryd.func59, Tryd.ntmps59
  go_wp2
  go_loop [4, 5] (fun v i => ∃ k : Nat, 1 ≤ k ∧ k ≤ 4 ∧ i = .int .i64 (k : Int) ∧ v = .int .i64 (octF s.data.toList (k - 1)) ∧ Hid (octD s.data.toList k)) (fun _ i => 4 - (intOf i).toNat)
  case atStart => exact ⟨1, by omega, by omega, rfl, rfl, fun j h1 h2 => by omega⟩
  case round =>
    obtain ⟨k, hk1, hk4, rfl, rfl, HD⟩ := hrel
    obtain ⟨hv0, hv1⟩ := octF_bd s.data.toList (k - 1) k HD.out (by omega) (by omega)
    obtain ⟨v, hv⟩ : ∃ v, octF s.data.toList (k - 1) = v := ⟨_, rfl⟩
    rw [hv] at hv0 hv1
    have HV := Lib.hid hv
    rw [hv]
    clear hv
    clear hx1
    by_cases hlt : k < 4
    · have hks : k < s.size := by omega
      obtain ⟨x, hx⟩ : ∃ x, s[k]'hks = x := ⟨_, rfl⟩
      have hgx : s.data.toList.getD k 0 = x := by rw [getD_at s k hks, hx]
      have HG := Lib.hid hgx
      clear hgx
      by_cases hA : x.toNat < 48
      · have hn : takenV s.data.toList = (0, 0) := by
          unfold takenV; rw [taken_bad _ HL.out k hk1 hlt (by rw [HG.out]; exact .inl hA)]; rfl
        have HN := Lib.hid hn
        have e7 : (x.toNat : Int) < 48 := by omega
        clear hn hA
        go_wp2
        go_ret2
        exact ⟨ret_ui (a := 0) (n := 0) HN.out.symm, rfl⟩
      · by_cases hB : 55 < x.toNat
        · have hn : takenV s.data.toList = (0, 0) := by
            unfold takenV; rw [taken_bad _ HL.out k hk1 hlt (by rw [HG.out]; exact .inr hB)]; rfl
          have HN := Lib.hid hn
          have e7 : decide ((x.toNat : Int) < 48) = false := by simp; omega
          have e8 : (55 : Int) < (x.toNat : Int) := by omega
          clear hn hA hB
          go_wp2
          go_ret2
          exact ⟨ret_ui (a := 0) (n := 0) HN.out.symm, rfl⟩
        · have e7 : (48 : Int) ≤ (x.toNat : Int) := by omega
          have e8 : (x.toNat : Int) ≤ 55 := by omega
          have e9 : decide ((x.toNat : Int) < 48) = false := by simp; omega
          have hd2 : octD s.data.toList (k + 1) := by
            intro j h1 h2
            by_cases hj : j = k
            · rw [hj, HG.out]; omega
            · exact HD.out j h1 (by omega)
          have hf2 : octF s.data.toList k = 8 * v + ((x.toNat : Int) - 48) := by
            obtain ⟨m, rfl⟩ : ∃ m, k = m + 1 := ⟨k - 1, by omega⟩
            show 8 * octF s.data.toList m + _ = _
            rw [HG.out, show octF s.data.toList m = v from HV.out]
          have HD2 := Lib.hid hd2
          have HF2 := Lib.hid hf2
          clear hd2 hf2 hA hB
          go_wp2
          go_round
          case rel => exact ⟨k + 1, by omega, by omega, by go_num, by rw [show k + 1 - 1 = k by omega, HF2.out], HD2⟩
          case measure => simp [intOf]; omega
    · have hk : k = 4 := by omega
      have hd4 : octD s.data.toList 4 := by rw [← hk]; exact HD.out
      have hv3 : octF s.data.toList 3 = v := by have := HV.out; rw [hk] at this; exact this
      have ht := taken_oct _ HL.out hd4
      rw [hv3] at ht
      clear hd4 hv3 hk
      by_cases hq : v ≤ 255
      · rw [if_pos hq] at ht
        have hn : takenV s.data.toList = (UInt8.ofNat v.toNat, 4) := by unfold takenV; rw [ht]; rfl
        have HN := Lib.hid hn
        have hvv : ((UInt8.ofNat v.toNat).toNat : Int) = v := by rw [u8n _ (by omega)]; omega
        have HVV := Lib.hid hvv
        clear hn ht hvv
        go_wp2
        go_ret2
        refine ⟨?_, rfl⟩
        rw [HN.out]
        show _ = Ending.returned (.tuple #[.int .u8 ((UInt8.ofNat v.toNat).toNat : Int), .int .i64 4])
        rw [HVV.out]
        rfl
      · rw [if_neg hq] at ht
        have hn : takenV s.data.toList = (0, 0) := by unfold takenV; rw [ht]; rfl
        have HN := Lib.hid hn
        have e9 : (255 : Int) < v := by omega
        clear hn ht hq
        go_wp2
        go_ret2
        exact ⟨ret_ui (a := 0) (n := 0) HN.out.symm, rfl⟩

set_option maxHeartbeats 4000000 in
set_option maxRecDepth 100000 in
/-- .. of a text that begins with no escape, or with a short one, or with too few signs. -/
theorem Tryd.qtaken_short (s : ByteArray) (w : World) (hs : s.size ≤ 1000000000) (h1 : 1 ≤ s.size) (hl : ¬ longE s.data.toList) :
    Calls Tryd.prog 59 #[.string s] w fun e w' => e = .returned (.tuple #[.int .u8 ((takenV s.data.toList).1.toNat : Int), .int .i64 ((takenV s.data.toList).2 : Int)]) ∧ w' = w := by
  obtain ⟨x0, hx0⟩ : ∃ x, s[0]'(by omega) = x := ⟨_, rfl⟩
  obtain ⟨r, hr⟩ : ∃ r, s.data.toList = x0 :: r := ⟨s.data.toList.drop 1, by rw [← hx0, get_dl]; exact (List.drop_zero (l := s.data.toList)).symm.trans (List.drop_eq_getElem_cons (show 0 < s.data.toList.length from h1))⟩
  have hsz : s.size = r.length + 1 := by rw [size_dl, hr]; rfl
  by_cases h0 : x0.toNat = 92
  · have e0 : ((x0.toNat : Int) != 92) = false := by simp; omega
    cases r with
    | nil =>
      have hn : takenV s.data.toList = (0, 0) := by unfold takenV; rw [hr]; unfold takenL; dsimp only; rw [if_neg (by omega)]; rfl
      have HN := Lib.hid hn
      have e5 : decide ((2 : Int) ≤ (s.size : Int)) = false := by rw [hsz]; rfl
      have e6 : (s.size : Int) < 4 := by rw [hsz]; decide
      clear hn h0 hsz hr hl
      go_enter Tryd.func59, Tryd.ntmps59
      go_wp2
      go_ret2
      exact ⟨ret_ui (a := 0) (n := 0) HN.out.symm, rfl⟩
    | cons x1 q =>
      simp only [List.length_cons] at hsz
      have hs1 : 1 < s.size := by omega
      have hx1 : s[1]'hs1 = x1 := by rw [get_dl]; simp [hr]
      have e5 : (2 : Int) ≤ (s.size : Int) := by omega
      have HR := Lib.hid hr
      have HX0 := Lib.hid h0
      clear hr h0
      by_cases hA : x1.toNat = 34 ∨ x1.toNat = 92
      · have hn : takenV s.data.toList = (x1, 2) := by unfold takenV; rw [HR.out]; unfold takenL; dsimp only; rw [if_neg (by have := HX0.out; omega), if_pos hA]; rfl
        have HN := Lib.hid hn
        clear hn hsz hl
        rcases hA with h | h
        · obtain rfl : x1 = 34 := UInt8.toNat_inj.1 h
          clear h
          go_enter Tryd.func59, Tryd.ntmps59
          go_wp2
          go_ret2
          exact ⟨ret_ui (a := 34) (n := 2) HN.out.symm, rfl⟩
        · obtain rfl : x1 = 92 := UInt8.toNat_inj.1 h
          clear h
          go_enter Tryd.func59, Tryd.ntmps59
          go_wp2
          go_ret2
          exact ⟨ret_ui (a := 92) (n := 2) HN.out.symm, rfl⟩
      · have e1 : ((x1.toNat : Int) == 34) = false := beqI_f (by omega)
        have e2 : ((x1.toNat : Int) == 92) = false := beqI_f (by omega)
        by_cases hB : x1.toNat = 110
        · have hn : takenV s.data.toList = (10, 2) := by unfold takenV; rw [HR.out]; unfold takenL; dsimp only; rw [if_neg (by have := HX0.out; omega), if_neg hA, if_pos hB]; rfl
          have HN := Lib.hid hn
          have e3 : ((x1.toNat : Int) == 110) = true := beqI_t (by omega)
          clear hn hA hB hsz hl
          go_enter Tryd.func59, Tryd.ntmps59
          go_wp2
          go_ret2
          exact ⟨ret_ui (a := 10) (n := 2) HN.out.symm, rfl⟩
        · by_cases hC : x1.toNat = 116
          · have hn : takenV s.data.toList = (9, 2) := by unfold takenV; rw [HR.out]; unfold takenL; dsimp only; rw [if_neg (by have := HX0.out; omega), if_neg hA, if_neg hB, if_pos hC]; rfl
            have HN := Lib.hid hn
            have e3 : ((x1.toNat : Int) == 110) = false := beqI_f (by omega)
            have e4 : ((x1.toNat : Int) == 116) = true := beqI_t (by omega)
            clear hn hA hB hC hsz hl
            go_enter Tryd.func59, Tryd.ntmps59
            go_wp2
            go_ret2
            exact ⟨ret_ui (a := 9) (n := 2) HN.out.symm, rfl⟩
          · have hlt : s.size < 4 := by
              rcases Nat.lt_or_ge s.size 4 with h | h
              · exact h
              · refine absurd ⟨h, ?_⟩ hl
                rw [HR.out]
                exact ⟨HX0.out, hA, hB, hC⟩
            have hn : takenV s.data.toList = (0, 0) := by
              unfold takenV; rw [HR.out]; unfold takenL; dsimp only
              rw [if_neg (by have := HX0.out; omega), if_neg hA, if_neg hB, if_neg hC]
              rcases q with _ | ⟨a, _ | ⟨b, q⟩⟩
              · rfl
              · rfl
              · simp only [List.length_cons] at hsz; omega
            have HN := Lib.hid hn
            have e3 : ((x1.toNat : Int) == 110) = false := beqI_f (by omega)
            have e4 : ((x1.toNat : Int) == 116) = false := beqI_f (by omega)
            have e6 : (s.size : Int) < 4 := by omega
            clear hn hA hB hC hsz hl
            go_enter Tryd.func59, Tryd.ntmps59
            go_wp2
            go_ret2
            exact ⟨ret_ui (a := 0) (n := 0) HN.out.symm, rfl⟩
  · have e0 : ((x0.toNat : Int) != 92) = true := by simp; omega
    have hn : takenV s.data.toList = (x0, 1) := by unfold takenV; rw [hr]; unfold takenL; dsimp only; rw [if_pos h0]; rfl
    have HN := Lib.hid hn
    clear hn h0 hsz hr hl
    go_enter Tryd.func59, Tryd.ntmps59
    go_wp2
    go_ret2
    exact ⟨ret_ui (n := 1) HN.out.symm, rfl⟩

theorem Tryd.qtaken (s : ByteArray) (w : World) (hs : s.size ≤ 1000000000) (h1 : 1 ≤ s.size) :
    Calls Tryd.prog 59 #[.string s] w fun e w' => e = .returned (.tuple #[.int .u8 ((takenV s.data.toList).1.toNat : Int), .int .i64 ((takenV s.data.toList).2 : Int)]) ∧ w' = w := by
  by_cases hl : longE s.data.toList
  · exact Tryd.qtaken_long s w hs hl
  · exact Tryd.qtaken_short s w hs h1 hl
end Go.Proofs.YtlhbbpagjkjplaaDoor
