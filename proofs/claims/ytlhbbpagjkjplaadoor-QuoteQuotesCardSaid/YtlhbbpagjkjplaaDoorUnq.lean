/- Contracts and plain laws for the proofs of this seat. Conditions: those written at each theorem. -/
import Derived.Test.YtlhbbpagjkjplaaDoorQuo
import Derived.Test.YtlhbbpagjkjplaaDoorIdx
set_option linter.unusedVariables false
set_option linter.unusedSimpArgs false
namespace Go.Proofs.YtlhbbpagjkjplaaDoor
open Go.RowKit Go.Proofs

theorem ret_sii {a b : By} {n m e f : Int} (h : a = b) (h2 : n = m) (h3 : e = f) : Ending.returned (.tuple #[.string ⟨a.toArray⟩, .int .i64 n, .int .i64 e]) = .returned (.tuple #[.string ⟨b.toArray⟩, .int .i64 m, .int .i64 f]) := by rw [h, h2, h3]

theorem sp2_ascii : asciiL (⟨#[32, 10]⟩ : ByteArray).data.toList := by
  intro j b h
  match j, h with
  | 0, h => simp at h; subst h; decide
  | 1, h => simp at h; subst h; decide
  | j + 2, h => simp at h

set_option maxHeartbeats 4000000 in
set_option maxRecDepth 100000 in
theorem Tryd.qplain (s : ByteArray) (w : World) (hs : s.size ≤ 1000000000) (hT : Lib.Utf8Tabs 1 2 w) :
    Calls Tryd.prog 57 #[.string s] w fun e w' => e = .returned (.tuple #[.string ⟨(plainR s.data.toList).1.toArray⟩, .int .i64 (plainR s.data.toList).2.1, .int .i64 (plainR s.data.toList).2.2]) ∧ Below w.heap.size w w' := by
  obtain ⟨k, hk⟩ : ∃ k, headLen s.data.toList = k := ⟨_, rfl⟩
  have hkl := headLen_le s.data.toList
  rw [hk] at hkl
  have hkl' : k ≤ s.size := hkl
  have HK := Lib.hid hk
  have HT := Lib.hid hT
  clear hk hT hkl
  go_enter Tryd.func57, Tryd.ntmps57
  go_wp2_with fail
  refine (Tryd.IndexAny s ⟨#[32, 10]⟩ _ (by decide) (by decide) hs sp2_ascii).mono ?_
  rintro e w1 ⟨rfl, hb1⟩
  obtain ⟨v, hv⟩ : ∃ v, Lib.indexAny s.data.toList (⟨#[32, 10]⟩ : ByteArray).data.toList = v := ⟨_, rfl⟩
  have hv' : (v = -1 ∧ k = s.size) ∨ ((0 : Int) ≤ v ∧ v = (k : Int)) := by
    have h1 := HK.out
    have h2 := Lib.indexAny_ge [32, 10] s.data.toList
    have hv2 : Lib.indexAny s.data.toList [32, 10] = v := hv
    unfold headLen at h1
    rw [hv2] at h1 h2
    by_cases h3 : v = -1
    · rw [if_pos h3] at h1; exact .inl ⟨h3, h1.symm⟩
    · rw [if_neg h3] at h1; exact .inr ⟨by omega, by omega⟩
  rw [hv]
  clear hv
  go_upto_if 9 with (fail)
  go_cut [5] (fun x wx => x = .int .i64 (k : Int) ∧ wx = w1)
  case first =>
    rcases hv' with ⟨rfl, h2⟩ | ⟨h1, rfl⟩
    · have h3 : ((s.size : Nat) : Int) = (k : Int) := by omega
      go_wp2
      go_meet
      exact ⟨rfl, rfl⟩
    · go_wp2
      go_meet
      exact ⟨rfl, rfl⟩
  case rest =>
    obtain ⟨rfl, rfl⟩ := hcut
    clear hv'
    go_upto_region 4 with (fail)
    refine region_below (by kernel_rfl) (by kernel_rfl) ?_
    repeat (refine wpQuiet_step (fun K hK => ?_); go_simp; first | (refine hK _ ?_; clear hK K) | (refine ⟨_, fun _ _ => rfl, hK _ ?_⟩; clear hK K) | (apply Exists.intro; refine ⟨fun _ hbq => ?_, hK _ ?_⟩; (go_at_call 23; exact below_step hbq (Tryd.Quote _ _ (by rw [ByteArray.size_extract]; omega) (Utf8Tabs_below HT.out (hb1.trans (hbq.mono hb1.size))))); clear hK K))
    refine wpQuiet_nil ?_
    intro w2 hb2
    have hx : (s.extract 0 k).toList = s.data.toList.take k := by rw [toList_dl, Lib.extract_data]; simp
    have hx2 : (s.extract 0 k) = ⟨(s.data.toList.take k).toArray⟩ := by rw [← hx, toList_dl]
    cases hq : (quoteL (List.take k s.data.toList) == (s.extract 0 k).toList) with
    | true =>
      have hp : plainR s.data.toList = (s.data.toList.take k, (k : Int), 0) := by
        unfold plainR; rw [HK.out, if_pos (by rw [hx] at hq; simpa using hq)]
      have HP := Lib.hid hp
      have HX2 := Lib.hid hx2
      clear hx hx2 hp
      go_wp2
      go_ret3
      refine ⟨?_, hb1.trans (hb2.mono hb1.size)⟩
      rw [HP.out]
      show Ending.returned (.tuple #[.string (s.extract 0 k), _, _]) = _
      rw [HX2.out]
      rfl
    | false =>
      have hp : plainR s.data.toList = ([], 0, 4) := by
        unfold plainR; rw [HK.out, if_neg (by rw [hx] at hq; simpa using hq)]
      have HP := Lib.hid hp
      clear hx hx2 hp
      go_wp2
      go_ret3
      refine ⟨?_, hb1.trans (hb2.mono hb1.size)⟩
      rw [HP.out]
      rfl

def endV : Option Nat → Int
  | some n => (n : Int)
  | none => -1

theorem endL_shift : ∀ (n : Nat) (l : By) (i : Nat), l.length ≤ n → ∀ k, endL l i = some k → i ≤ k ∧ k < i + l.length := by
  intro n
  induction n with
  | zero => intro l i h k hk; obtain rfl : l = [] := List.eq_nil_of_length_eq_zero (by omega); simp [endL] at hk
  | succ n ih =>
    intro l i h k hk
    match l, h, hk with
    | [], _, hk => simp [endL] at hk
    | [c], _, hk => unfold endL at hk; split at hk <;> simp at hk; simp; omega
    | c :: d :: r, h, hk =>
      unfold endL at hk
      split at hk
      · simp at hk; simp; omega
      · split at hk
        · have := ih r (i + 2) (by simp at h; omega) k hk; simp; omega
        · have := ih (d :: r) (i + 1) (by simp at h ⊢; omega) k hk; simp at this ⊢; omega

set_option maxHeartbeats 4000000 in
set_option maxRecDepth 100000 in
theorem Tryd.qend (s : ByteArray) (w : World) (hs : s.size ≤ 1000000000) (h1 : 1 ≤ s.size) :
    Calls Tryd.prog 58 #[.string s] w fun e w' => e = .returned (.int .i64 (endV (endL (s.data.toList.drop 1) 1))) ∧ w' = w := by
  obtain ⟨R, hR⟩ : ∃ R, endL (s.data.toList.drop 1) 1 = R := ⟨_, rfl⟩
  obtain ⟨V, hV⟩ : ∃ V : Int, endV R = V := ⟨_, rfl⟩
  rw [hR, hV]
  have HR := Lib.hid hR
  have HV := Lib.hid hV
  clear hR hV
  go_enter Tryd.func58, Tryd.ntmps58
  go_wp2
  go_loop [3] (fun i => ∃ k : Nat, 1 ≤ k ∧ k ≤ s.size + 1 ∧ i = .int .i64 (k : Int) ∧ Hid (endL (s.data.toList.drop k) k = R)) (fun i => s.size + 1 - (intOf i).toNat)
  case atStart => exact ⟨1, by omega, by omega, rfl, HR⟩
  case round =>
    obtain ⟨k, hk1, hk2, rfl, HE⟩ := hrel
    by_cases hlt : k < s.size
    · obtain ⟨c, hc⟩ : ∃ c : UInt8, s[k]'hlt = c := ⟨_, rfl⟩
      have hdr : s.data.toList.drop k = c :: s.data.toList.drop (k + 1) := by
        rw [← hc, get_dl]; exact List.drop_eq_getElem_cons hlt
      have HD := Lib.hid hdr
      clear hdr
      by_cases hA : c.toNat = 34
      · have hv : V = (k : Int) := by
          have h2 := HE.out
          rw [HD.out] at h2
          have : R = some k := by
            rw [← h2]
            cases hq : s.data.toList.drop (k + 1) with
            | nil => unfold endL; rw [if_pos hA]
            | cons d r => unfold endL; rw [if_pos hA]
          rw [← HV.out, this]; rfl
        have HVV := Lib.hid hv
        clear hv
        have e1 : ((c.toNat : Int) == 34) = true := beqI_t (by omega)
        clear hA
        go_wp2
        go_ret
        exact ⟨ret_i64 HVV.out.symm, rfl⟩
      · by_cases hB : c.toNat = 92
        · have e1 : ((c.toNat : Int) == 34) = false := beqI_f (by omega)
          have e2 : ((c.toNat : Int) == 92) = true := beqI_t (by omega)
          have hn : endL (s.data.toList.drop (k + 2)) (k + 2) = R := by
            have h2 := HE.out
            rw [HD.out] at h2
            rw [← h2]
            cases hq : s.data.toList.drop (k + 1) with
            | nil =>
              have : s.data.toList.drop (k + 2) = [] := by
                rw [show k + 2 = (k + 1) + 1 from rfl, ← List.drop_drop, hq]; rfl
              rw [this]; unfold endL; rw [if_neg hA]
            | cons d r =>
              have : s.data.toList.drop (k + 2) = r := by
                rw [show k + 2 = (k + 1) + 1 from rfl, ← List.drop_drop, hq]; rfl
              rw [this]; conv => rhs; unfold endL
              rw [if_neg hA, if_pos hB]
          have HN := Lib.hid hn
          clear hn hA hB
          go_wp2
          go_round
          case rel => exact ⟨k + 2, by omega, by omega, by go_num, HN⟩
          case measure => simp [intOf]; omega
        · have e1 : ((c.toNat : Int) == 34) = false := beqI_f (by omega)
          have e2 : ((c.toNat : Int) == 92) = false := beqI_f (by omega)
          have hn : endL (s.data.toList.drop (k + 1)) (k + 1) = R := by
            have h2 := HE.out
            rw [HD.out] at h2
            rw [← h2]
            cases hq : s.data.toList.drop (k + 1) with
            | nil => unfold endL; rw [if_neg hA]
            | cons d r =>
              conv => rhs; unfold endL
              rw [if_neg hA, if_neg hB]
          have HN := Lib.hid hn
          clear hn hA hB
          go_wp2
          go_round
          case rel => exact ⟨k + 1, by omega, by omega, by go_num, HN⟩
          case measure => simp [intOf]; omega
    · have hv : V = -1 := by
        have h2 := HE.out
        have : s.data.toList.drop k = [] := List.drop_eq_nil_of_le (by rw [← size_dl]; omega)
        rw [this] at h2
        have : R = none := by rw [← h2]; unfold endL; rfl
        rw [← HV.out, this]; rfl
      have HVV := Lib.hid hv
      clear hv
      go_wp2
      go_ret
      exact ⟨ret_i64 HVV.out.symm, rfl⟩
end Go.Proofs.YtlhbbpagjkjplaaDoor
