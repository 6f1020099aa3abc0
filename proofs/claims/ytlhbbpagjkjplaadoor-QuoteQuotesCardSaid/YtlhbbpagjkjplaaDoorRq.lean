/- Contracts and plain laws for the proofs of this seat. Conditions: those written at each theorem. -/
import Derived.Test.YtlhbbpagjkjplaaDoorBackP
set_option linter.unusedVariables false
set_option linter.unusedSimpArgs false
namespace Go.Proofs.YtlhbbpagjkjplaaDoor
open Go.RowKit Go.Proofs

theorem cat_str (a b : By) : (⟨a.toArray⟩ : ByteArray) ++ (⟨b.toArray⟩ : ByteArray) = ⟨(a ++ b).toArray⟩ := by
  apply ByteArray.ext; simp [ByteArray.data_append]

set_option maxHeartbeats 4000000 in
set_option maxRecDepth 100000 in
theorem Tryd.rPlain (s : ByteArray) (w : World) (hs : s.size ≤ 1000000000) :
    Calls Tryd.prog 68 #[.string s] w fun e w' => e = .returned (.bool (plainB s.data.toList)) ∧ w' = w := by
  go_enter Tryd.func68, Tryd.ntmps68
  go_wp2
  go_loop [3] (fun i => ∃ k : Nat, k ≤ s.size ∧ i = .int .i64 k ∧ Hid ((s.data.toList.take k).all (fun c => !oddB c) = true)) (fun i => s.size - (intOf i).toNat)
  case atStart => exact ⟨0, by omega, rfl, rfl⟩
  case round =>
    obtain ⟨k, hk, rfl, hall⟩ := hrel
    by_cases hlt : k < s.size
    · obtain ⟨x, hx⟩ : ∃ x : UInt8, s[k]'hlt = x := ⟨_, rfl⟩
      have hsn := all_take_succ s k hlt (fun c => !oddB c)
      rw [hx] at hsn
      have HS := Lib.hid hsn
      have hbad : oddB x = true → plainB s.data.toList = false := by
        intro ho
        unfold plainB
        have : (s.data.toList.take (k + 1)).all (fun c => !oddB c) = false := by rw [hsn, ho]; simp
        rw [all_of_take_false _ _ _ this]; rfl
      have HB := Lib.hid hbad
      clear hsn hbad
      by_cases c1 : x.toNat < 32
      · have ho : oddB x = true := by unfold oddB; simp; omega
        have HP := Lib.hid (HB.out ho)
        have e1 : (x.toNat : Int) < 32 := by omega
        clear ho c1
        go_wp2
        go_ret
        exact ⟨ret_bool HP.out.symm, rfl⟩
      · have e1 : decide ((x.toNat : Int) < 32) = false := by simp; omega
        by_cases c2 : x.toNat = 127
        · have ho : oddB x = true := by unfold oddB; simp; omega
          have HP := Lib.hid (HB.out ho)
          have e2 : ((x.toNat : Int) == 127) = true := beqI_t (by omega)
          clear ho c1 c2
          go_wp2
          go_ret
          exact ⟨ret_bool HP.out.symm, rfl⟩
        · have e2 : ((x.toNat : Int) == 127) = false := beqI_f (by omega)
          by_cases c3 : x.toNat = 34
          · have ho : oddB x = true := by unfold oddB; simp; omega
            have HP := Lib.hid (HB.out ho)
            have e3 : ((x.toNat : Int) == 34) = true := beqI_t (by omega)
            clear ho c1 c2 c3
            go_wp2
            go_ret
            exact ⟨ret_bool HP.out.symm, rfl⟩
          · have e3 : ((x.toNat : Int) == 34) = false := beqI_f (by omega)
            by_cases c4 : x.toNat = 92
            · have ho : oddB x = true := by unfold oddB; simp; omega
              have HP := Lib.hid (HB.out ho)
              have e4 : ((x.toNat : Int) == 92) = true := beqI_t (by omega)
              clear ho c1 c2 c3 c4
              go_wp2
              go_ret
              exact ⟨ret_bool HP.out.symm, rfl⟩
            · have e4 : ((x.toNat : Int) == 92) = false := beqI_f (by omega)
              have ho : oddB x = false := by unfold oddB; simp; omega
              have HO := Lib.hid ho
              clear ho c1 c2 c3 c4
              go_wp2
              go_round
              case rel => exact ⟨k + 1, by omega, by go_num, by rw [HS.out, HO.out, hall.out]; rfl⟩
              case measure => simp [intOf]; omega
    · have hk : k = s.size := by omega
      rw [hk, size_dl, List.take_length] at hall
      clear hk
      by_cases h0 : s.size = 0
      · have hp : plainB s.data.toList = false := by
          rw [size_dl] at h0
          rw [List.eq_nil_of_length_eq_zero h0]; rfl
        have h1 : s.toList = [] := by rw [toList_dl]; rw [size_dl] at h0; exact List.eq_nil_of_length_eq_zero h0
        have HP := Lib.hid hp
        clear hp h0
        go_wp2
        go_ret
        exact ⟨ret_bool HP.out.symm, rfl⟩
      · have h0' : 0 < s.size := by omega
        obtain ⟨x, hx⟩ : ∃ x : UInt8, s[0]'h0' = x := ⟨_, rfl⟩
        have hp : plainB s.data.toList = ((x.toNat : Int) != 32) := by
          unfold plainB
          rw [hall.out]
          obtain ⟨c, r, he⟩ : ∃ c r, s.data.toList = c :: r := by
            cases hh : s.data.toList with
            | nil => rw [size_dl, hh] at h0'; simp at h0'
            | cons c r => exact ⟨c, r, rfl⟩
          have hc : x = c := by rw [← hx, get_dl]; simp [he]
          rw [he, hc]
          simp only [List.isEmpty_cons, List.head?_cons, Bool.not_false, Bool.true_and, bne]
          rw [Bool.eq_iff_iff]
          simp [← UInt8.toNat_inj]
          omega
        have h1 : ¬ s.toList = [] := by rw [toList_dl]; rw [size_dl] at h0; exact fun e => h0 (by rw [e]; rfl)
        have h2 : s.toList.isEmpty = false := by simpa using h1
        have HP := Lib.hid hp
        clear hp h0 hall
        go_wp2
        go_ret
        exact ⟨ret_bool HP.out.symm, rfl⟩

set_option maxHeartbeats 4000000 in
set_option maxRecDepth 100000 in
theorem Tryd.rclean (s : ByteArray) (w : World) (hs : s.size ≤ 1000000000) :
    Calls Tryd.prog 69 #[.string s] w fun e w' => e = .returned (.bool (cleanB s.data.toList)) ∧ w' = w := by
  go_enter Tryd.func69, Tryd.ntmps69
  go_wp2
  go_loop [3] (fun i => ∃ k : Nat, k ≤ s.size ∧ i = .int .i64 k ∧ Hid ((s.data.toList.take k).all (fun c => !(c.toNat == 32 || decide (127 < c.toNat))) = true)) (fun i => s.size - (intOf i).toNat)
  case atStart => exact ⟨0, by omega, rfl, rfl⟩
  case round =>
    obtain ⟨k, hk, rfl, hall⟩ := hrel
    by_cases hlt : k < s.size
    · obtain ⟨x, hx⟩ : ∃ x : UInt8, s[k]'hlt = x := ⟨_, rfl⟩
      have hsn := all_take_succ s k hlt (fun c => !(c.toNat == 32 || decide (127 < c.toNat)))
      rw [hx] at hsn
      have HS := Lib.hid hsn
      have hbad : (x.toNat = 32 ∨ 127 < x.toNat) → cleanB s.data.toList = false := by
        intro ho
        unfold cleanB
        refine all_of_take_false _ (k + 1) _ ?_
        rw [hsn]
        have : (!(x.toNat == 32 || decide (127 < x.toNat))) = false := by simp; omega
        rw [this]; simp
      have HB := Lib.hid hbad
      clear hsn hbad
      by_cases c1 : x.toNat = 32
      · have HP := Lib.hid (HB.out (.inl c1))
        have e1 : ((x.toNat : Int) == 32) = true := beqI_t (by omega)
        clear c1
        go_wp2
        go_ret
        exact ⟨ret_bool HP.out.symm, rfl⟩
      · have e1 : ((x.toNat : Int) == 32) = false := beqI_f (by omega)
        by_cases c2 : 127 < x.toNat
        · have HP := Lib.hid (HB.out (.inr c2))
          have e2 : (127 : Int) < (x.toNat : Int) := by omega
          clear c1 c2
          go_wp2
          go_ret
          exact ⟨ret_bool HP.out.symm, rfl⟩
        · have e2 : ¬ (127 : Int) < (x.toNat : Int) := by omega
          have ho : (!(x.toNat == 32 || decide (127 < x.toNat))) = true := by simp; omega
          have HO := Lib.hid ho
          clear ho c1 c2
          go_wp2
          go_round
          case rel => exact ⟨k + 1, by omega, by go_num, by rw [HS.out, HO.out, hall.out]; rfl⟩
          case measure => simp [intOf]; omega
    · have hk : k = s.size := by omega
      rw [hk, size_dl, List.take_length] at hall
      clear hk
      have hp : cleanB s.data.toList = true := hall.out
      have HP := Lib.hid hp
      clear hp
      go_wp2
      go_ret
      exact ⟨ret_bool HP.out.symm, rfl⟩
end Go.Proofs.YtlhbbpagjkjplaaDoor
