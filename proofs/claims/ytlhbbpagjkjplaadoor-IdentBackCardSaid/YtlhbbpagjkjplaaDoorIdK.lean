/- Contracts and plain laws for the proofs of this seat: the reference reads an ident. Conditions: those written at each theorem. -/
import Derived.Test.YtlhbbpagjkjplaaDoorIdJ
import Derived.Test.YtlhbbpagjkjplaaDoorIdH
set_option linter.unusedVariables false
set_option linter.unusedSimpArgs false
namespace Go.Proofs.YtlhbbpagjkjplaaDoor
open Go.RowKit Go.Proofs

theorem indexByte_get (l : By) (c : UInt8) (n : Nat) (h : Lib.indexByte l c = (n : Int)) : l.getD n 0 = c := by
  induction l generalizing n with
  | nil => simp [Lib.indexByte] at h
  | cons b l ih =>
    unfold Lib.indexByte at h
    by_cases hb : (b == c) = true
    · rw [if_pos hb] at h
      have : n = 0 := by omega
      subst this
      simpa using hb
    · rw [if_neg hb] at h
      by_cases h1 : (Lib.indexByte l c == -1) = true
      · rw [if_pos h1] at h; omega
      · rw [if_neg h1] at h
        have hg := indexByte_ge l c
        have h1' : Lib.indexByte l c ≠ -1 := by simpa using h1
        obtain ⟨m, rfl⟩ : ∃ m, n = m + 1 := ⟨n - 1, by omega⟩
        rw [List.getD_cons_succ]
        exact ih m (by omega)
theorem indexByte_take_succ (s : ByteArray) (k : Nat) (h : k < s.size) (c : UInt8) : Lib.indexByte (s.data.toList.take (k + 1)) c = if 0 ≤ Lib.indexByte (s.data.toList.take k) c then Lib.indexByte (s.data.toList.take k) c else if s[k]'h = c then (k : Int) else -1 := by
  rw [List.take_succ_eq_append_getElem (show k < s.data.toList.length from h), indexByte_snoc, List.length_take, Nat.min_eq_left (by rw [← size_dl]; omega)]
  rfl

set_option maxHeartbeats 8000000 in
set_option maxRecDepth 100000 in
theorem Tryd.rParse06 (s : ByteArray) (w : World) (hr : Tryd.Rdy w) (hs : s.size ≤ 1000000) :
    Calls Tryd.prog 39 #[.string s] w fun e w' => e = .returned (.tuple #[idnV (parseI s.data.toList).1, .int .i64 (parseI s.data.toList).2]) ∧ Below w.heap.size w w' := by
  rw [← identR_eq]
  obtain ⟨R1, R2, hR⟩ : ∃ R1 R2, identR s.data.toList = (R1, R2) := ⟨_, _, rfl⟩
  rw [hR]
  have HRR := Lib.hid hR
  have HR := Lib.hid hr
  clear hr hR
  go_enter Tryd.func39, Tryd.ntmps39
  go_wp2
  go_loop [4, 5, 6] (fun o e i => ∃ (k : Nat) (O E : Int), k ≤ s.size ∧ i = .int .i64 (k : Int) ∧ o = .int .i64 O ∧ e = .int .i64 E ∧ -1 ≤ O ∧ O < k ∧ -1 ≤ E ∧ E < k ∧ Hid (O = Lib.indexByte (s.data.toList.take k) 60) ∧ Hid (E = Lib.indexByte (s.data.toList.take k) 62)) (fun _ _ i => s.size - (intOf i).toNat)
  case atStart => exact ⟨0, -1, -1, by omega, rfl, rfl, rfl, by omega, by omega, by omega, by omega, rfl, rfl⟩
  case round =>
    obtain ⟨k, O, E, hk, rfl, rfl, rfl, hO1, hO2, hE1, hE2, HO, HE⟩ := hrel
    by_cases hlt : k < s.size
    · obtain ⟨x, hx⟩ : ∃ x : UInt8, s[k]'hlt = x := ⟨_, rfl⟩
      have ho := indexByte_take_succ s k hlt 60
      have he := indexByte_take_succ s k hlt 62
      rw [hx, ← HO.out] at ho
      rw [hx, ← HE.out] at he
      have HO2 := Lib.hid ho
      have HE2 := Lib.hid he
      have hx2 : x.toNat < 256 := x.toNat_lt
      clear ho he
      by_cases h60 : x.toNat = 60
      · have f1 : ((x.toNat : Int) == 60) = true := beqI_t (by omega)
        have f2 : ((x.toNat : Int) == 62) = false := beqI_f (by omega)
        have hx60 : x = 60 := UInt8.toNat_inj.1 h60
        have hne : ¬ x = 62 := by rw [hx60]; decide
        have HX := Lib.hid (And.intro hx60 hne)
        clear hx60 hne h60
        by_cases hO : O < 0
        · go_wp2
          go_round
          case rel => exact ⟨k + 1, (k : Int), E, by omega, by go_num, rfl, rfl, by omega, by omega, by omega, by omega, by rw [HO2.out, if_neg (by omega), if_pos HX.out.1]; exact Lib.hid rfl, by rw [HE2.out]; exact Lib.hid (by by_cases h : 0 ≤ E; rw [if_pos h]; rw [if_neg h, if_neg HX.out.2]; omega)⟩
          case measure => simp [intOf]; omega
        · have hO' : decide (O < 0) = false := by simpa using hO
          go_wp2
          go_round
          case rel => exact ⟨k + 1, O, E, by omega, by go_num, rfl, rfl, by omega, by omega, by omega, by omega, by rw [HO2.out, if_pos (by omega)]; exact Lib.hid rfl, by rw [HE2.out]; exact Lib.hid (by by_cases h : 0 ≤ E; rw [if_pos h]; rw [if_neg h, if_neg HX.out.2]; omega)⟩
          case measure => simp [intOf]; omega
      · have f1 : ((x.toNat : Int) == 60) = false := beqI_f (by omega)
        have hne60 : ¬ x = 60 := fun h => h60 (by rw [h]; rfl)
        by_cases h62 : x.toNat = 62
        · have f2 : ((x.toNat : Int) == 62) = true := beqI_t (by omega)
          have HX := Lib.hid (And.intro (UInt8.toNat_inj.1 h62 : x = 62) hne60)
          clear h60 h62 hne60
          by_cases hE : E < 0
          · go_wp2
            go_round
            case rel => exact ⟨k + 1, O, (k : Int), by omega, by go_num, rfl, rfl, by omega, by omega, by omega, by omega, by rw [HO2.out]; exact Lib.hid (by by_cases h : 0 ≤ O; rw [if_pos h]; rw [if_neg h, if_neg HX.out.2]; omega), by rw [HE2.out, if_neg (by omega), if_pos HX.out.1]; exact Lib.hid rfl⟩
            case measure => simp [intOf]; omega
          · have hE' : decide (E < 0) = false := by simpa using hE
            go_wp2
            go_round
            case rel => exact ⟨k + 1, O, E, by omega, by go_num, rfl, rfl, by omega, by omega, by omega, by omega, by rw [HO2.out]; exact Lib.hid (by by_cases h : 0 ≤ O; rw [if_pos h]; rw [if_neg h, if_neg HX.out.2]; omega), by rw [HE2.out, if_pos (by omega)]; exact Lib.hid rfl⟩
            case measure => simp [intOf]; omega
        · have f2 : ((x.toNat : Int) == 62) = false := beqI_f (by omega)
          have hne62 : ¬ x = 62 := fun h => h62 (by rw [h]; rfl)
          have HX := Lib.hid (And.intro hne60 hne62)
          clear h60 h62 hne60 hne62
          go_wp2
          go_round
          case rel => exact ⟨k + 1, O, E, by omega, by go_num, rfl, rfl, by omega, by omega, by omega, by omega, by rw [HO2.out]; exact Lib.hid (by by_cases h : 0 ≤ O; rw [if_pos h]; rw [if_neg h, if_neg HX.out.1]; omega), by rw [HE2.out]; exact Lib.hid (by by_cases h : 0 ≤ E; rw [if_pos h]; rw [if_neg h, if_neg HX.out.2]; omega)⟩
          case measure => simp [intOf]; omega
    · have hk : k = s.size := by omega
      subst hk
      have hO : O = Lib.indexByte s.data.toList 60 := by have := HO.out; rw [size_dl, List.take_length] at this; exact this
      have hE : E = Lib.indexByte s.data.toList 62 := by have := HE.out; rw [size_dl, List.take_length] at this; exact this
      have hR0 := HRR.out
      unfold identR at hR0
      rw [← hO, ← hE] at hR0
      have HR0 := Lib.hid hR0
      have HO3 := Lib.hid hO
      have HE3 := Lib.hid hE
      clear hR0 hO hE HO HE HRR hlt hk
      by_cases c1 : O < 0
      · have hv : R1 = idn0 ∧ R2 = 4 := by
          have := HR0.out
          unfold identR0 at this
          rw [if_pos c1] at this
          injection this with p q; exact ⟨p.symm, q.symm⟩
        have HV := Lib.hid hv
        clear hv
        go_wp2
        refine bodyPost_ret (v := .tuple #[idnV idn0, .int .i64 4]) (by simp [results, Tryd.results39, go_sem, idn0]) rfl ⟨by rw [HV.out.1, HV.out.2], ?_⟩
        exact (Below.refl _ _).alloc (Nat.le_refl _) _
      · have c1' : decide (O < 0) = false := by simpa using c1
        by_cases c2 : E < O
        · have hv : R1 = idn0 ∧ R2 = 4 := by
            have := HR0.out
            unfold identR0 at this
            rw [if_neg c1, if_pos c2] at this
            injection this with p q; exact ⟨p.symm, q.symm⟩
          have HV := Lib.hid hv
          clear hv
          go_wp2
          refine bodyPost_ret (v := .tuple #[idnV idn0, .int .i64 4]) (by simp [results, Tryd.results39, go_sem, idn0]) rfl ⟨by rw [HV.out.1, HV.out.2], ?_⟩
          exact (Below.refl _ _).alloc (Nat.le_refl _) _
        · have c2' : decide (E < O) = false := by simpa using c2
          obtain ⟨n, rfl⟩ := Int.eq_ofNat_of_zero_le (show 0 ≤ O by omega)
          obtain ⟨m, rfl⟩ := Int.eq_ofNat_of_zero_le (show 0 ≤ E by omega)
          have hn : n < s.size := by omega
          have hm : m < s.size := by omega
          have hnm : n < m := by
            have g1 := indexByte_get _ _ n HO3.out.symm
            have g2 := indexByte_get _ _ m HE3.out.symm
            have : n ≠ m := by intro e; rw [e, g2] at g1; exact absurd g1 (by decide)
            omega
          by_cases c3 : 0 < n ∧ s.data.toList.getD (n - 1) 0 ≠ 32
          · have hp : 0 < n := c3.1
            have hlt1 : n - 1 < s.size := by omega
            obtain ⟨y, hy⟩ : ∃ y : UInt8, s[n - 1]'hlt1 = y := ⟨_, rfl⟩
            have hyd : s.data.toList.getD (n - 1) 0 = y := by rw [← hy]; exact (getD_of_get s _ (n - 1) hlt1 rfl).symm
            have hy32 : y.toNat ≠ 32 := fun h => c3.2 (by rw [hyd]; exact UInt8.toNat_inj.1 h)
            have e1 : (0 : Int) < (n : Int) := by omega
            have e2 : ((y.toNat : Int) != 32) = true := by simp; omega
            have e3 : (1 : Int) ≤ (n : Int) := by omega
            have hv : R1 = idn0 ∧ R2 = 4 := by
              have := HR0.out
              unfold identR0 at this
              rw [if_neg c1, if_neg c2, if_pos ⟨by omega, by rw [show ((n : Int) - 1).toNat = n - 1 by omega]; exact c3.2⟩] at this
              injection this with p q; exact ⟨p.symm, q.symm⟩
            have HV := Lib.hid hv
            clear hv
            clear c3 hyd hy32
            go_wp2
            refine bodyPost_ret (v := .tuple #[idnV idn0, .int .i64 4]) (by simp [results, Tryd.results39, go_sem, idn0]) rfl ⟨by rw [HV.out.1, HV.out.2], ?_⟩
            exact (Below.refl _ _).alloc (Nat.le_refl _) _
          · by_cases c4 : n = 1
            · subst c4
              have hlt1 : 0 < s.size := by omega
              obtain ⟨y, hy⟩ : ∃ y : UInt8, s[0]'hlt1 = y := ⟨_, rfl⟩
              have hyd : s.data.toList.getD 0 0 = y := by rw [← hy]; exact (getD_of_get s _ 0 hlt1 rfl).symm
              have hy32 : y.toNat = 32 := by
                have : y = 32 := by
                  rw [← hyd]
                  exact Decidable.not_not.1 fun h => c3 ⟨by omega, h⟩
                rw [this]; rfl
              have e2 : ((y.toNat : Int) != 32) = false := by simp [hy32]
              have hv : R1 = idn0 ∧ R2 = 4 := by
                have := HR0.out
                unfold identR0 at this
                rw [if_neg c1, if_neg c2, if_neg (fun h => c3 ⟨by omega, h.2⟩), if_pos (by omega)] at this
                injection this with p q; exact ⟨p.symm, q.symm⟩
              have HV := Lib.hid hv
              clear hv
              clear c3 hyd hy32
              go_wp2
              refine bodyPost_ret (v := .tuple #[idnV idn0, .int .i64 4]) (by simp [results, Tryd.results39, go_sem, idn0]) rfl ⟨by rw [HV.out.1, HV.out.2], ?_⟩
              exact (Below.refl _ _).alloc (Nat.le_refl _) _
            · have hR1 := HR0.out
              unfold identR0 at hR1
              rw [if_neg c1, if_neg c2, if_neg (fun h => c3 ⟨by omega, by have := h.2; rw [show ((n : Int) - 1).toNat = n - 1 by omega] at this; exact this⟩), if_neg (by omega)] at hR1
              rw [show ((m : Int)).toNat = m by omega, show ((n : Int) + 1).toNat = n + 1 by omega, show ((m : Int) + 1).toNat = m + 1 by omega] at hR1
              have e1 : (((n : Int)) == 1) = false := beqI_f (by omega)
              have hyy : 0 < n → ∃ h : n - 1 < s.size, ((s[n - 1]'h).toNat : Int) = 32 := by
                intro hp
                refine ⟨by omega, ?_⟩
                have h1 : s.data.toList.getD (n - 1) 0 = 32 := Decidable.not_not.1 fun h => c3 ⟨hp, h⟩
                rw [getD_of_get s _ (n - 1) (by omega) rfl, h1]; rfl
              have HYY := Lib.hid hyy
              have HR1 := Lib.hid hR1
              obtain ⟨em, hem⟩ : ∃ em, (s.data.toList.take m).drop (n + 1) = em := ⟨_, rfl⟩
              obtain ⟨nm, hnm2⟩ : ∃ nm, (if 1 < (n : Int) then s.data.toList.take ((n : Int) - 1).toNat else []) = nm := ⟨_, rfl⟩
              obtain ⟨rr, hrr⟩ : ∃ rr, s.extract (m + 1) s.size = rr := ⟨_, rfl⟩
              have hrest : s.data.toList.drop (m + 1) = rr.data.toList := by rw [← hrr, Lib.extract_data, List.take_of_length_le (by rw [List.length_drop, ← size_dl]; omega)]
              rw [hem, hnm2, hrest] at HR1
              have hee : s.extract (n + 1) m = ⟨em.toArray⟩ := by rw [str_eq (s.extract (n + 1) m), Lib.extract_data, ← hem, List.drop_take]
              have hel : em.length ≤ 1000000 := by rw [← hem, List.length_drop, List.length_take]; omega
              have hnl : nm.length ≤ 1000000 := by
                rw [← hnm2]; split
                · rw [List.length_take]; rw [size_dl] at hs; omega
                · simp
              have hrs : rr.size ≤ 1000000 := by rw [← hrr, ByteArray.size_extract]; omega
              have hi1 : (n : Int) + 1 ≤ (m : Int) := by omega
              have hi2 : (m : Int) ≤ (s.size : Int) := by omega
              have hi3 : (m : Int) + 1 ≤ (s.size : Int) := by omega
              have hcase : (n = 0 ∧ nm = []) ∨ (2 ≤ n ∧ s.extract 0 (n - 1) = ⟨nm.toArray⟩) := by
                by_cases h0 : n = 0
                · left; exact ⟨h0, by rw [← hnm2, h0]; rfl⟩
                · right
                  refine ⟨by omega, ?_⟩
                  rw [str_eq (s.extract 0 (n - 1)), Lib.extract_data, ← hnm2, if_pos (by omega), show ((n : Int) - 1).toNat = n - 1 by omega]
                  simp
              clear hR1 HR0 hem hrest c3 hyy c1 c2 hnm2 HO3 HE3
              rcases hcase with ⟨rfl, rfl⟩ | ⟨hn2, hnx⟩
              · go_upto_region 15 with (fail)
                by_cases d1 : rr.size < 8
                · have k1 : (rr.size : Int) < 8 := by omega
                  have hv : R1 = idn0 ∧ R2 = 4 := by
                    have := HR1.out
                    unfold identR1 at this
                    rw [if_pos (by rw [← size_dl]; exact d1)] at this
                    injection this with p q; exact ⟨p.symm, q.symm⟩
                  have HV := Lib.hid hv
                  clear hv
                  go_wp2
                  refine bodyPost_ret (v := .tuple #[idnV idn0, .int .i64 4]) (by simp [results, Tryd.results39, go_sem, idn0]) rfl ⟨by rw [HV.out.1, HV.out.2], ?_⟩
                  exact ((Below.refl _ w).alloc (Nat.le_refl _) _).alloc (by simp) _
                · have k1 : ¬ (rr.size : Int) < 8 := by omega
                  have hz0 : 0 < rr.size := by omega
                  have hz6 : rr.size - 6 < rr.size := by omega
                  have i6 : (6 : Int) ≤ (rr.size : Int) := by omega
                  obtain ⟨y0, hy0⟩ : ∃ y : UInt8, rr[0]'hz0 = y := ⟨_, rfl⟩
                  obtain ⟨y6, hy6⟩ : ∃ y : UInt8, rr[rr.size - 6]'hz6 = y := ⟨_, rfl⟩
                  have g0 : rr.data.toList.getD 0 0 = y0 := by rw [← hy0]; exact (getD_of_get rr _ 0 hz0 rfl).symm
                  have g6 : rr.data.toList.getD (rr.data.toList.length - 6) 0 = y6 := by rw [← hy6, ← size_dl]; exact (getD_of_get rr _ _ hz6 rfl).symm
                  have dd1 : ¬ rr.data.toList.length < 8 := by rw [← size_dl]; exact d1
                  have G := Lib.hid (And.intro g0 (And.intro g6 dd1))
                  clear g0 g6 dd1
                  by_cases d2 : y0.toNat = 32
                  · have k2 : ((y0.toNat : Int) != 32) = false := by simp [d2]
                    by_cases d3 : y6.toNat = 32
                    · have k3 : ((y6.toNat : Int) != 32) = false := by simp [d3]
                      have hR2 := HR1.out
                      unfold identR1 at hR2
                      rw [if_neg G.out.2.2, if_neg (by rw [G.out.1]; exact fun h => h (UInt8.toNat_inj.1 d2)), if_neg (by rw [G.out.2.1]; exact fun h => h (UInt8.toNat_inj.1 d3))] at hR2
                      unfold identR2 at hR2
                      obtain ⟨v, ev, hv⟩ : ∃ v ev, takeN ((rr.data.toList.take (rr.data.toList.length - 6)).drop 1) = (v, ev) := ⟨_, _, rfl⟩
                      obtain ⟨z, ez, hz⟩ : ∃ z ez, takeZ (rr.data.toList.drop (rr.data.toList.length - 5)) = (z, ez) := ⟨_, _, rfl⟩
                      rw [hv, hz] at hR2
                      dsimp only at hR2
                      have hx1 : takeN (rr.extract 1 (rr.size - 6)).data.toList = (v, ev) := by rw [Lib.extract_data, ← hv, List.drop_take, size_dl]
                      have hx2 : takeZ (rr.extract (rr.size - 5) rr.size).data.toList = (z, ez) := by rw [Lib.extract_data, ← hz, List.take_of_length_le (by rw [List.length_drop, ← size_dl]; omega), size_dl]
                      have HR2 := Lib.hid hR2
                      have HX1 := Lib.hid hx1
                      have HX2 := Lib.hid hx2
                      have i1 : (1 : Int) ≤ (rr.size : Int) - 6 := by omega
                      have i2 : (rr.size : Int) - 6 ≤ (rr.size : Int) := by omega
                      have i3 : (0 : Int) ≤ (rr.size : Int) - 5 := by omega
                      have i4 : (rr.size : Int) - 5 ≤ (rr.size : Int) := by omega
                      clear hR2 hv hz hx1 hx2 HR1 d1 d2 d3
                      go_wp2_with fail
                      refine (Tryd.rTakeNumber (rr.extract 1 (rr.size - 6)) _ (by rw [ByteArray.size_extract]; omega)).mono ?_
                      rintro e w1 ⟨rfl, rfl⟩
                      rw [HX1.out]
                      go_wp2_with fail
                      refine (Tryd.rZone06 (rr.extract (rr.size - 5) rr.size) _ (by rw [ByteArray.size_extract]; omega)).mono ?_
                      rintro e w5 ⟨rfl, hb5⟩
                      rw [HX2.out]
                      have hbA : Below w.heap.size w ((w.alloc (.cells #[.string ⟨#[]⟩, .string ⟨#[]⟩, .int .i64 0, .int .i64 0] 50)).alloc (.cells #[.string ⟨#[]⟩, .string ⟨em.toArray⟩, .int .i64 0, .int .i64 0] 50)) := ((Below.refl _ w).alloc (Nat.le_refl _) _).alloc (by simp) _
                      have hb5' := hbA.trans (hb5.mono hbA.size)
                      have hs5 := hb5.size
                      simp at hs5
                      have hr5 := (hb5.block w.heap.size (by simp; omega)).trans ((Below.heap_alloc (w.alloc (.cells #[.string ⟨#[]⟩, .string ⟨#[]⟩, .int .i64 0, .int .i64 0] 50)) (.cells #[.string ⟨#[]⟩, .string ⟨em.toArray⟩, .int .i64 0, .int .i64 0] 50) w.heap.size (by simp)).trans (heap_alloc_new w (.cells #[.string ⟨#[]⟩, .string ⟨#[]⟩, .int .i64 0, .int .i64 0] 50)))
                      have hk5' := (hb5.block (w.alloc (.cells #[.string ⟨#[]⟩, .string ⟨#[]⟩, .int .i64 0, .int .i64 0] 50)).heap.size (by simp)).trans (heap_alloc_new (w.alloc (.cells #[.string ⟨#[]⟩, .string ⟨#[]⟩, .int .i64 0, .int .i64 0] 50)) (.cells #[.string ⟨#[]⟩, .string ⟨em.toArray⟩, .int .i64 0, .int .i64 0] 50))
                      have hk5 : w5.heap[w.heap.size + 1]? = some (.cells #[.string ⟨#[]⟩, .string ⟨em.toArray⟩, .int .i64 0, .int .i64 0] 50) := by simpa using hk5'
                      have n2 : w5.cell? ⟨w.heap.size + 1, 2, none⟩ = some (.int .i64 0) := blk_cell hk5 2
                      have n3 : w5.cell? ⟨w.heap.size + 1, 3, none⟩ = some (.int .i64 0) := blk_cell hk5 3
                      have n0 : w5.cell? ⟨w.heap.size + 1, 0, none⟩ = some (.string ⟨#[]⟩) := blk_cell hk5 0
                      have n1 : w5.cell? ⟨w.heap.size + 1, 1, none⟩ = some (.string ⟨em.toArray⟩) := blk_cell hk5 1
                      have z2 : w5.frozen? ⟨w.heap.size + 1, 2, none⟩ = false := Lib.frozen_of_heap hk5 2
                      have z3 : w5.frozen? ⟨w.heap.size + 1, 3, none⟩ = false := Lib.frozen_of_heap hk5 3
                      have HK5 := Lib.hid hk5
                      have HR5 := Lib.hid hr5
                      clear hk5 hk5' hr5 hbA
                      go_upto_region 20 with (fail)
                      obtain ⟨w6, hw6⟩ : ∃ w6, (w5.setCell ⟨w.heap.size + 1, 2, none⟩ (.int .i64 v)).setCell ⟨w.heap.size + 1, 3, none⟩ (.int .i64 z) = w6 := ⟨_, rfl⟩
                      have hb6 : Below w.heap.size w w6 := by rw [← hw6]; exact (hb5'.setCell (Nat.le_succ _) _).setCell (Nat.le_succ _) _
                      have hk6 : w6.heap[w.heap.size + 1]? = some (.cells #[.string ⟨#[]⟩, .string ⟨em.toArray⟩, .int .i64 v, .int .i64 z] 50 (0, 0)) := by
                        rw [← hw6]
                        exact heap_setCell_same _ _ 3 _ _ _ (heap_setCell_same _ _ 2 _ _ _ HK5.out)
                      have hr6 : w6.heap[w.heap.size]? = some (.cells #[.string ⟨#[]⟩, .string ⟨#[]⟩, .int .i64 0, .int .i64 0] 50) := by
                        rw [← hw6, heap_setCell_other _ _ _ _ (by simp), heap_setCell_other _ _ _ _ (by simp)]
                        exact HR5.out
                      have hs6 : w.heap.size + 2 ≤ w6.heap.size := by rw [← hw6]; simp; omega
                      rw [hw6]
                      clear hw6 n0 n1 n2 n3 z2 z3 HK5 HR5 hb5' hb5 hs5
                      have m0 : w6.cell? ⟨w.heap.size, 0, none⟩ = some (.string ⟨#[]⟩) := blk_cell hr6 0
                      have m1 : w6.cell? ⟨w.heap.size, 1, none⟩ = some (.string ⟨#[]⟩) := blk_cell hr6 1
                      have m2 : w6.cell? ⟨w.heap.size, 2, none⟩ = some (.int .i64 0) := blk_cell hr6 2
                      have m3 : w6.cell? ⟨w.heap.size, 3, none⟩ = some (.int .i64 0) := blk_cell hr6 3
                      have z0 : w6.frozen? ⟨w.heap.size, 0, none⟩ = false := Lib.frozen_of_heap hr6 0
                      have z1 : w6.frozen? ⟨w.heap.size, 1, none⟩ = false := Lib.frozen_of_heap hr6 1
                      have z2 : w6.frozen? ⟨w.heap.size, 2, none⟩ = false := Lib.frozen_of_heap hr6 2
                      have z3 : w6.frozen? ⟨w.heap.size, 3, none⟩ = false := Lib.frozen_of_heap hr6 3
                      by_cases hev : ev = 0
                      · have e1 : (ev != 0) = false := by simp [hev]
                        by_cases hez : ez = 0
                        · have e2 : (ez != 0) = false := by simp [hez]
                          have hR3 := HR2.out
                          rw [if_neg (by simp [hev]), if_neg (by simp [hez])] at hR3
                          have HR3 := Lib.hid hR3
                          have n0 : w6.cell? ⟨w.heap.size + 1, 0, none⟩ = some (.string ⟨#[]⟩) := blk_cell hk6 0
                          have n1 : w6.cell? ⟨w.heap.size + 1, 1, none⟩ = some (.string ⟨em.toArray⟩) := blk_cell hk6 1
                          have n2 : w6.cell? ⟨w.heap.size + 1, 2, none⟩ = some (.int .i64 v) := blk_cell hk6 2
                          have n3 : w6.cell? ⟨w.heap.size + 1, 3, none⟩ = some (.int .i64 z) := blk_cell hk6 3
                          have HK6 := Lib.hid hk6
                          have HR6 := Lib.hid hr6
                          clear hk6 hr6 hev hez hR3 HR2
                          go_wp2_with fail
                          refine (Tryd.rRight06 ⟨[], em, v, z⟩ _ (HR.out.below hb6) (by simp) (by show em.length ≤ _; omega)).mono ?_
                          rintro e w7 ⟨rfl, hb7⟩
                          have hb7' := hb6.trans (hb7.mono hb6.size)
                          have hk7 := (hb7.block (w.heap.size + 1) (by omega)).trans HK6.out
                          have hr7 := (hb7.block w.heap.size (by omega)).trans HR6.out
                          have hs7 := hb7.size
                          obtain ⟨vr, hvr⟩ : ∃ vr, idnOk ⟨[], em, v, z⟩ = vr := ⟨_, rfl⟩
                          rw [hvr]
                          have HVR := Lib.hid hvr
                          clear hvr m0 m1 m2 m3 z0 z1 z2 z3 n0 n1 n2 n3
                          cases vr with
                          | false =>
                            have m0 : w7.cell? ⟨w.heap.size, 0, none⟩ = some (.string ⟨#[]⟩) := blk_cell hr7 0
                            have m1 : w7.cell? ⟨w.heap.size, 1, none⟩ = some (.string ⟨#[]⟩) := blk_cell hr7 1
                            have m2 : w7.cell? ⟨w.heap.size, 2, none⟩ = some (.int .i64 0) := blk_cell hr7 2
                            have m3 : w7.cell? ⟨w.heap.size, 3, none⟩ = some (.int .i64 0) := blk_cell hr7 3
                            have z0 : w7.frozen? ⟨w.heap.size, 0, none⟩ = false := Lib.frozen_of_heap hr7 0
                            have z1 : w7.frozen? ⟨w.heap.size, 1, none⟩ = false := Lib.frozen_of_heap hr7 1
                            have z2 : w7.frozen? ⟨w.heap.size, 2, none⟩ = false := Lib.frozen_of_heap hr7 2
                            have z3 : w7.frozen? ⟨w.heap.size, 3, none⟩ = false := Lib.frozen_of_heap hr7 3
                            have hv : R1 = idn0 ∧ R2 = 4 := by
                              have := HR3.out
                              rw [if_pos HVR.out] at this
                              injection this with p q; exact ⟨p.symm, q.symm⟩
                            have HV := Lib.hid hv
                            clear hv
                            clear hk7 hr7
                            go_wp2
                            refine bodyPost_ret (v := .tuple #[idnV idn0, .int .i64 4]) (by simp [results, Tryd.results39, go_sem, m0, m1, m2, m3, idn0]) rfl ⟨by rw [HV.out.1, HV.out.2], ?_⟩
                            exact (((hb7'.setCell (Nat.le_refl _) _).setCell (Nat.le_refl _) _).setCell (Nat.le_refl _) _).setCell (Nat.le_refl _) _
                          | true =>
                            have n0 : w7.cell? ⟨w.heap.size + 1, 0, none⟩ = some (.string ⟨#[]⟩) := blk_cell hk7 0
                            have n1 : w7.cell? ⟨w.heap.size + 1, 1, none⟩ = some (.string ⟨em.toArray⟩) := blk_cell hk7 1
                            have n2 : w7.cell? ⟨w.heap.size + 1, 2, none⟩ = some (.int .i64 v) := blk_cell hk7 2
                            have n3 : w7.cell? ⟨w.heap.size + 1, 3, none⟩ = some (.int .i64 z) := blk_cell hk7 3
                            have HK7 := Lib.hid hk7
                            have HR7 := Lib.hid hr7
                            clear hk7 hr7
                            go_wp2_with fail
                            refine (Tryd.rPrint06 ⟨[], em, v, z⟩ _ (HR.out.below hb7') (by simp) (by show em.length ≤ _; omega)).mono ?_
                            rintro e w8 ⟨rfl, hb8⟩
                            have hb8' := hb7'.trans (hb8.mono hb7'.size)
                            have hk8 := (hb8.block (w.heap.size + 1) (by omega)).trans HK7.out
                            have hr8 := (hb8.block w.heap.size (by omega)).trans HR7.out
                            clear n0 n1 n2 n3
                            have m0 : w8.cell? ⟨w.heap.size, 0, none⟩ = some (.string ⟨#[]⟩) := blk_cell hr8 0
                            have m1 : w8.cell? ⟨w.heap.size, 1, none⟩ = some (.string ⟨#[]⟩) := blk_cell hr8 1
                            have m2 : w8.cell? ⟨w.heap.size, 2, none⟩ = some (.int .i64 0) := blk_cell hr8 2
                            have m3 : w8.cell? ⟨w.heap.size, 3, none⟩ = some (.int .i64 0) := blk_cell hr8 3
                            have z0 : w8.frozen? ⟨w.heap.size, 0, none⟩ = false := Lib.frozen_of_heap hr8 0
                            have z1 : w8.frozen? ⟨w.heap.size, 1, none⟩ = false := Lib.frozen_of_heap hr8 1
                            have z2 : w8.frozen? ⟨w.heap.size, 2, none⟩ = false := Lib.frozen_of_heap hr8 2
                            have z3 : w8.frozen? ⟨w.heap.size, 3, none⟩ = false := Lib.frozen_of_heap hr8 3
                            have n0 : w8.cell? ⟨w.heap.size + 1, 0, none⟩ = some (.string ⟨#[]⟩) := blk_cell hk8 0
                            have n1 : w8.cell? ⟨w.heap.size + 1, 1, none⟩ = some (.string ⟨em.toArray⟩) := blk_cell hk8 1
                            have n2 : w8.cell? ⟨w.heap.size + 1, 2, none⟩ = some (.int .i64 v) := blk_cell hk8 2
                            have n3 : w8.cell? ⟨w.heap.size + 1, 3, none⟩ = some (.int .i64 z) := blk_cell hk8 3
                            clear hk8 hr8
                            obtain ⟨pl, hpl⟩ : ∃ pl, idnPrint ⟨[], em, v, z⟩ = pl := ⟨_, rfl⟩
                            rw [hpl]
                            have HPL := Lib.hid hpl
                            clear hpl
                            by_cases heq : pl = s.data.toList
                            · have hv : R1 = ⟨[], em, v, z⟩ ∧ R2 = 0 := by
                                have := HR3.out
                                rw [if_neg (by rw [HVR.out]; simp), if_neg (by rw [HPL.out]; exact fun h => h heq)] at this
                                injection this with p q; exact ⟨p.symm, q.symm⟩
                              have HV := Lib.hid hv
                              have heq' : (pl == s.toList) = true := by rw [toList_dl]; simpa using heq
                              clear hv heq
                              go_wp2
                              refine bodyPost_ret (v := .tuple #[idnV ⟨[], em, v, z⟩, .int .i64 0]) (by simp [results, Tryd.results39, go_sem, m0, m1, m2, m3, idn0]) rfl ⟨by rw [HV.out.1, HV.out.2], ?_⟩
                              exact (((hb8'.setCell (Nat.le_refl _) _).setCell (Nat.le_refl _) _).setCell (Nat.le_refl _) _).setCell (Nat.le_refl _) _
                            · have hv : R1 = idn0 ∧ R2 = 4 := by
                                have := HR3.out
                                rw [if_neg (by rw [HVR.out]; simp), if_pos (by rw [HPL.out]; exact heq)] at this
                                injection this with p q; exact ⟨p.symm, q.symm⟩
                              have HV := Lib.hid hv
                              have heq' : (pl == s.toList) = false := by rw [toList_dl]; simpa using heq
                              clear hv heq
                              go_wp2
                              refine bodyPost_ret (v := .tuple #[idnV idn0, .int .i64 4]) (by simp [results, Tryd.results39, go_sem, m0, m1, m2, m3, idn0]) rfl ⟨by rw [HV.out.1, HV.out.2], ?_⟩
                              exact (((hb8'.setCell (Nat.le_refl _) _).setCell (Nat.le_refl _) _).setCell (Nat.le_refl _) _).setCell (Nat.le_refl _) _
                        · have e2 : (ez != 0) = true := by simpa using hez
                          have hv : R1 = idn0 ∧ R2 = 4 := by
                            have := HR2.out
                            rw [if_neg (by simp [hev]), if_pos hez] at this
                            injection this with p q; exact ⟨p.symm, q.symm⟩
                          have HV := Lib.hid hv
                          clear hv
                          clear hk6 hr6 hev hez
                          go_wp2
                          refine bodyPost_ret (v := .tuple #[idnV idn0, .int .i64 4]) (by simp [results, Tryd.results39, go_sem, m0, m1, m2, m3, idn0]) rfl ⟨by rw [HV.out.1, HV.out.2], ?_⟩
                          exact (((hb6.setCell (Nat.le_refl _) _).setCell (Nat.le_refl _) _).setCell (Nat.le_refl _) _).setCell (Nat.le_refl _) _
                      · have e1 : (ev != 0) = true := by simpa using hev
                        have hv : R1 = idn0 ∧ R2 = 4 := by
                          have := HR2.out
                          rw [if_pos hev] at this
                          injection this with p q; exact ⟨p.symm, q.symm⟩
                        have HV := Lib.hid hv
                        clear hv
                        clear hk6 hr6 hev
                        go_wp2
                        refine bodyPost_ret (v := .tuple #[idnV idn0, .int .i64 4]) (by simp [results, Tryd.results39, go_sem, m0, m1, m2, m3, idn0]) rfl ⟨by rw [HV.out.1, HV.out.2], ?_⟩
                        exact (((hb6.setCell (Nat.le_refl _) _).setCell (Nat.le_refl _) _).setCell (Nat.le_refl _) _).setCell (Nat.le_refl _) _
                    · have k3 : ((y6.toNat : Int) != 32) = true := by simp; omega
                      have hv : R1 = idn0 ∧ R2 = 4 := by
                        have := HR1.out
                        unfold identR1 at this
                        rw [if_neg G.out.2.2, if_neg (by rw [G.out.1]; exact fun h => h (UInt8.toNat_inj.1 d2)), if_pos (by rw [G.out.2.1]; exact fun h => d3 (by rw [h]; rfl))] at this
                        injection this with p q; exact ⟨p.symm, q.symm⟩
                      have HV := Lib.hid hv
                      clear hv
                      go_wp2
                      refine bodyPost_ret (v := .tuple #[idnV idn0, .int .i64 4]) (by simp [results, Tryd.results39, go_sem, idn0]) rfl ⟨by rw [HV.out.1, HV.out.2], ?_⟩
                      exact ((Below.refl _ w).alloc (Nat.le_refl _) _).alloc (by simp) _
                  · have k2 : ((y0.toNat : Int) != 32) = true := by simp; omega
                    have hv : R1 = idn0 ∧ R2 = 4 := by
                      have := HR1.out
                      unfold identR1 at this
                      rw [if_neg G.out.2.2, if_pos (by rw [G.out.1]; exact fun h => d2 (by rw [h]; rfl))] at this
                      injection this with p q; exact ⟨p.symm, q.symm⟩
                    have HV := Lib.hid hv
                    clear hv
                    go_wp2
                    refine bodyPost_ret (v := .tuple #[idnV idn0, .int .i64 4]) (by simp [results, Tryd.results39, go_sem, idn0]) rfl ⟨by rw [HV.out.1, HV.out.2], ?_⟩
                    exact ((Below.refl _ w).alloc (Nat.le_refl _) _).alloc (by simp) _

              · obtain ⟨hlt1, hy32⟩ := HYY.out (by omega)
                have e0 : (0 : Int) < (n : Int) := by omega
                have e00 : (1 : Int) < (n : Int) := by omega
                have e2 : (((s[n - 1]'hlt1).toNat : Int) != 32) = false := by simp [hy32]
                have e3 : (1 : Int) ≤ (n : Int) := by omega
                clear hy32
                go_upto_region 15 with (fail)
                by_cases d1 : rr.size < 8
                · have k1 : (rr.size : Int) < 8 := by omega
                  have hv : R1 = idn0 ∧ R2 = 4 := by
                    have := HR1.out
                    unfold identR1 at this
                    rw [if_pos (by rw [← size_dl]; exact d1)] at this
                    injection this with p q; exact ⟨p.symm, q.symm⟩
                  have HV := Lib.hid hv
                  clear hv
                  go_wp2
                  refine bodyPost_ret (v := .tuple #[idnV idn0, .int .i64 4]) (by simp [results, Tryd.results39, go_sem, idn0]) rfl ⟨by rw [HV.out.1, HV.out.2], ?_⟩
                  exact ((Below.refl _ w).alloc (Nat.le_refl _) _).alloc (by simp) _
                · have k1 : ¬ (rr.size : Int) < 8 := by omega
                  have hz0 : 0 < rr.size := by omega
                  have hz6 : rr.size - 6 < rr.size := by omega
                  have i6 : (6 : Int) ≤ (rr.size : Int) := by omega
                  obtain ⟨y0, hy0⟩ : ∃ y : UInt8, rr[0]'hz0 = y := ⟨_, rfl⟩
                  obtain ⟨y6, hy6⟩ : ∃ y : UInt8, rr[rr.size - 6]'hz6 = y := ⟨_, rfl⟩
                  have g0 : rr.data.toList.getD 0 0 = y0 := by rw [← hy0]; exact (getD_of_get rr _ 0 hz0 rfl).symm
                  have g6 : rr.data.toList.getD (rr.data.toList.length - 6) 0 = y6 := by rw [← hy6, ← size_dl]; exact (getD_of_get rr _ _ hz6 rfl).symm
                  have dd1 : ¬ rr.data.toList.length < 8 := by rw [← size_dl]; exact d1
                  have G := Lib.hid (And.intro g0 (And.intro g6 dd1))
                  clear g0 g6 dd1
                  by_cases d2 : y0.toNat = 32
                  · have k2 : ((y0.toNat : Int) != 32) = false := by simp [d2]
                    by_cases d3 : y6.toNat = 32
                    · have k3 : ((y6.toNat : Int) != 32) = false := by simp [d3]
                      have hR2 := HR1.out
                      unfold identR1 at hR2
                      rw [if_neg G.out.2.2, if_neg (by rw [G.out.1]; exact fun h => h (UInt8.toNat_inj.1 d2)), if_neg (by rw [G.out.2.1]; exact fun h => h (UInt8.toNat_inj.1 d3))] at hR2
                      unfold identR2 at hR2
                      obtain ⟨v, ev, hv⟩ : ∃ v ev, takeN ((rr.data.toList.take (rr.data.toList.length - 6)).drop 1) = (v, ev) := ⟨_, _, rfl⟩
                      obtain ⟨z, ez, hz⟩ : ∃ z ez, takeZ (rr.data.toList.drop (rr.data.toList.length - 5)) = (z, ez) := ⟨_, _, rfl⟩
                      rw [hv, hz] at hR2
                      dsimp only at hR2
                      have hx1 : takeN (rr.extract 1 (rr.size - 6)).data.toList = (v, ev) := by rw [Lib.extract_data, ← hv, List.drop_take, size_dl]
                      have hx2 : takeZ (rr.extract (rr.size - 5) rr.size).data.toList = (z, ez) := by rw [Lib.extract_data, ← hz, List.take_of_length_le (by rw [List.length_drop, ← size_dl]; omega), size_dl]
                      have HR2 := Lib.hid hR2
                      have HX1 := Lib.hid hx1
                      have HX2 := Lib.hid hx2
                      have i1 : (1 : Int) ≤ (rr.size : Int) - 6 := by omega
                      have i2 : (rr.size : Int) - 6 ≤ (rr.size : Int) := by omega
                      have i3 : (0 : Int) ≤ (rr.size : Int) - 5 := by omega
                      have i4 : (rr.size : Int) - 5 ≤ (rr.size : Int) := by omega
                      clear hR2 hv hz hx1 hx2 HR1 d1 d2 d3
                      go_wp2_with fail
                      refine (Tryd.rTakeNumber (rr.extract 1 (rr.size - 6)) _ (by rw [ByteArray.size_extract]; omega)).mono ?_
                      rintro e w1 ⟨rfl, rfl⟩
                      rw [HX1.out]
                      go_wp2_with fail
                      refine (Tryd.rZone06 (rr.extract (rr.size - 5) rr.size) _ (by rw [ByteArray.size_extract]; omega)).mono ?_
                      rintro e w5 ⟨rfl, hb5⟩
                      rw [HX2.out]
                      have hbA : Below w.heap.size w ((w.alloc (.cells #[.string ⟨#[]⟩, .string ⟨#[]⟩, .int .i64 0, .int .i64 0] 50)).alloc (.cells #[.string ⟨nm.toArray⟩, .string ⟨em.toArray⟩, .int .i64 0, .int .i64 0] 50)) := ((Below.refl _ w).alloc (Nat.le_refl _) _).alloc (by simp) _
                      have hb5' := hbA.trans (hb5.mono hbA.size)
                      have hs5 := hb5.size
                      simp at hs5
                      have hr5 := (hb5.block w.heap.size (by simp; omega)).trans ((Below.heap_alloc (w.alloc (.cells #[.string ⟨#[]⟩, .string ⟨#[]⟩, .int .i64 0, .int .i64 0] 50)) (.cells #[.string ⟨nm.toArray⟩, .string ⟨em.toArray⟩, .int .i64 0, .int .i64 0] 50) w.heap.size (by simp)).trans (heap_alloc_new w (.cells #[.string ⟨#[]⟩, .string ⟨#[]⟩, .int .i64 0, .int .i64 0] 50)))
                      have hk5' := (hb5.block (w.alloc (.cells #[.string ⟨#[]⟩, .string ⟨#[]⟩, .int .i64 0, .int .i64 0] 50)).heap.size (by simp)).trans (heap_alloc_new (w.alloc (.cells #[.string ⟨#[]⟩, .string ⟨#[]⟩, .int .i64 0, .int .i64 0] 50)) (.cells #[.string ⟨nm.toArray⟩, .string ⟨em.toArray⟩, .int .i64 0, .int .i64 0] 50))
                      have hk5 : w5.heap[w.heap.size + 1]? = some (.cells #[.string ⟨nm.toArray⟩, .string ⟨em.toArray⟩, .int .i64 0, .int .i64 0] 50) := by simpa using hk5'
                      have n2 : w5.cell? ⟨w.heap.size + 1, 2, none⟩ = some (.int .i64 0) := blk_cell hk5 2
                      have n3 : w5.cell? ⟨w.heap.size + 1, 3, none⟩ = some (.int .i64 0) := blk_cell hk5 3
                      have n0 : w5.cell? ⟨w.heap.size + 1, 0, none⟩ = some (.string ⟨nm.toArray⟩) := blk_cell hk5 0
                      have n1 : w5.cell? ⟨w.heap.size + 1, 1, none⟩ = some (.string ⟨em.toArray⟩) := blk_cell hk5 1
                      have z2 : w5.frozen? ⟨w.heap.size + 1, 2, none⟩ = false := Lib.frozen_of_heap hk5 2
                      have z3 : w5.frozen? ⟨w.heap.size + 1, 3, none⟩ = false := Lib.frozen_of_heap hk5 3
                      have HK5 := Lib.hid hk5
                      have HR5 := Lib.hid hr5
                      clear hk5 hk5' hr5 hbA
                      go_upto_region 20 with (fail)
                      obtain ⟨w6, hw6⟩ : ∃ w6, (w5.setCell ⟨w.heap.size + 1, 2, none⟩ (.int .i64 v)).setCell ⟨w.heap.size + 1, 3, none⟩ (.int .i64 z) = w6 := ⟨_, rfl⟩
                      have hb6 : Below w.heap.size w w6 := by rw [← hw6]; exact (hb5'.setCell (Nat.le_succ _) _).setCell (Nat.le_succ _) _
                      have hk6 : w6.heap[w.heap.size + 1]? = some (.cells #[.string ⟨nm.toArray⟩, .string ⟨em.toArray⟩, .int .i64 v, .int .i64 z] 50 (0, 0)) := by
                        rw [← hw6]
                        exact heap_setCell_same _ _ 3 _ _ _ (heap_setCell_same _ _ 2 _ _ _ HK5.out)
                      have hr6 : w6.heap[w.heap.size]? = some (.cells #[.string ⟨#[]⟩, .string ⟨#[]⟩, .int .i64 0, .int .i64 0] 50) := by
                        rw [← hw6, heap_setCell_other _ _ _ _ (by simp), heap_setCell_other _ _ _ _ (by simp)]
                        exact HR5.out
                      have hs6 : w.heap.size + 2 ≤ w6.heap.size := by rw [← hw6]; simp; omega
                      rw [hw6]
                      clear hw6 n0 n1 n2 n3 z2 z3 HK5 HR5 hb5' hb5 hs5
                      have m0 : w6.cell? ⟨w.heap.size, 0, none⟩ = some (.string ⟨#[]⟩) := blk_cell hr6 0
                      have m1 : w6.cell? ⟨w.heap.size, 1, none⟩ = some (.string ⟨#[]⟩) := blk_cell hr6 1
                      have m2 : w6.cell? ⟨w.heap.size, 2, none⟩ = some (.int .i64 0) := blk_cell hr6 2
                      have m3 : w6.cell? ⟨w.heap.size, 3, none⟩ = some (.int .i64 0) := blk_cell hr6 3
                      have z0 : w6.frozen? ⟨w.heap.size, 0, none⟩ = false := Lib.frozen_of_heap hr6 0
                      have z1 : w6.frozen? ⟨w.heap.size, 1, none⟩ = false := Lib.frozen_of_heap hr6 1
                      have z2 : w6.frozen? ⟨w.heap.size, 2, none⟩ = false := Lib.frozen_of_heap hr6 2
                      have z3 : w6.frozen? ⟨w.heap.size, 3, none⟩ = false := Lib.frozen_of_heap hr6 3
                      by_cases hev : ev = 0
                      · have e1 : (ev != 0) = false := by simp [hev]
                        by_cases hez : ez = 0
                        · have e2 : (ez != 0) = false := by simp [hez]
                          have hR3 := HR2.out
                          rw [if_neg (by simp [hev]), if_neg (by simp [hez])] at hR3
                          have HR3 := Lib.hid hR3
                          have n0 : w6.cell? ⟨w.heap.size + 1, 0, none⟩ = some (.string ⟨nm.toArray⟩) := blk_cell hk6 0
                          have n1 : w6.cell? ⟨w.heap.size + 1, 1, none⟩ = some (.string ⟨em.toArray⟩) := blk_cell hk6 1
                          have n2 : w6.cell? ⟨w.heap.size + 1, 2, none⟩ = some (.int .i64 v) := blk_cell hk6 2
                          have n3 : w6.cell? ⟨w.heap.size + 1, 3, none⟩ = some (.int .i64 z) := blk_cell hk6 3
                          have HK6 := Lib.hid hk6
                          have HR6 := Lib.hid hr6
                          clear hk6 hr6 hev hez hR3 HR2
                          go_wp2_with fail
                          refine (Tryd.rRight06 ⟨nm, em, v, z⟩ _ (HR.out.below hb6) (by show nm.length ≤ _; omega) (by show em.length ≤ _; omega)).mono ?_
                          rintro e w7 ⟨rfl, hb7⟩
                          have hb7' := hb6.trans (hb7.mono hb6.size)
                          have hk7 := (hb7.block (w.heap.size + 1) (by omega)).trans HK6.out
                          have hr7 := (hb7.block w.heap.size (by omega)).trans HR6.out
                          have hs7 := hb7.size
                          obtain ⟨vr, hvr⟩ : ∃ vr, idnOk ⟨nm, em, v, z⟩ = vr := ⟨_, rfl⟩
                          rw [hvr]
                          have HVR := Lib.hid hvr
                          clear hvr m0 m1 m2 m3 z0 z1 z2 z3 n0 n1 n2 n3
                          cases vr with
                          | false =>
                            have m0 : w7.cell? ⟨w.heap.size, 0, none⟩ = some (.string ⟨#[]⟩) := blk_cell hr7 0
                            have m1 : w7.cell? ⟨w.heap.size, 1, none⟩ = some (.string ⟨#[]⟩) := blk_cell hr7 1
                            have m2 : w7.cell? ⟨w.heap.size, 2, none⟩ = some (.int .i64 0) := blk_cell hr7 2
                            have m3 : w7.cell? ⟨w.heap.size, 3, none⟩ = some (.int .i64 0) := blk_cell hr7 3
                            have z0 : w7.frozen? ⟨w.heap.size, 0, none⟩ = false := Lib.frozen_of_heap hr7 0
                            have z1 : w7.frozen? ⟨w.heap.size, 1, none⟩ = false := Lib.frozen_of_heap hr7 1
                            have z2 : w7.frozen? ⟨w.heap.size, 2, none⟩ = false := Lib.frozen_of_heap hr7 2
                            have z3 : w7.frozen? ⟨w.heap.size, 3, none⟩ = false := Lib.frozen_of_heap hr7 3
                            have hv : R1 = idn0 ∧ R2 = 4 := by
                              have := HR3.out
                              rw [if_pos HVR.out] at this
                              injection this with p q; exact ⟨p.symm, q.symm⟩
                            have HV := Lib.hid hv
                            clear hv
                            clear hk7 hr7
                            go_wp2
                            refine bodyPost_ret (v := .tuple #[idnV idn0, .int .i64 4]) (by simp [results, Tryd.results39, go_sem, m0, m1, m2, m3, idn0]) rfl ⟨by rw [HV.out.1, HV.out.2], ?_⟩
                            exact (((hb7'.setCell (Nat.le_refl _) _).setCell (Nat.le_refl _) _).setCell (Nat.le_refl _) _).setCell (Nat.le_refl _) _
                          | true =>
                            have n0 : w7.cell? ⟨w.heap.size + 1, 0, none⟩ = some (.string ⟨nm.toArray⟩) := blk_cell hk7 0
                            have n1 : w7.cell? ⟨w.heap.size + 1, 1, none⟩ = some (.string ⟨em.toArray⟩) := blk_cell hk7 1
                            have n2 : w7.cell? ⟨w.heap.size + 1, 2, none⟩ = some (.int .i64 v) := blk_cell hk7 2
                            have n3 : w7.cell? ⟨w.heap.size + 1, 3, none⟩ = some (.int .i64 z) := blk_cell hk7 3
                            have HK7 := Lib.hid hk7
                            have HR7 := Lib.hid hr7
                            clear hk7 hr7
                            go_wp2_with fail
                            refine (Tryd.rPrint06 ⟨nm, em, v, z⟩ _ (HR.out.below hb7') (by show nm.length ≤ _; omega) (by show em.length ≤ _; omega)).mono ?_
                            rintro e w8 ⟨rfl, hb8⟩
                            have hb8' := hb7'.trans (hb8.mono hb7'.size)
                            have hk8 := (hb8.block (w.heap.size + 1) (by omega)).trans HK7.out
                            have hr8 := (hb8.block w.heap.size (by omega)).trans HR7.out
                            clear n0 n1 n2 n3
                            have m0 : w8.cell? ⟨w.heap.size, 0, none⟩ = some (.string ⟨#[]⟩) := blk_cell hr8 0
                            have m1 : w8.cell? ⟨w.heap.size, 1, none⟩ = some (.string ⟨#[]⟩) := blk_cell hr8 1
                            have m2 : w8.cell? ⟨w.heap.size, 2, none⟩ = some (.int .i64 0) := blk_cell hr8 2
                            have m3 : w8.cell? ⟨w.heap.size, 3, none⟩ = some (.int .i64 0) := blk_cell hr8 3
                            have z0 : w8.frozen? ⟨w.heap.size, 0, none⟩ = false := Lib.frozen_of_heap hr8 0
                            have z1 : w8.frozen? ⟨w.heap.size, 1, none⟩ = false := Lib.frozen_of_heap hr8 1
                            have z2 : w8.frozen? ⟨w.heap.size, 2, none⟩ = false := Lib.frozen_of_heap hr8 2
                            have z3 : w8.frozen? ⟨w.heap.size, 3, none⟩ = false := Lib.frozen_of_heap hr8 3
                            have n0 : w8.cell? ⟨w.heap.size + 1, 0, none⟩ = some (.string ⟨nm.toArray⟩) := blk_cell hk8 0
                            have n1 : w8.cell? ⟨w.heap.size + 1, 1, none⟩ = some (.string ⟨em.toArray⟩) := blk_cell hk8 1
                            have n2 : w8.cell? ⟨w.heap.size + 1, 2, none⟩ = some (.int .i64 v) := blk_cell hk8 2
                            have n3 : w8.cell? ⟨w.heap.size + 1, 3, none⟩ = some (.int .i64 z) := blk_cell hk8 3
                            clear hk8 hr8
                            obtain ⟨pl, hpl⟩ : ∃ pl, idnPrint ⟨nm, em, v, z⟩ = pl := ⟨_, rfl⟩
                            rw [hpl]
                            have HPL := Lib.hid hpl
                            clear hpl
                            by_cases heq : pl = s.data.toList
                            · have hv : R1 = ⟨nm, em, v, z⟩ ∧ R2 = 0 := by
                                have := HR3.out
                                rw [if_neg (by rw [HVR.out]; simp), if_neg (by rw [HPL.out]; exact fun h => h heq)] at this
                                injection this with p q; exact ⟨p.symm, q.symm⟩
                              have HV := Lib.hid hv
                              have heq' : (pl == s.toList) = true := by rw [toList_dl]; simpa using heq
                              clear hv heq
                              go_wp2
                              refine bodyPost_ret (v := .tuple #[idnV ⟨nm, em, v, z⟩, .int .i64 0]) (by simp [results, Tryd.results39, go_sem, m0, m1, m2, m3, idn0]) rfl ⟨by rw [HV.out.1, HV.out.2], ?_⟩
                              exact (((hb8'.setCell (Nat.le_refl _) _).setCell (Nat.le_refl _) _).setCell (Nat.le_refl _) _).setCell (Nat.le_refl _) _
                            · have hv : R1 = idn0 ∧ R2 = 4 := by
                                have := HR3.out
                                rw [if_neg (by rw [HVR.out]; simp), if_pos (by rw [HPL.out]; exact heq)] at this
                                injection this with p q; exact ⟨p.symm, q.symm⟩
                              have HV := Lib.hid hv
                              have heq' : (pl == s.toList) = false := by rw [toList_dl]; simpa using heq
                              clear hv heq
                              go_wp2
                              refine bodyPost_ret (v := .tuple #[idnV idn0, .int .i64 4]) (by simp [results, Tryd.results39, go_sem, m0, m1, m2, m3, idn0]) rfl ⟨by rw [HV.out.1, HV.out.2], ?_⟩
                              exact (((hb8'.setCell (Nat.le_refl _) _).setCell (Nat.le_refl _) _).setCell (Nat.le_refl _) _).setCell (Nat.le_refl _) _
                        · have e2 : (ez != 0) = true := by simpa using hez
                          have hv : R1 = idn0 ∧ R2 = 4 := by
                            have := HR2.out
                            rw [if_neg (by simp [hev]), if_pos hez] at this
                            injection this with p q; exact ⟨p.symm, q.symm⟩
                          have HV := Lib.hid hv
                          clear hv
                          clear hk6 hr6 hev hez
                          go_wp2
                          refine bodyPost_ret (v := .tuple #[idnV idn0, .int .i64 4]) (by simp [results, Tryd.results39, go_sem, m0, m1, m2, m3, idn0]) rfl ⟨by rw [HV.out.1, HV.out.2], ?_⟩
                          exact (((hb6.setCell (Nat.le_refl _) _).setCell (Nat.le_refl _) _).setCell (Nat.le_refl _) _).setCell (Nat.le_refl _) _
                      · have e1 : (ev != 0) = true := by simpa using hev
                        have hv : R1 = idn0 ∧ R2 = 4 := by
                          have := HR2.out
                          rw [if_pos hev] at this
                          injection this with p q; exact ⟨p.symm, q.symm⟩
                        have HV := Lib.hid hv
                        clear hv
                        clear hk6 hr6 hev
                        go_wp2
                        refine bodyPost_ret (v := .tuple #[idnV idn0, .int .i64 4]) (by simp [results, Tryd.results39, go_sem, m0, m1, m2, m3, idn0]) rfl ⟨by rw [HV.out.1, HV.out.2], ?_⟩
                        exact (((hb6.setCell (Nat.le_refl _) _).setCell (Nat.le_refl _) _).setCell (Nat.le_refl _) _).setCell (Nat.le_refl _) _
                    · have k3 : ((y6.toNat : Int) != 32) = true := by simp; omega
                      have hv : R1 = idn0 ∧ R2 = 4 := by
                        have := HR1.out
                        unfold identR1 at this
                        rw [if_neg G.out.2.2, if_neg (by rw [G.out.1]; exact fun h => h (UInt8.toNat_inj.1 d2)), if_pos (by rw [G.out.2.1]; exact fun h => d3 (by rw [h]; rfl))] at this
                        injection this with p q; exact ⟨p.symm, q.symm⟩
                      have HV := Lib.hid hv
                      clear hv
                      go_wp2
                      refine bodyPost_ret (v := .tuple #[idnV idn0, .int .i64 4]) (by simp [results, Tryd.results39, go_sem, idn0]) rfl ⟨by rw [HV.out.1, HV.out.2], ?_⟩
                      exact ((Below.refl _ w).alloc (Nat.le_refl _) _).alloc (by simp) _
                  · have k2 : ((y0.toNat : Int) != 32) = true := by simp; omega
                    have hv : R1 = idn0 ∧ R2 = 4 := by
                      have := HR1.out
                      unfold identR1 at this
                      rw [if_neg G.out.2.2, if_pos (by rw [G.out.1]; exact fun h => d2 (by rw [h]; rfl))] at this
                      injection this with p q; exact ⟨p.symm, q.symm⟩
                    have HV := Lib.hid hv
                    clear hv
                    go_wp2
                    refine bodyPost_ret (v := .tuple #[idnV idn0, .int .i64 4]) (by simp [results, Tryd.results39, go_sem, idn0]) rfl ⟨by rw [HV.out.1, HV.out.2], ?_⟩
                    exact ((Below.refl _ w).alloc (Nat.le_refl _) _).alloc (by simp) _


end Go.Proofs.YtlhbbpagjkjplaaDoor
