/- Contracts and plain laws for the proofs of this seat: the reference reads a zone. Conditions: those written at each theorem. -/
import Derived.Test.YtlhbbpagjkjplaaDoorIdI
set_option linter.unusedVariables false
set_option linter.unusedSimpArgs false
namespace Go.Proofs.YtlhbbpagjkjplaaDoor
open Go.RowKit Go.Proofs

theorem ret_ii {a b c d : Int} (h : a = c) (h2 : b = d) : Ending.returned (.tuple #[.int .i64 a, .int .i64 b]) = .returned (.tuple #[.int .i64 c, .int .i64 d]) := by rw [h, h2]
theorem zoneR_len (l : By) (h : l.length ≠ 5) : zoneR l = (0, 4) := by
  unfold zoneR
  split
  · exact absurd rfl h
  · rfl
theorem zoneR5 (a b c d e : UInt8) : zoneR [a, b, c, d, e] =
    if a ≠ 43 ∧ a ≠ 45 then (0, 4)
    else if ([b, c, d, e].any fun x => !(decide (48 ≤ x.toNat) && decide (x.toNat ≤ 57))) then (0, 4)
    else if 59 < (d.toNat - 48) * 10 + (e.toNat - 48) then (0, 4)
    else if 840 < ((b.toNat - 48) * 10 + (c.toNat - 48)) * 60 + ((d.toNat - 48) * 10 + (e.toNat - 48)) then (0, 4)
    else if a = 45 ∧ ((b.toNat - 48) * 10 + (c.toNat - 48)) * 60 + ((d.toNat - 48) * 10 + (e.toNat - 48)) = 0 then (0, 4)
    else (zoneV a b c d e, 0) := rfl

set_option maxHeartbeats 4000000 in
set_option maxRecDepth 100000 in
theorem Tryd.rZone06 (s : ByteArray) (w : World) (hs : s.size ≤ 1000000000) :
    Calls Tryd.prog 41 #[.string s] w fun e w' => e = .returned (.tuple #[.int .i64 (takeZ s.data.toList).1, .int .i64 (takeZ s.data.toList).2]) ∧ Below w.heap.size w w' := by
  rw [← zoneR_eq]
  obtain ⟨R1, R2, hR⟩ : ∃ R1 R2, zoneR s.data.toList = (R1, R2) := ⟨_, _, rfl⟩
  rw [hR]
  by_cases h5 : s.size = 5
  · obtain ⟨a, b, c, d, e, hl⟩ := list5 s.data.toList (by rw [← size_dl]; exact h5)
    rw [hl, zoneR5] at hR
    have q0 : 0 < s.size := by omega
    have q1 : 1 < s.size := by omega
    have q2 : 2 < s.size := by omega
    have q3 : 3 < s.size := by omega
    have q4 : 4 < s.size := by omega
    have q5 : s.size ≤ 5 := by omega
    have ha : s[0]'q0 = a := by rw [get_dl]; simp [hl]
    have hb : s[1]'q1 = b := by rw [get_dl]; simp [hl]
    have hc : s[2]'q2 = c := by rw [get_dl]; simp [hl]
    have hd : s[3]'q3 = d := by rw [get_dl]; simp [hl]
    have he : s[4]'q4 = e := by rw [get_dl]; simp [hl]
    have e5 : ((s.size : Int) != 5) = false := by simp [h5]
    have HL := Lib.hid hl
    have HRR := Lib.hid hR
    clear hl hR h5
    by_cases hsg : a.toNat ≠ 43 ∧ a.toNat ≠ 45
    · have f1 : ((a.toNat : Int) != 43) = true := by simp; omega
      have f2 : ((a.toNat : Int) != 45) = true := by simp; omega
      have hv : R1 = 0 ∧ R2 = 4 := by
        have := HRR.out
        rw [if_pos ⟨fun h => hsg.1 (by rw [h]; rfl), fun h => hsg.2 (by rw [h]; rfl)⟩] at this
        injection this with p q; exact ⟨p.symm, q.symm⟩
      have HV := Lib.hid hv
      clear hv hsg
      go_enter Tryd.func41, Tryd.ntmps41
      go_wp2
      go_ret2
      exact ⟨ret_ii HV.out.1.symm HV.out.2.symm, Below.refl _ _⟩
    · have hsg2 : ¬ (a ≠ 43 ∧ a ≠ 45) := by
        intro ⟨h1, h2⟩
        exact hsg ⟨fun h => h1 (UInt8.toNat_inj.1 h), fun h => h2 (UInt8.toNat_inj.1 h)⟩
      have hR2 := HRR.out
      rw [if_neg hsg2] at hR2
      have HR2 := Lib.hid hR2
      clear hsg2 hR2 HRR
      have hcase : (((a.toNat : Int) != 43) = false ∧ ((a.toNat : Int) == 45) = false ∧ a ≠ 45) ∨ (((a.toNat : Int) != 43) = true ∧ ((a.toNat : Int) != 45) = false ∧ ((a.toNat : Int) == 45) = true ∧ a = 45) := by
        by_cases h43 : a.toNat = 43
        · left; exact ⟨by simp [h43], by simp [h43], fun h => by rw [h] at h43; exact absurd h43 (by decide)⟩
        · right
          have h45 : a.toNat = 45 := by omega
          exact ⟨by simp; omega, by simp [h45], by simp [h45], UInt8.toNat_inj.1 h45⟩
      have HCASE := Lib.hid hcase
      go_enter Tryd.func41, Tryd.ntmps41
      rcases hcase with ⟨f1, f2, f3⟩ | ⟨f1, f2, f3, f4⟩
      all_goals
        clear hsg
        have HCL := HCASE
        clear HCASE
        go_wp2
        go_loop [4] (fun i => ∃ k : Nat, k ≤ 4 ∧ i = .int .i64 ((k : Int) + 1) ∧ Hid (∀ j, j < k → digB (([b, c, d, e] : By).getD j 0) = true)) (fun i => 6 - (intOf i).toNat)
        case atStart => exact ⟨0, by omega, rfl, fun j hj => by omega⟩
        case round =>
          obtain ⟨k, hk, rfl, HD⟩ := hrel
          by_cases hlt : k < 4
          · have hk1 : k + 1 < s.size := by omega
            have hki : (k : Int) + 1 < (s.size : Int) := by omega
            obtain ⟨x, hx⟩ : ∃ x : UInt8, s[k + 1]'hk1 = x := ⟨_, rfl⟩
            have hxd : ([b, c, d, e] : By).getD k 0 = x := by
              have h1 := getD_of_get s _ (k + 1) hk1 HL.out
              rw [hx] at h1
              rw [h1]; simp
            have HXD := Lib.hid hxd
            clear hxd
            by_cases hdg : 48 ≤ x.toNat ∧ x.toNat ≤ 57
            · have r1 : ¬ (x.toNat : Int) < 48 := by omega
              have r2 : ¬ (57 : Int) < (x.toNat : Int) := by omega
              have hDn : ∀ j, j < k + 1 → digB (([b, c, d, e] : By).getD j 0) = true := by
                intro j hj
                by_cases hip : j < k
                · exact HD.out j hip
                · obtain rfl : j = k := by omega
                  rw [HXD.out]; unfold digB; simp; omega
              have HDN := Lib.hid hDn
              clear hDn hdg
              go_wp2
              go_round
              case rel => exact ⟨k + 1, by omega, by go_num, HDN.out⟩
              case measure => simp [intOf]; omega
            · have hv : R1 = 0 ∧ R2 = 4 := by
                have := HR2.out
                rw [if_pos] at this
                · injection this with p q; exact ⟨p.symm, q.symm⟩
                · rw [List.any_eq_true]
                  refine ⟨x, ?_, ?_⟩
                  · rw [← HXD.out]
                    match k, hlt with
                    | 0, _ => simp
                    | 1, _ => simp
                    | 2, _ => simp
                    | 3, _ => simp
                  · simp; omega
              have HV := Lib.hid hv
              have hor : (x.toNat : Int) < 48 ∨ (57 : Int) < (x.toNat : Int) := by omega
              clear hv hdg
              rcases hor with r1 | r1
              · go_wp2
                go_ret2
                exact ⟨ret_ii HV.out.1.symm HV.out.2.symm, Below.refl _ _⟩
              · have r0 : ¬ (x.toNat : Int) < 48 := by omega
                go_wp2
                go_ret2
                exact ⟨ret_ii HV.out.1.symm HV.out.2.symm, Below.refl _ _⟩
          · have h4 : k = 4 := by omega
            subst h4
            have h0 := HD.out 0 (by omega)
            have h1 := HD.out 1 (by omega)
            have h2 := HD.out 2 (by omega)
            have h3 := HD.out 3 (by omega)
            simp only [List.getD_cons_zero, List.getD_cons_succ] at h0 h1 h2 h3
            have hR3 := HR2.out
            rw [if_neg] at hR3
            · have HR3 := Lib.hid hR3
              clear hR3 HR2 HD
              unfold digB at h0 h1 h2 h3
              simp only [Bool.and_eq_true, decide_eq_true_eq] at h0 h1 h2 h3
              obtain ⟨B, hB⟩ : ∃ B : Nat, b.toNat = B := ⟨_, rfl⟩
              obtain ⟨C, hC⟩ : ∃ C : Nat, c.toNat = C := ⟨_, rfl⟩
              obtain ⟨D, hD⟩ : ∃ D : Nat, d.toNat = D := ⟨_, rfl⟩
              obtain ⟨E, hE⟩ : ∃ E : Nat, e.toNat = E := ⟨_, rfl⟩
              have HZV := Lib.hid (show zoneV a b c d e = (if a = 45 then -((((B - 48) * 10 + (C - 48)) * 60 + ((D - 48) * 10 + (E - 48)) : Nat) : Int) else ((((B - 48) * 10 + (C - 48)) * 60 + ((D - 48) * 10 + (E - 48)) : Nat) : Int)) by unfold zoneV; rw [hB, hC, hD, hE])
              rw [hB, hC, hD, hE] at HR3
              rw [hB] at h0
              rw [hC] at h1
              rw [hD] at h2
              rw [hE] at h3
              have u1 : IntKind.u8.wrap ((B : Int) - 48) = (B : Int) - 48 := IntWalk.u8_in _ ⟨by omega, by omega⟩
              have u2 : IntKind.u8.wrap ((C : Int) - 48) = (C : Int) - 48 := IntWalk.u8_in _ ⟨by omega, by omega⟩
              have u3 : IntKind.u8.wrap ((D : Int) - 48) = (D : Int) - 48 := IntWalk.u8_in _ ⟨by omega, by omega⟩
              have u4 : IntKind.u8.wrap ((E : Int) - 48) = (E : Int) - 48 := IntWalk.u8_in _ ⟨by omega, by omega⟩
              have v1 : IntKind.i64.wrap ((B : Int) - 48) = (B : Int) - 48 := IntWalk.i64_in _ ⟨by omega, by omega⟩
              have v2 : IntKind.i64.wrap ((C : Int) - 48) = (C : Int) - 48 := IntWalk.i64_in _ ⟨by omega, by omega⟩
              have v3 : IntKind.i64.wrap ((D : Int) - 48) = (D : Int) - 48 := IntWalk.i64_in _ ⟨by omega, by omega⟩
              have v4 : IntKind.i64.wrap ((E : Int) - 48) = (E : Int) - 48 := IntWalk.i64_in _ ⟨by omega, by omega⟩
              have x1 : IntKind.i64.wrap (((D : Int) - 48) * 10) = ((D : Int) - 48) * 10 := IntWalk.i64_in _ ⟨by omega, by omega⟩
              have x2 : IntKind.i64.wrap (((D : Int) - 48) * 10 + ((E : Int) - 48)) = ((D : Int) - 48) * 10 + ((E : Int) - 48) := IntWalk.i64_in _ ⟨by omega, by omega⟩
              have x3 : IntKind.i64.wrap (((B : Int) - 48) * 10) = ((B : Int) - 48) * 10 := IntWalk.i64_in _ ⟨by omega, by omega⟩
              have x4 : IntKind.i64.wrap (((B : Int) - 48) * 10 + ((C : Int) - 48)) = ((B : Int) - 48) * 10 + ((C : Int) - 48) := IntWalk.i64_in _ ⟨by omega, by omega⟩
              have x5 : IntKind.i64.wrap ((((B : Int) - 48) * 10 + ((C : Int) - 48)) * 60) = (((B : Int) - 48) * 10 + ((C : Int) - 48)) * 60 := IntWalk.i64_in _ ⟨by omega, by omega⟩
              have x6 : IntKind.i64.wrap ((((B : Int) - 48) * 10 + ((C : Int) - 48)) * 60 + (((D : Int) - 48) * 10 + ((E : Int) - 48))) = (((B : Int) - 48) * 10 + ((C : Int) - 48)) * 60 + (((D : Int) - 48) * 10 + ((E : Int) - 48)) := IntWalk.i64_in _ ⟨by omega, by omega⟩
              have y1 : (0 : Int) < (s.size : Int) := by omega
              have y2 : (1 : Int) < (s.size : Int) := by omega
              have y3 : (2 : Int) < (s.size : Int) := by omega
              have y4 : (3 : Int) < (s.size : Int) := by omega
              have y5 : (4 : Int) < (s.size : Int) := by omega
              go_upto_region 8 with (fail)
              go_quiet (fail)
              go_upto_region 9 with (fail)
              go_quiet (fail)
              clear u1 u2 u3 u4 v1 v2 v3 v4 x1 x2 x3 x4 x5 x6 y1 y2 y3 y4 y5 hb hc hd he hB hC hD hE
              by_cases m1 : (59 : Int) < (((D : Int) - 48) * 10 + ((E : Int) - 48))
              · have hv : R1 = 0 ∧ R2 = 4 := by
                  have := HR3.out
                  rw [if_pos (by omega)] at this
                  injection this with p q; exact ⟨p.symm, q.symm⟩
                have HV := Lib.hid hv
                clear hv
                go_wp2
                go_ret2
                exact ⟨ret_ii HV.out.1.symm HV.out.2.symm, ⟨rfl, rfl, rfl, Nat.le_refl _, fun _ _ => rfl⟩⟩
              · have m1' : decide ((59 : Int) < (((D : Int) - 48) * 10 + ((E : Int) - 48))) = false := by simpa using m1
                by_cases m2 : (840 : Int) < ((((B : Int) - 48) * 10 + ((C : Int) - 48)) * 60 + (((D : Int) - 48) * 10 + ((E : Int) - 48)))
                · have hv : R1 = 0 ∧ R2 = 4 := by
                    have := HR3.out
                    rw [if_neg (by omega), if_pos (by omega)] at this
                    injection this with p q; exact ⟨p.symm, q.symm⟩
                  have HV := Lib.hid hv
                  clear hv
                  go_wp2
                  go_ret2
                  exact ⟨ret_ii HV.out.1.symm HV.out.2.symm, ⟨rfl, rfl, rfl, Nat.le_refl _, fun _ _ => rfl⟩⟩
                · have m2' : decide ((840 : Int) < ((((B : Int) - 48) * 10 + ((C : Int) - 48)) * 60 + (((D : Int) - 48) * 10 + ((E : Int) - 48)))) = false := by simpa using m2
                  have hR4 := HR3.out
                  rw [if_neg (by omega), if_neg (by omega)] at hR4
                  have HR4 := Lib.hid hR4
                  clear hR4 HR3
                  rcases HCL.out with ⟨_, p, q⟩ | ⟨_, _, p, q⟩
                  · first
                      | (exfalso; rw [p] at f3; cases f3)
                      | skip
                    all_goals
                      have hv : R1 = ((((B : Int) - 48) * 10 + ((C : Int) - 48)) * 60 + (((D : Int) - 48) * 10 + ((E : Int) - 48))) ∧ R2 = 0 := by
                        have := HR4.out
                        rw [if_neg (fun h => q h.1), HZV.out, if_neg q] at this
                        injection this with p q; exact ⟨by omega, q.symm⟩
                      have HV := Lib.hid hv
                      clear hv
                      go_wp2
                      go_ret2
                      exact ⟨ret_ii HV.out.1.symm HV.out.2.symm, ⟨rfl, rfl, rfl, Nat.le_refl _, fun _ _ => rfl⟩⟩
                  · first
                      | (exfalso; rw [p] at f2; cases f2)
                      | skip
                    all_goals
                      by_cases m3 : ((((B : Int) - 48) * 10 + ((C : Int) - 48)) * 60 + (((D : Int) - 48) * 10 + ((E : Int) - 48))) = 0
                      · have m3' : ((((((B : Int) - 48) * 10 + ((C : Int) - 48)) * 60 + (((D : Int) - 48) * 10 + ((E : Int) - 48)))) == 0) = true := beqI_t m3
                        have hv : R1 = 0 ∧ R2 = 4 := by
                          have := HR4.out
                          rw [if_pos ⟨q, by omega⟩] at this
                          injection this with p q; exact ⟨p.symm, q.symm⟩
                        have HV := Lib.hid hv
                        clear hv m3
                        go_wp2
                        go_ret2
                        exact ⟨ret_ii HV.out.1.symm HV.out.2.symm, ⟨rfl, rfl, rfl, Nat.le_refl _, fun _ _ => rfl⟩⟩
                      · have m3' : ((((((B : Int) - 48) * 10 + ((C : Int) - 48)) * 60 + (((D : Int) - 48) * 10 + ((E : Int) - 48)))) == 0) = false := beqI_f m3
                        have w1 : IntKind.i64.wrap (-((((B : Int) - 48) * 10 + ((C : Int) - 48)) * 60 + (((D : Int) - 48) * 10 + ((E : Int) - 48)))) = -((((B : Int) - 48) * 10 + ((C : Int) - 48)) * 60 + (((D : Int) - 48) * 10 + ((E : Int) - 48))) := IntWalk.i64_in _ ⟨by omega, by omega⟩
                        have hv : R1 = -((((B : Int) - 48) * 10 + ((C : Int) - 48)) * 60 + (((D : Int) - 48) * 10 + ((E : Int) - 48))) ∧ R2 = 0 := by
                          have := HR4.out
                          rw [if_neg (fun h => m3 (by have := h.2; omega)), HZV.out, if_pos q] at this
                          injection this with p q; exact ⟨by omega, q.symm⟩
                        have HV := Lib.hid hv
                        clear hv m3
                        go_wp2
                        go_ret2
                        exact ⟨ret_ii HV.out.1.symm HV.out.2.symm, ⟨rfl, rfl, rfl, Nat.le_refl _, fun _ _ => rfl⟩⟩

            · intro hx
              rw [List.any_eq_true] at hx
              obtain ⟨x, hx, hx2⟩ := hx
              have hxx : digB x = true := by
                simp only [List.mem_cons, List.not_mem_nil, or_false] at hx
                rcases hx with rfl | rfl | rfl | rfl <;> assumption
              unfold digB at hxx
              rw [hxx] at hx2; exact absurd hx2 (by simp)
  · have hv : R1 = 0 ∧ R2 = 4 := by
      rw [zoneR_len _ (by rw [← size_dl]; exact h5)] at hR
      injection hR with p q
      exact ⟨p.symm, q.symm⟩
    have HV := Lib.hid hv
    have e5 : ((s.size : Int) != 5) = true := by simp; omega
    clear hv hR h5
    go_enter Tryd.func41, Tryd.ntmps41
    go_wp2
    go_ret2
    exact ⟨ret_ii HV.out.1.symm HV.out.2.symm, Below.refl _ _⟩
end Go.Proofs.YtlhbbpagjkjplaaDoor
