/- Contracts and plain laws for the proofs of this seat: the reference reads a number, and a zone. Conditions: those written at each theorem. -/
import Derived.Test.YtlhbbpagjkjplaaDoorIdG
set_option linter.unusedVariables false
set_option linter.unusedSimpArgs false
namespace Go.Proofs.YtlhbbpagjkjplaaDoor
open Go.RowKit Go.Proofs

theorem valF_lt (l : By) : (∀ c ∈ l, digP c) → valF 0 l < 10 ^ l.length := by
  have key : ∀ (l : By) (acc n : Nat), acc < 10 ^ n → (∀ c ∈ l, digP c) → valF acc l < 10 ^ (n + l.length) := by
    intro l
    induction l with
    | nil => intro acc n h _; rw [valF_nil]; simpa using h
    | cons c r ih =>
      intro acc n h hd
      have hc := hd c (by simp)
      unfold digP at hc
      rw [valF_cons]
      have := ih (acc * 10 + (c.toNat - 48)) (n + 1) (by rw [Nat.pow_succ]; omega) (fun x hx => hd x (by simp [hx]))
      rw [show n + (c :: r).length = n + 1 + r.length by simp; omega]
      exact this
  intro h
  have := key l 0 0 (by simp) h
  simpa using this
theorem pow_le_18 (k : Nat) (h : k ≤ 18) : 10 ^ k ≤ 1000000000000000000 := by
  have := Nat.pow_le_pow_right (show 0 < 10 by decide) h
  simpa using this
theorem pow_le_19 (k : Nat) (h : k ≤ 19) : 10 ^ k ≤ 10000000000000000000 := by
  have := Nat.pow_le_pow_right (show 0 < 10 by decide) h
  simpa using this
theorem all_dig (l : By) : l.all (fun c => decide (48 ≤ c.toNat) && decide (c.toNat ≤ 57)) = true ↔ ∀ c ∈ l, digP c := by
  rw [List.all_eq_true]
  unfold digP
  constructor
  · intro h c hc; have := h c hc; simpa using this
  · intro h c hc; have := h c hc; simpa using this
theorem dig_eq (c : UInt8) : digB c = (decide (48 ≤ c.toNat) && decide (c.toNat ≤ 57)) := rfl
theorem magR_any (minus : Bool) (d : By) (h : d.all digB = false) : magR minus d = (0, 4) := by
  unfold magR
  by_cases h1 : d = [] ∨ 19 < d.length ∨ (d.head? = some 48 ∧ (1 < d.length ∨ minus = true))
  · rw [if_pos h1]
  · rw [if_neg h1, if_pos]
    rw [List.any_eq_true]
    rw [List.all_eq_false] at h
    obtain ⟨x, hx, hx2⟩ := h
    exact ⟨x, hx, by rw [← dig_eq]; simpa using hx2⟩
theorem magR_all (minus : Bool) (d : By) (h : d.all digB = true) (h0 : d ≠ []) (h1 : d.length ≤ 19) (h2 : ¬ (d.head? = some 48 ∧ (1 < d.length ∨ minus = true))) :
    magR minus d = if 9223372036854775808 < valF 0 d ∨ (minus = false ∧ valF 0 d = 9223372036854775808) then (0, 4) else (if minus then -(valF 0 d : Int) else valF 0 d, 0) := by
  unfold magR
  rw [if_neg, if_neg]
  · rw [Bool.not_eq_true, List.any_eq_false]
    rw [List.all_eq_true] at h
    intro x hx
    have := h x hx
    rw [dig_eq] at this
    simpa using this
  · intro hx
    rcases hx with hx | hx | hx
    · exact h0 hx
    · omega
    · exact h2 hx
theorem magR_early (minus : Bool) (d : By) (h1 : d = [] ∨ 19 < d.length ∨ (d.head? = some 48 ∧ (1 < d.length ∨ minus = true))) : magR minus d = (0, 4) := by
  unfold magR; rw [if_pos h1]
theorem valF_pos (c : UInt8) (r : By) (h : c.toNat ≠ 48) (hd : digP c) : 1 ≤ valF 0 (c :: r) := by
  unfold digP at hd
  rw [valF_cons]
  have := valF_le r (0 * 10 + (c.toNat - 48))
  omega
theorem all_digB_take_succ (s : ByteArray) (k : Nat) (h : k < s.size) : (s.data.toList.take (k + 1)).all digB = ((s.data.toList.take k).all digB && digB (s[k]'h)) := all_take_succ s k h digB
theorem valF_take_succ (s : ByteArray) (k : Nat) (h : k < s.size) : valF 0 (s.data.toList.take (k + 1)) = valF 0 (s.data.toList.take k) * 10 + ((s[k]'h).toNat - 48) := by
  rw [List.take_succ_eq_append_getElem (show k < s.data.toList.length from h), valF_snoc, get_dl]

/-- The greatest magnitude, behind a name. -/
def mag63 : Int := 9223372036854775808

set_option maxHeartbeats 4000000 in
set_option maxRecDepth 100000 in
theorem Tryd.rTakeNumber (s : ByteArray) (w : World) (hs : s.size ≤ 1000000000) :
    Calls Tryd.prog 88 #[.string s] w fun e w' => e = .returned (.tuple #[.int .i64 (takeN s.data.toList).1, .int .i64 (takeN s.data.toList).2]) ∧ w' = w := by
  rw [← takeR_eq]
  obtain ⟨R1, R2, hR⟩ : ∃ R1 R2, takeR s.data.toList = (R1, R2) := ⟨_, _, rfl⟩
  rw [hR]
  by_cases h0 : s.size = 0
  · have hn := is_nil s h0
    have h2 : s.toList = [] := hn.1
    have hv : R1 = 0 ∧ R2 = 3 := by
      rw [hn.2] at hR
      injection hR with a b
      exact ⟨a.symm, b.symm⟩
    have HV := Lib.hid hv
    clear hv hR h0 hn
    go_enter Tryd.func88, Tryd.ntmps88
    go_wp2
    go_ret2
    exact ⟨by rw [HV.out.1, HV.out.2]; rfl, rfl⟩
  · have h0' : 0 < s.size := by omega
    obtain ⟨g1, g2⟩ := ne_nil s h0'
    obtain ⟨c, hc⟩ : ∃ c : UInt8, s[0]'h0' = c := ⟨_, rfl⟩
    have hcons : s.data.toList = c :: s.data.toList.drop 1 := by
      have : s.data.toList = s.data.toList.drop 0 := rfl
      rw [this, List.drop_eq_getElem_cons (show 0 < s.data.toList.length from h0'), ← hc, get_dl]; rfl
    have hR2 : (if c = 45 then magR true (s.data.toList.drop 1) else magR false s.data.toList) = (R1, R2) := by
      rw [← hR, hcons]; rfl
    have HRR := Lib.hid hR2
    have hq : (1 : Int) ≤ (s.size : Int) := by omega
    clear hR2 hR hcons h0
    go_enter Tryd.func88, Tryd.ntmps88
    go_upto_if 14 with (fail)
    go_cut [4, 5] (fun m d wx => ∃ (mn : Bool) (dd : ByteArray), m = .bool mn ∧ d = .string dd ∧ dd.size ≤ 1000000000 ∧ Hid (magR mn dd.data.toList = (R1, R2)) ∧ wx = w)
    case first =>
      by_cases h45 : c.toNat = 45
      · have e1 : ((c.toNat : Int) == 45) = true := beqI_t (by omega)
        have hm : magR true (s.data.toList.drop 1) = (R1, R2) := by
          have := HRR.out
          rw [if_pos (UInt8.toNat_inj.1 h45)] at this
          exact this
        have HM := Lib.hid hm
        have hsz : (s.extract 1 s.size).size ≤ 1000000000 := by rw [ByteArray.size_extract]; omega
        have HSZ := Lib.hid hsz
        clear hm h45 hsz
        go_wp2
        go_meet
        exact ⟨true, s.extract 1 s.size, congrArg Value.bool e1, rfl, HSZ.out, Lib.hid (by rw [Lib.extract_data, List.take_of_length_le (by rw [List.length_drop, ← size_dl]; omega)]; exact HM.out), rfl⟩
      · have e1 : ((c.toNat : Int) == 45) = false := beqI_f (by omega)
        have hm : magR false s.data.toList = (R1, R2) := by
          have := HRR.out
          rw [if_neg (fun h => h45 (by rw [h]; rfl))] at this
          exact this
        have HM := Lib.hid hm
        clear hm h45
        go_wp2
        go_meet
        exact ⟨false, s, congrArg Value.bool e1, rfl, hs, Lib.hid HM.out, rfl⟩
    case rest =>
      obtain ⟨mn, dd, rfl, rfl, hdd, HM, rfl⟩ := hcut
      clear HRR hq hc g1 g2
      have hbad : (dd.data.toList = [] ∨ 19 < dd.data.toList.length ∨ (dd.data.toList.head? = some 48 ∧ (1 < dd.data.toList.length ∨ mn = true))) → R1 = 0 ∧ R2 = 4 := by
        intro h
        have := HM.out
        rw [magR_early _ _ h] at this
        injection this with a b
        exact ⟨a.symm, b.symm⟩
      have HBAD := Lib.hid hbad
      clear hbad
      by_cases h0 : dd.size = 0
      · have hn := is_nil dd h0
        have h2 : dd.toList = [] := hn.1
        have HV := Lib.hid (HBAD.out (.inl hn.2))
        clear h0 hn
        go_wp2
        go_ret2
        exact ⟨by rw [HV.out.1, HV.out.2]; rfl, rfl⟩
      · have hd0 : 0 < dd.size := by omega
        obtain ⟨g1, g2⟩ := ne_nil dd hd0
        have hdne : dd.data.toList ≠ [] := by rw [← toList_dl]; exact g1
        have HDNE := Lib.hid hdne
        clear h0 hdne
        by_cases h19 : 19 < dd.size
        · have e1 : (19 : Int) < (dd.size : Int) := by omega
          have HV := Lib.hid (HBAD.out (.inr (.inl h19)))
          clear h19
          go_wp2
          go_ret2
          exact ⟨by rw [HV.out.1, HV.out.2]; rfl, rfl⟩
        · have e1 : ¬ (19 : Int) < (dd.size : Int) := by omega
          have hle : dd.size ≤ 19 := by omega
          clear h19
          obtain ⟨x0, hx0⟩ : ∃ x0 : UInt8, dd[0]'hd0 = x0 := ⟨_, rfl⟩
          have hh := head_get dd hd0
          rw [hx0] at hh
          have hgo : ∀ (hnz : ¬ (dd.data.toList.head? = some 48 ∧ (1 < dd.data.toList.length ∨ mn = true))) , True := fun _ => trivial
          clear hgo
          by_cases h48 : x0.toNat = 48 ∧ (1 < dd.size ∨ mn = true)
          · have HV := Lib.hid (HBAD.out (.inr (.inr ⟨by rw [hh, UInt8.toNat_inj.1 (show x0.toNat = (48 : UInt8).toNat from h48.1)], h48.2⟩)))
            obtain ⟨h48a, h48b⟩ := h48
            have e2 : ((x0.toNat : Int) == 48) = true := beqI_t (by omega)
            clear hh h48a
            by_cases h1 : 1 < dd.size
            · have e3 : (1 : Int) < (dd.size : Int) := by omega
              clear h48b h1
              go_wp2
              go_ret2
              exact ⟨by rw [HV.out.1, HV.out.2]; rfl, rfl⟩
            · have e3 : decide ((1 : Int) < (dd.size : Int)) = false := by simp; omega
              have hmn : mn = true := by rcases h48b with h | h; exact absurd h h1; exact h
              subst hmn
              clear h48b h1
              go_wp2
              go_ret2
              exact ⟨by rw [HV.out.1, HV.out.2]; rfl, rfl⟩
          · have hnz : ¬ (dd.data.toList.head? = some 48 ∧ (1 < dd.data.toList.length ∨ mn = true)) := by
              intro ⟨a, b⟩
              rw [hh] at a
              injection a with a
              exact h48 ⟨by rw [a]; rfl, b⟩
            have hx0p : mn = true → x0.toNat ≠ 48 := fun h1 h2 => h48 ⟨h2, .inr h1⟩
            have hpos : mn = true → digP x0 → 1 ≤ valF 0 dd.data.toList := by
              intro h1 h2
              have hcons : dd.data.toList = x0 :: dd.data.toList.drop 1 := by
                have : dd.data.toList = dd.data.toList.drop 0 := rfl
                rw [this, List.drop_eq_getElem_cons (show 0 < dd.data.toList.length from hd0), ← hx0, get_dl]; rfl
              rw [hcons]
              exact valF_pos _ _ (hx0p h1) h2
            have HPOS := Lib.hid hpos
            have HALL := Lib.hid (fun h => magR_all mn dd.data.toList h HDNE.out hle hnz)
            have hcase : (((x0.toNat : Int) == 48) = true ∧ decide ((1 : Int) < (dd.size : Int)) = false ∧ mn = false) ∨ ((x0.toNat : Int) == 48) = false := by
              by_cases h1 : x0.toNat = 48
              · left
                refine ⟨beqI_t (by omega), ?_, ?_⟩
                · have : ¬ 1 < dd.size := fun h => h48 ⟨h1, .inl h⟩
                  simp; omega
                · cases mn
                  · rfl
                  · exact absurd ⟨h1, .inr rfl⟩ h48
              · right; exact beqI_f (by omega)
            clear h48 hnz hx0p hpos hh
            have HX0 := Lib.hid hx0
            rcases hcase with ⟨e2, e3, rfl⟩ | e2
            · go_wp2
              go_loop [6, 7] (fun v i => ∃ k V : Nat, k ≤ dd.size ∧ i = .int .i64 (k : Int) ∧ v = .int .u64 (V : Int) ∧ V ≤ 9999999999999999999 ∧ Hid (V = valF 0 (dd.data.toList.take k)) ∧ Hid ((dd.data.toList.take k).all digB = true)) (fun _ i => dd.size - (intOf i).toNat)
              case atStart => exact ⟨0, 0, by omega, rfl, rfl, by omega, by rw [List.take_zero, valF_nil]; exact Lib.hid rfl, rfl⟩
              case round =>
                obtain ⟨k, V, hk, rfl, rfl, hV, HVV, HD⟩ := hrel
                by_cases hlt : k < dd.size
                · obtain ⟨x, hx⟩ : ∃ x : UInt8, dd[k]'hlt = x := ⟨_, rfl⟩
                  have hsn := all_digB_take_succ dd k hlt
                  have hvn := valF_take_succ dd k hlt
                  rw [hx] at hsn hvn
                  have HS := Lib.hid hsn
                  have HVN := Lib.hid hvn
                  have hx2 : x.toNat < 256 := x.toNat_lt
                  clear hsn hvn
                  by_cases hdg : 48 ≤ x.toNat ∧ x.toNat ≤ 57
                  · have hdB : digB x = true := by unfold digB; simp; omega
                    have HDB := Lib.hid hdB
                    have hVk : V ≤ 999999999999999999 := by
                      have h1 := valF_lt (dd.data.toList.take k) ((all_dig _).1 (by simpa only [← dig_eq] using HD.out))
                      rw [← HVV.out, List.length_take] at h1
                      have h2 := pow_le_18 (min k dd.data.toList.length) (by omega)
                      omega
                    have q1 : ¬ (x.toNat : Int) < 48 := by omega
                    have q2 : ¬ (57 : Int) < (x.toNat : Int) := by omega
                    have w1 : IntKind.u64.wrap (10 * (V : Int)) = 10 * (V : Int) := IntWalk.u64_in _ ⟨by omega, by omega⟩
                    have w2 : IntKind.u8.wrap ((x.toNat : Int) - 48) = (x.toNat : Int) - 48 := IntWalk.u8_in _ ⟨by omega, by omega⟩
                    have w3 : IntKind.u64.wrap ((x.toNat : Int) - 48) = (x.toNat : Int) - 48 := IntWalk.u64_in _ ⟨by omega, by omega⟩
                    have w4 : IntKind.u64.wrap (10 * (V : Int) + ((x.toNat : Int) - 48)) = 10 * (V : Int) + ((x.toNat : Int) - 48) := IntWalk.u64_in _ ⟨by omega, by omega⟩
                    clear hdB
                    go_wp2
                    go_round
                    case rel =>
                      clear w1 w2 w3 w4
                      refine ⟨k + 1, V * 10 + (x.toNat - 48), by omega, by go_num, ?_, by omega, by rw [HVN.out, ← HVV.out]; exact Lib.hid rfl, by rw [HS.out, HD.out, HDB.out]; rfl⟩
                      exact congrArg _ (by omega)
                    case measure => simp [intOf]; omega
                  · have hdB : digB x = false := by unfold digB; rw [Bool.eq_false_iff]; simpa using hdg
                    have hall : dd.data.toList.all digB = false := by
                      refine all_of_take_false _ (k + 1) _ ?_
                      rw [HS.out, hdB]; simp
                    have hv := HM.out
                    rw [magR_any _ _ hall] at hv
                    have hv2 : R1 = 0 ∧ R2 = 4 := by injection hv with a b; exact ⟨a.symm, b.symm⟩
                    have HV2 := Lib.hid hv2
                    have hor : (x.toNat : Int) < 48 ∨ (57 : Int) < (x.toNat : Int) := by omega
                    clear hdB hall hv hv2 hdg
                    rcases hor with q1 | q1
                    · go_wp2
                      go_ret2
                      exact ⟨by rw [HV2.out.1, HV2.out.2]; rfl, rfl⟩
                    · have q0 : ¬ (x.toNat : Int) < 48 := by omega
                      go_wp2
                      go_ret2
                      exact ⟨by rw [HV2.out.1, HV2.out.2]; rfl, rfl⟩
                · have hk : k = dd.size := by omega
                  subst hk
                  have hall : dd.data.toList.all digB = true := by
                    have := HD.out
                    rw [size_dl, List.take_length] at this
                    exact this
                  have hVV : V = valF 0 dd.data.toList := by
                    have := HVV.out
                    rw [size_dl, List.take_length] at this
                    exact this
                  have hv := HM.out
                  rw [HALL.out hall, ← hVV] at hv
                  have HV := Lib.hid hv
                  have hd0x : digP x0 := by
                    rw [List.all_eq_true] at hall
                    have := hall x0 (by rw [← HX0.out, get_dl]; exact List.getElem_mem _)
                    unfold digB at this
                    unfold digP
                    simpa using this
                  have HP := Lib.hid (fun h => HPOS.out h hd0x)
                  rw [← hVV] at HP
                  clear hall hVV hv hd0x HALL HVV HD HM
                  have HVF := Lib.hid (show (if 9223372036854775808 < V ∨ (V = 9223372036854775808) then ((0 : Int), (4 : Int)) else ((V : Int), 0)) = (R1, R2) by have := HV.out; simpa using this)
                  by_cases hbig : 9223372036854775808 < V
                  · have q1 : (9223372036854775808 : Int) < (V : Int) := by omega
                    have hv2 : R1 = 0 ∧ R2 = 4 := by have := HVF.out; rw [if_pos (.inl hbig)] at this; injection this with a b; exact ⟨a.symm, b.symm⟩
                    have HV2 := Lib.hid hv2
                    clear hv2 hbig
                    go_wp2
                    go_ret2
                    exact ⟨by rw [HV2.out.1, HV2.out.2]; rfl, rfl⟩
                  · have q1 : ¬ (9223372036854775808 : Int) < (V : Int) := by omega
                    by_cases heq : V = 9223372036854775808
                    · have q2 : ((V : Int) == 9223372036854775808) = true := beqI_t (by omega)
                      have q1' : decide ((9223372036854775808 : Int) < (V : Int)) = false := by simp; omega
                      have hv2 : R1 = 0 ∧ R2 = 4 := by have := HVF.out; rw [if_pos (.inr heq)] at this; injection this with a b; exact ⟨a.symm, b.symm⟩
                      have HV2 := Lib.hid hv2
                      clear hv2 hbig heq
                      go_wp2
                      go_ret2
                      exact ⟨by rw [HV2.out.1, HV2.out.2]; rfl, rfl⟩
                    · have q2 : ((V : Int) == 9223372036854775808) = false := beqI_f (by omega)
                      have q1' : decide ((9223372036854775808 : Int) < (V : Int)) = false := by simp; omega
                      have w1 : IntKind.i64.wrap (V : Int) = (V : Int) := IntWalk.i64_in _ ⟨by omega, by omega⟩
                      have hv2 : R1 = (V : Int) ∧ R2 = 0 := by have := HVF.out; rw [if_neg (by omega)] at this; injection this with a b; exact ⟨a.symm, b.symm⟩
                      have HV2 := Lib.hid hv2
                      clear hv2 hbig heq
                      go_wp2
                      go_ret2
                      exact ⟨by rw [HV2.out.1, HV2.out.2]; rfl, rfl⟩

            · cases mn with
              | false =>
                go_wp2
                go_loop [6, 7] (fun v i => ∃ k V : Nat, k ≤ dd.size ∧ i = .int .i64 (k : Int) ∧ v = .int .u64 (V : Int) ∧ V ≤ 9999999999999999999 ∧ Hid (V = valF 0 (dd.data.toList.take k)) ∧ Hid ((dd.data.toList.take k).all digB = true)) (fun _ i => dd.size - (intOf i).toNat)
                case atStart => exact ⟨0, 0, by omega, rfl, rfl, by omega, by rw [List.take_zero, valF_nil]; exact Lib.hid rfl, rfl⟩
                case round =>
                  obtain ⟨k, V, hk, rfl, rfl, hV, HVV, HD⟩ := hrel
                  by_cases hlt : k < dd.size
                  · obtain ⟨x, hx⟩ : ∃ x : UInt8, dd[k]'hlt = x := ⟨_, rfl⟩
                    have hsn := all_digB_take_succ dd k hlt
                    have hvn := valF_take_succ dd k hlt
                    rw [hx] at hsn hvn
                    have HS := Lib.hid hsn
                    have HVN := Lib.hid hvn
                    have hx2 : x.toNat < 256 := x.toNat_lt
                    clear hsn hvn
                    by_cases hdg : 48 ≤ x.toNat ∧ x.toNat ≤ 57
                    · have hdB : digB x = true := by unfold digB; simp; omega
                      have HDB := Lib.hid hdB
                      have hVk : V ≤ 999999999999999999 := by
                        have h1 := valF_lt (dd.data.toList.take k) ((all_dig _).1 (by simpa only [← dig_eq] using HD.out))
                        rw [← HVV.out, List.length_take] at h1
                        have h2 := pow_le_18 (min k dd.data.toList.length) (by omega)
                        omega
                      have q1 : ¬ (x.toNat : Int) < 48 := by omega
                      have q2 : ¬ (57 : Int) < (x.toNat : Int) := by omega
                      have w1 : IntKind.u64.wrap (10 * (V : Int)) = 10 * (V : Int) := IntWalk.u64_in _ ⟨by omega, by omega⟩
                      have w2 : IntKind.u8.wrap ((x.toNat : Int) - 48) = (x.toNat : Int) - 48 := IntWalk.u8_in _ ⟨by omega, by omega⟩
                      have w3 : IntKind.u64.wrap ((x.toNat : Int) - 48) = (x.toNat : Int) - 48 := IntWalk.u64_in _ ⟨by omega, by omega⟩
                      have w4 : IntKind.u64.wrap (10 * (V : Int) + ((x.toNat : Int) - 48)) = 10 * (V : Int) + ((x.toNat : Int) - 48) := IntWalk.u64_in _ ⟨by omega, by omega⟩
                      clear hdB
                      go_wp2
                      go_round
                      case rel =>
                        clear w1 w2 w3 w4
                        refine ⟨k + 1, V * 10 + (x.toNat - 48), by omega, by go_num, ?_, by omega, by rw [HVN.out, ← HVV.out]; exact Lib.hid rfl, by rw [HS.out, HD.out, HDB.out]; rfl⟩
                        exact congrArg _ (by omega)
                      case measure => simp [intOf]; omega
                    · have hdB : digB x = false := by unfold digB; rw [Bool.eq_false_iff]; simpa using hdg
                      have hall : dd.data.toList.all digB = false := by
                        refine all_of_take_false _ (k + 1) _ ?_
                        rw [HS.out, hdB]; simp
                      have hv := HM.out
                      rw [magR_any _ _ hall] at hv
                      have hv2 : R1 = 0 ∧ R2 = 4 := by injection hv with a b; exact ⟨a.symm, b.symm⟩
                      have HV2 := Lib.hid hv2
                      have hor : (x.toNat : Int) < 48 ∨ (57 : Int) < (x.toNat : Int) := by omega
                      clear hdB hall hv hv2 hdg
                      rcases hor with q1 | q1
                      · go_wp2
                        go_ret2
                        exact ⟨by rw [HV2.out.1, HV2.out.2]; rfl, rfl⟩
                      · have q0 : ¬ (x.toNat : Int) < 48 := by omega
                        go_wp2
                        go_ret2
                        exact ⟨by rw [HV2.out.1, HV2.out.2]; rfl, rfl⟩
                  · have hk : k = dd.size := by omega
                    subst hk
                    have hall : dd.data.toList.all digB = true := by
                      have := HD.out
                      rw [size_dl, List.take_length] at this
                      exact this
                    have hVV : V = valF 0 dd.data.toList := by
                      have := HVV.out
                      rw [size_dl, List.take_length] at this
                      exact this
                    have hv := HM.out
                    rw [HALL.out hall, ← hVV] at hv
                    have HV := Lib.hid hv
                    have hd0x : digP x0 := by
                      rw [List.all_eq_true] at hall
                      have := hall x0 (by rw [← HX0.out, get_dl]; exact List.getElem_mem _)
                      unfold digB at this
                      unfold digP
                      simpa using this
                    have HP := Lib.hid (fun h => HPOS.out h hd0x)
                    rw [← hVV] at HP
                    clear hall hVV hv hd0x HALL HVV HD HM
                    have HVF := Lib.hid (show (if 9223372036854775808 < V ∨ (V = 9223372036854775808) then ((0 : Int), (4 : Int)) else ((V : Int), 0)) = (R1, R2) by have := HV.out; simpa using this)
                    by_cases hbig : 9223372036854775808 < V
                    · have q1 : (9223372036854775808 : Int) < (V : Int) := by omega
                      have hv2 : R1 = 0 ∧ R2 = 4 := by have := HVF.out; rw [if_pos (.inl hbig)] at this; injection this with a b; exact ⟨a.symm, b.symm⟩
                      have HV2 := Lib.hid hv2
                      clear hv2 hbig
                      go_wp2
                      go_ret2
                      exact ⟨by rw [HV2.out.1, HV2.out.2]; rfl, rfl⟩
                    · have q1 : ¬ (9223372036854775808 : Int) < (V : Int) := by omega
                      by_cases heq : V = 9223372036854775808
                      · have q2 : ((V : Int) == 9223372036854775808) = true := beqI_t (by omega)
                        have q1' : decide ((9223372036854775808 : Int) < (V : Int)) = false := by simp; omega
                        have hv2 : R1 = 0 ∧ R2 = 4 := by have := HVF.out; rw [if_pos (.inr heq)] at this; injection this with a b; exact ⟨a.symm, b.symm⟩
                        have HV2 := Lib.hid hv2
                        clear hv2 hbig heq
                        go_wp2
                        go_ret2
                        exact ⟨by rw [HV2.out.1, HV2.out.2]; rfl, rfl⟩
                      · have q2 : ((V : Int) == 9223372036854775808) = false := beqI_f (by omega)
                        have q1' : decide ((9223372036854775808 : Int) < (V : Int)) = false := by simp; omega
                        have w1 : IntKind.i64.wrap (V : Int) = (V : Int) := IntWalk.i64_in _ ⟨by omega, by omega⟩
                        have hv2 : R1 = (V : Int) ∧ R2 = 0 := by have := HVF.out; rw [if_neg (by omega)] at this; injection this with a b; exact ⟨a.symm, b.symm⟩
                        have HV2 := Lib.hid hv2
                        clear hv2 hbig heq
                        go_wp2
                        go_ret2
                        exact ⟨by rw [HV2.out.1, HV2.out.2]; rfl, rfl⟩

              | true =>
                go_wp2
                go_loop [6, 7] (fun v i => ∃ k V : Nat, k ≤ dd.size ∧ i = .int .i64 (k : Int) ∧ v = .int .u64 (V : Int) ∧ V ≤ 9999999999999999999 ∧ Hid (V = valF 0 (dd.data.toList.take k)) ∧ Hid ((dd.data.toList.take k).all digB = true)) (fun _ i => dd.size - (intOf i).toNat)
                case atStart => exact ⟨0, 0, by omega, rfl, rfl, by omega, by rw [List.take_zero, valF_nil]; exact Lib.hid rfl, rfl⟩
                case round =>
                  obtain ⟨k, V, hk, rfl, rfl, hV, HVV, HD⟩ := hrel
                  by_cases hlt : k < dd.size
                  · obtain ⟨x, hx⟩ : ∃ x : UInt8, dd[k]'hlt = x := ⟨_, rfl⟩
                    have hsn := all_digB_take_succ dd k hlt
                    have hvn := valF_take_succ dd k hlt
                    rw [hx] at hsn hvn
                    have HS := Lib.hid hsn
                    have HVN := Lib.hid hvn
                    have hx2 : x.toNat < 256 := x.toNat_lt
                    clear hsn hvn
                    by_cases hdg : 48 ≤ x.toNat ∧ x.toNat ≤ 57
                    · have hdB : digB x = true := by unfold digB; simp; omega
                      have HDB := Lib.hid hdB
                      have hVk : V ≤ 999999999999999999 := by
                        have h1 := valF_lt (dd.data.toList.take k) ((all_dig _).1 (by simpa only [← dig_eq] using HD.out))
                        rw [← HVV.out, List.length_take] at h1
                        have h2 := pow_le_18 (min k dd.data.toList.length) (by omega)
                        omega
                      have q1 : ¬ (x.toNat : Int) < 48 := by omega
                      have q2 : ¬ (57 : Int) < (x.toNat : Int) := by omega
                      have w1 : IntKind.u64.wrap (10 * (V : Int)) = 10 * (V : Int) := IntWalk.u64_in _ ⟨by omega, by omega⟩
                      have w2 : IntKind.u8.wrap ((x.toNat : Int) - 48) = (x.toNat : Int) - 48 := IntWalk.u8_in _ ⟨by omega, by omega⟩
                      have w3 : IntKind.u64.wrap ((x.toNat : Int) - 48) = (x.toNat : Int) - 48 := IntWalk.u64_in _ ⟨by omega, by omega⟩
                      have w4 : IntKind.u64.wrap (10 * (V : Int) + ((x.toNat : Int) - 48)) = 10 * (V : Int) + ((x.toNat : Int) - 48) := IntWalk.u64_in _ ⟨by omega, by omega⟩
                      clear hdB
                      go_wp2
                      go_round
                      case rel =>
                        clear w1 w2 w3 w4
                        refine ⟨k + 1, V * 10 + (x.toNat - 48), by omega, by go_num, ?_, by omega, by rw [HVN.out, ← HVV.out]; exact Lib.hid rfl, by rw [HS.out, HD.out, HDB.out]; rfl⟩
                        exact congrArg _ (by omega)
                      case measure => simp [intOf]; omega
                    · have hdB : digB x = false := by unfold digB; rw [Bool.eq_false_iff]; simpa using hdg
                      have hall : dd.data.toList.all digB = false := by
                        refine all_of_take_false _ (k + 1) _ ?_
                        rw [HS.out, hdB]; simp
                      have hv := HM.out
                      rw [magR_any _ _ hall] at hv
                      have hv2 : R1 = 0 ∧ R2 = 4 := by injection hv with a b; exact ⟨a.symm, b.symm⟩
                      have HV2 := Lib.hid hv2
                      have hor : (x.toNat : Int) < 48 ∨ (57 : Int) < (x.toNat : Int) := by omega
                      clear hdB hall hv hv2 hdg
                      rcases hor with q1 | q1
                      · go_wp2
                        go_ret2
                        exact ⟨by rw [HV2.out.1, HV2.out.2]; rfl, rfl⟩
                      · have q0 : ¬ (x.toNat : Int) < 48 := by omega
                        go_wp2
                        go_ret2
                        exact ⟨by rw [HV2.out.1, HV2.out.2]; rfl, rfl⟩
                  · have hk : k = dd.size := by omega
                    subst hk
                    have hall : dd.data.toList.all digB = true := by
                      have := HD.out
                      rw [size_dl, List.take_length] at this
                      exact this
                    have hVV : V = valF 0 dd.data.toList := by
                      have := HVV.out
                      rw [size_dl, List.take_length] at this
                      exact this
                    have hv := HM.out
                    rw [HALL.out hall, ← hVV] at hv
                    have HV := Lib.hid hv
                    have hd0x : digP x0 := by
                      rw [List.all_eq_true] at hall
                      have := hall x0 (by rw [← HX0.out, get_dl]; exact List.getElem_mem _)
                      unfold digB at this
                      unfold digP
                      simpa using this
                    have HP := Lib.hid (fun h => HPOS.out h hd0x)
                    rw [← hVV] at HP
                    clear hall hVV hv hd0x HALL HVV HD HM
                    have HVF := Lib.hid (show (if 9223372036854775808 < V then ((0 : Int), (4 : Int)) else (-(V : Int), 0)) = (R1, R2) by have := HV.out; simpa using this)
                    have hp := HP.out (by simp)
                    by_cases hbig : 9223372036854775808 < V
                    · have q1 : (9223372036854775808 : Int) < (V : Int) := by omega
                      have hv2 : R1 = 0 ∧ R2 = 4 := by have := HVF.out; rw [if_pos hbig] at this; injection this with a b; exact ⟨a.symm, b.symm⟩
                      have HV2 := Lib.hid hv2
                      clear hv2 hbig
                      go_wp2
                      go_ret2
                      exact ⟨by rw [HV2.out.1, HV2.out.2]; rfl, rfl⟩
                    · have q1' : decide ((9223372036854775808 : Int) < (V : Int)) = false := by simp; omega
                      have w1 : IntKind.u64.wrap ((V : Int) - 1) = (V : Int) - 1 := IntWalk.u64_in _ ⟨by omega, by omega⟩
                      have w2 : IntKind.i64.wrap ((V : Int) - 1) = (V : Int) - 1 := IntWalk.i64_in _ ⟨by omega, by omega⟩
                      have w3 : IntKind.i64.wrap (-((V : Int) - 1)) = -((V : Int) - 1) := IntWalk.i64_in _ ⟨by omega, by omega⟩
                      have w4 : IntKind.i64.wrap (-((V : Int) - 1) - 1) = -(V : Int) := by rw [IntWalk.i64_in _ ⟨by omega, by omega⟩]; omega
                      have hv2 : R1 = -(V : Int) ∧ R2 = 0 := by have := HVF.out; rw [if_neg hbig] at this; injection this with a b; exact ⟨a.symm, b.symm⟩
                      have HV2 := Lib.hid hv2
                      clear hv2 hbig
                      go_wp2
                      go_ret2
                      exact ⟨by rw [HV2.out.1, HV2.out.2]; rfl, rfl⟩

end Go.Proofs.YtlhbbpagjkjplaaDoor
