/- Contracts and plain laws for the proofs of this seat: reading a zone, and an ident. Conditions: those written at each theorem. -/
import Derived.Test.YtlhbbpagjkjplaaDoorIdC
set_option linter.unusedVariables false
set_option linter.unusedSimpArgs false
namespace Go.Proofs.YtlhbbpagjkjplaaDoor
open Go.RowKit Go.Proofs

def zpF (l : By) : Nat → Nat
  | 0 => 0
  | k + 1 => zpF l k * (if k = 2 then 6 else 10) + ((l.getD k 0).toNat - 48)
theorem zpF_bd (l : By) (k : Nat) (hk : k ≤ 4) (h : ∀ i, i < k → (l.getD i 0).toNat ≤ 57) : zpF l k ≤ 9999 := by
  match k, hk with
  | 0, _ => exact Nat.zero_le _
  | 1, _ =>
    have := h 0 (by omega)
    simp only [zpF]; rw [if_neg (by decide)]; omega
  | 2, _ =>
    have h0 := h 0 (by omega)
    have h1 := h 1 (by omega)
    simp only [zpF]; rw [if_neg (by decide), if_neg (by decide)]; omega
  | 3, _ =>
    have h0 := h 0 (by omega)
    have h1 := h 1 (by omega)
    have h2 := h 2 (by omega)
    simp only [zpF]; rw [if_neg (by decide), if_neg (by decide), if_pos trivial]; omega
  | 4, _ =>
    have h0 := h 0 (by omega)
    have h1 := h 1 (by omega)
    have h2 := h 2 (by omega)
    have h3 := h 3 (by omega)
    simp only [zpF]; rw [if_neg (by decide), if_neg (by decide), if_pos trivial, if_neg (by decide)]; omega
theorem zpF_4 (b c d e : UInt8) : zpF [b, c, d, e] 4 = ((b.toNat - 48) * 10 + (c.toNat - 48)) * 60 + ((d.toNat - 48) * 10 + (e.toNat - 48)) := by
  simp only [zpF]; rw [if_neg (by decide), if_neg (by decide), if_pos trivial, if_neg (by decide)]
  simp only [List.getD_cons_zero, List.getD_cons_succ]
  omega
def digB (c : UInt8) : Bool := decide (48 ≤ c.toNat) && decide (c.toNat ≤ 57)
theorem takeZ_len (l : By) (h : l.length ≠ 5) : takeZ l = (0, 4) := by
  unfold takeZ
  split
  · exact absurd rfl h
  · rfl
theorem list5 (l : By) (h : l.length = 5) : ∃ a b c d e, l = [a, b, c, d, e] := by
  match l, h with
  | [a, b, c, d, e], _ => exact ⟨a, b, c, d, e, rfl⟩
theorem takeZ5 (a b c d e : UInt8) : takeZ [a, b, c, d, e] = if ([b, c, d, e].all digB) && zonedB (zoneV a b c d e) && (zoneL (zoneV a b c d e) == [a, b, c, d, e]) then (zoneV a b c d e, 0) else (0, 4) := rfl
theorem getD_of_get (s : ByteArray) (l : By) (k : Nat) (hk : k < s.size) (h : s.data.toList = l) : s[k]'hk = l.getD k 0 := by
  subst h
  rw [get_dl]
  simp [List.getD, List.getElem?_eq_getElem (show k < s.data.toList.length from hk)]

set_option maxHeartbeats 4000000 in
set_option maxRecDepth 100000 in
theorem Tryd.iZone (s : ByteArray) (w : World) (hs : s.size ≤ 1000000000) :
    Calls Tryd.prog 40 #[.string s] w fun e w' => e = .returned (.tuple #[.int .i64 (takeZ s.data.toList).1, .int .i64 (takeZ s.data.toList).2]) ∧ Below w.heap.size w w' := by
  obtain ⟨R1, R2, hR⟩ : ∃ R1 R2, takeZ s.data.toList = (R1, R2) := ⟨_, _, rfl⟩
  rw [hR]
  by_cases h5 : s.size = 5
  · obtain ⟨a, b, c, d, e, hl⟩ := list5 s.data.toList (by rw [← size_dl]; exact h5)
    rw [hl, takeZ5] at hR
    obtain ⟨t, ht⟩ : ∃ t, s.extract 1 s.size = t := ⟨_, rfl⟩
    have htl : t.data.toList = [b, c, d, e] := by rw [← ht, Lib.extract_data, hl, h5]; rfl
    have hts : t.size = 4 := by rw [size_dl, htl]; rfl
    have hts1 : t.size ≤ 4 := by omega
    have hts2 : 4 ≤ t.size := by omega
    have e5 : ((s.size : Int) != 5) = false := by simp [h5]
    have q1 : (1 : Int) ≤ (s.size : Int) := by omega
    have q2 : 0 < s.size := by omega
    have ha : s[0]'q2 = a := by rw [get_dl]; simp [hl]
    have HL := Lib.hid hl
    have HRR := Lib.hid hR
    have HTL := Lib.hid htl
    have HA := Lib.hid ha
    clear hl hR htl hts h5
    go_enter Tryd.func40, Tryd.ntmps40
    go_wp2
    have HT := Lib.hid ht
    clear ht
    go_loopw [4] (fun z wr => ∃ (pos Z : Nat), pos ≤ 4 ∧ z = .int .i64 (Z : Int) ∧ Z ≤ 9999 ∧ wr.heap[w.heap.size]? = some (.stringIter t pos) ∧ Below w.heap.size w wr ∧ Hid (Z = zpF [b, c, d, e] pos) ∧ Hid (∀ i, i < pos → digB (([b, c, d, e] : By).getD i 0) = true)) (fun _ wr => 4 - wr.iterPos w.heap.size)
    case atStart =>
      refine ⟨0, 0, by omega, rfl, by omega, ?_, (Below.refl _ w).alloc (Nat.le_refl _) _, rfl, fun i hi => by omega⟩
      have := World.iter_heap w t 0
      simpa using this
    case round =>
      obtain ⟨pos, Z, hpos, rfl, hZ, hit, hbw, HZ, HD⟩ := hrel
      by_cases hp : pos < t.size
      · have hitn := fun p => Lib.iterAt_heap wr w.heap.size t pos p hit
        have hbn := fun p => Lib.below_iterAt hbw (k := w.heap.size) (by omega) t p
        obtain ⟨x, hx⟩ : ∃ x : UInt8, t[pos]'hp = x := ⟨_, rfl⟩
        have hxd : ([b, c, d, e] : By).getD pos 0 = x := by rw [← hx]; exact (getD_of_get t _ pos hp HTL.out).symm
        have HXD := Lib.hid hxd
        clear hxd
        have hfail : digB x = false → R1 = 0 ∧ R2 = 4 := by
          intro hf
          have := HRR.out
          have hall : ([b, c, d, e].all digB) = false := by
            rw [Bool.eq_false_iff]; intro h
            rw [List.all_eq_true] at h
            have hm : x ∈ [b, c, d, e] := by
              rw [← HXD.out]
              match pos, hpos, hp with
              | 0, _, _ => simp
              | 1, _, _ => simp
              | 2, _, _ => simp
              | 3, _, _ => simp
              | 4, _, h4 => omega
            rw [h x hm] at hf; cases hf
          rw [hall] at this
          simp only [Bool.false_and, Bool.false_eq_true, if_false] at this
          injection this with p q
          exact ⟨p.symm, q.symm⟩
        have HFAIL := Lib.hid hfail
        clear hfail
        by_cases hdg : 48 ≤ x.toNat ∧ x.toNat ≤ 57
        · have hnx : ∀ ty, (Instr.next (.pointer (some ⟨w.heap.size, 0, none⟩)) true ty).run Tryd.prog wr = _ := fun ty => (Lib.run_next_any_at wr w.heap.size t pos ty hit hp).trans (by rw [dec_ascii t pos hp x hx (by omega)])
          have g1 : ¬ (x.toNat : Int) < 48 := by omega
          have g2 : ¬ (57 : Int) < (x.toNat : Int) := by omega
          have hDn : ∀ i, i < pos + 1 → digB (([b, c, d, e] : By).getD i 0) = true := by
            intro i hi
            by_cases hip : i < pos
            · exact HD.out i hip
            · obtain rfl : i = pos := by omega
              rw [HXD.out]; unfold digB; simp; omega
          have HDN := Lib.hid hDn
          have hZn : zpF [b, c, d, e] (pos + 1) ≤ 9999 := zpF_bd _ _ (by omega) (fun i hi => by
            have := hDn i hi
            unfold digB at this
            simp only [Bool.and_eq_true, decide_eq_true_eq] at this
            exact this.2)
          have hst : zpF [b, c, d, e] (pos + 1) = Z * (if pos = 2 then 6 else 10) + (x.toNat - 48) := by
            show zpF [b, c, d, e] pos * _ + _ = _
            rw [← HZ.out, HXD.out]
          have HZN := Lib.hid hZn
          have HST := Lib.hid hst
          clear hDn hZn hst hx
          by_cases h2 : pos = 2
          · have g3 : ((pos : Int) == 2) = true := beqI_t (by omega)
            have H2 := Lib.hid h2
            clear h2
            go_wp2
            go_roundw
            case rel =>
              refine ⟨pos + 1, zpF [b, c, d, e] (pos + 1), by omega, ?_, HZN.out, hitn _, hbn _, rfl, HDN.out⟩
              rw [HST.out, if_pos H2.out]
              exact congrArg _ (by omega)
            case measure => simp only [World.iterPos, hitn, hit]; omega
          · have g3 : ((pos : Int) == 2) = false := beqI_f (by omega)
            have H2 := Lib.hid h2
            clear h2
            go_wp2
            go_roundw
            case rel =>
              refine ⟨pos + 1, zpF [b, c, d, e] (pos + 1), by omega, ?_, HZN.out, hitn _, hbn _, rfl, HDN.out⟩
              rw [HST.out, if_neg H2.out]
              exact congrArg _ (by omega)
            case measure => simp only [World.iterPos, hitn, hit]; omega
        · have hv := HFAIL.out (by unfold digB; rw [Bool.eq_false_iff]; simpa using hdg)
          have HV := Lib.hid hv
          clear hv
          obtain ⟨r, n, hdec⟩ : ∃ r n : Nat, Utf8.decode t pos = (r, n) := ⟨_, _, rfl⟩
          have hr : (r : Int) < 48 ∨ (57 : Int) < (r : Int) := by
            by_cases ha : x.toNat < 128
            · have := dec_ascii t pos hp x hx ha
              rw [hdec] at this
              injection this with p q
              omega
            · obtain ⟨hr0, _⟩ := dec_high t pos hp (by rw [hx]; omega)
              rw [hdec] at hr0
              simp only at hr0
              omega
          have hnx : ∀ ty, (Instr.next (.pointer (some ⟨w.heap.size, 0, none⟩)) true ty).run Tryd.prog wr = _ := fun ty => (Lib.run_next_any_at wr w.heap.size t pos ty hit hp).trans (by rw [hdec])
          clear hdec hx hdg
          rcases hr with hr | hr
          · go_wp2
            go_ret2
            exact ⟨by rw [HV.out.1, HV.out.2]; rfl, hbn _⟩
          · have hr' : ¬ (r : Int) < 48 := by omega
            go_wp2
            go_ret2
            exact ⟨by rw [HV.out.1, HV.out.2]; rfl, hbn _⟩
      · have h4 : pos = 4 := by omega
        have hend := fun ty => Lib.run_next_end_at (P := Tryd.prog) wr w.heap.size t pos ty hit hp
        subst h4
        have hall : ([b, c, d, e].all digB) = true := by
          rw [List.all_eq_true]
          intro x hx
          have h0 := HD.out 0 (by omega)
          have h1 := HD.out 1 (by omega)
          have h2 := HD.out 2 (by omega)
          have h3 := HD.out 3 (by omega)
          simp only [List.getD_cons_zero, List.getD_cons_succ] at h0 h1 h2 h3
          simp only [List.mem_cons, List.not_mem_nil, or_false] at hx
          rcases hx with rfl | rfl | rfl | rfl <;> assumption
        have hZ4 : Z = ((b.toNat - 48) * 10 + (c.toNat - 48)) * 60 + ((d.toNat - 48) * 10 + (e.toNat - 48)) := by rw [HZ.out, zpF_4]
        have key : ∀ v : Int, zoneV a b c d e = v → (zonedB v = true → zoneL v = [a, b, c, d, e] → R1 = v ∧ R2 = 0) ∧ (zonedB v = false ∨ zoneL v ≠ [a, b, c, d, e] → R1 = 0 ∧ R2 = 4) := by
          intro v hv
          have := HRR.out
          rw [hall, hv] at this
          refine ⟨fun p q => ?_, fun p => ?_⟩
          · rw [p, q] at this
            simp only [Bool.true_and, beq_self_eq_true, if_true] at this
            injection this with m n
            exact ⟨m.symm, n.symm⟩
          · rw [if_neg] at this
            · injection this with m n
              exact ⟨m.symm, n.symm⟩
            · rcases p with p | p
              · rw [p]; simp
              · intro hx
                simp only [Bool.and_eq_true, beq_iff_eq] at hx
                exact p hx.2
        have KEY := Lib.hid key
        have HZ4 := Lib.hid hZ4
        clear key hZ4 hall
        by_cases ha45 : a.toNat = 45
        · have hv : zoneV a b c d e = -(Z : Int) := by
            unfold zoneV
            rw [if_pos (UInt8.toNat_inj.1 ha45), ← HZ4.out]
          have HK := Lib.hid (KEY.out _ hv)
          have e1' : ((a.toNat : Int) == 45) = true := beqI_t (by omega)
          clear hv ha45
          go_wp2_with fail
          refine (Tryd.zoned (-(Z : Int)) _).mono ?_
          rintro e w1 ⟨rfl, rfl⟩
          obtain ⟨v, hv⟩ : ∃ v, zonedB (-(Z : Int)) = v := ⟨_, rfl⟩
          rw [hv]
          have HV := Lib.hid hv
          clear hv
          cases v with
          | false =>
            have hr := HK.out.2 (.inl HV.out)
            have HR := Lib.hid hr
            clear hr
            go_wp2
            go_ret2
            exact ⟨by rw [HR.out.1, HR.out.2]; rfl, hbw⟩
          | true =>
            have hz : -840 ≤ -(Z : Int) ∧ -(Z : Int) ≤ 840 := by have := HV.out; unfold zonedB at this; simpa using this
            go_wp2_with fail
            refine (Tryd.izone (-(Z : Int)) _ (by omega) (by omega)).mono ?_
            rintro e w2 ⟨rfl, hb2⟩
            have hbF := hbw.trans (hb2.mono hbw.size)
            obtain ⟨zl, hzl⟩ : ∃ zl, zoneL (-(Z : Int)) = zl := ⟨_, rfl⟩
            rw [hzl]
            have HZL := Lib.hid hzl
            clear hzl
            by_cases heq : zl = s.data.toList
            · have hr := HK.out.1 HV.out (by rw [HZL.out, heq, HL.out])
              have HR := Lib.hid hr
              clear hr
              go_wp2
              go_ret2
              exact ⟨by rw [HR.out.1, HR.out.2]; rfl, hbF⟩
            · have hr := HK.out.2 (.inr (by rw [HZL.out, ← HL.out]; exact heq))
              have HR := Lib.hid hr
              have he' : (zl == s.toList) = false := by rw [toList_dl]; simpa using heq
              clear hr heq
              go_wp2
              go_ret2
              exact ⟨by rw [HR.out.1, HR.out.2]; rfl, hbF⟩
        · have hv : zoneV a b c d e = (Z : Int) := by
            unfold zoneV
            rw [if_neg (fun h => ha45 (by rw [h]; rfl)), ← HZ4.out]
          have HK := Lib.hid (KEY.out _ hv)
          have e1' : ((a.toNat : Int) == 45) = false := beqI_f (by omega)
          clear hv ha45
          go_wp2_with fail
          refine (Tryd.zoned (Z : Int) _).mono ?_
          rintro e w1 ⟨rfl, rfl⟩
          obtain ⟨v, hv⟩ : ∃ v, zonedB (Z : Int) = v := ⟨_, rfl⟩
          rw [hv]
          have HV := Lib.hid hv
          clear hv
          cases v with
          | false =>
            have hr := HK.out.2 (.inl HV.out)
            have HR := Lib.hid hr
            clear hr
            go_wp2
            go_ret2
            exact ⟨by rw [HR.out.1, HR.out.2]; rfl, hbw⟩
          | true =>
            have hz : -840 ≤ (Z : Int) ∧ (Z : Int) ≤ 840 := by have := HV.out; unfold zonedB at this; simpa using this
            go_wp2_with fail
            refine (Tryd.izone (Z : Int) _ (by omega) (by omega)).mono ?_
            rintro e w2 ⟨rfl, hb2⟩
            have hbF := hbw.trans (hb2.mono hbw.size)
            obtain ⟨zl, hzl⟩ : ∃ zl, zoneL (Z : Int) = zl := ⟨_, rfl⟩
            rw [hzl]
            have HZL := Lib.hid hzl
            clear hzl
            by_cases heq : zl = s.data.toList
            · have hr := HK.out.1 HV.out (by rw [HZL.out, heq, HL.out])
              have HR := Lib.hid hr
              clear hr
              go_wp2
              go_ret2
              exact ⟨by rw [HR.out.1, HR.out.2]; rfl, hbF⟩
            · have hr := HK.out.2 (.inr (by rw [HZL.out, ← HL.out]; exact heq))
              have HR := Lib.hid hr
              have he' : (zl == s.toList) = false := by rw [toList_dl]; simpa using heq
              clear hr heq
              go_wp2
              go_ret2
              exact ⟨by rw [HR.out.1, HR.out.2]; rfl, hbF⟩
  · have hv : R1 = 0 ∧ R2 = 4 := by
      rw [takeZ_len _ (by rw [← size_dl]; exact h5)] at hR
      injection hR with p q
      exact ⟨p.symm, q.symm⟩
    have HV := Lib.hid hv
    have e5 : ((s.size : Int) != 5) = true := by simp; omega
    clear hv hR h5
    go_enter Tryd.func40, Tryd.ntmps40
    go_wp2
    go_ret2
    exact ⟨by rw [HV.out.1, HV.out.2]; rfl, Below.refl _ _⟩
end Go.Proofs.YtlhbbpagjkjplaaDoor
