/- Contracts and plain laws for the proofs of this seat: reading an ident. Conditions: those written at each theorem. -/
import Derived.Test.YtlhbbpagjkjplaaDoorIdD
set_option linter.unusedVariables false
set_option linter.unusedSimpArgs false
namespace Go.Proofs.YtlhbbpagjkjplaaDoor
open Go.RowKit Go.Proofs

theorem str_eq (s : ByteArray) : s = ⟨s.data.toList.toArray⟩ := by cases s; simp
theorem cut_len (a sep : By) : (Lib.cut a sep).1.length ≤ a.length ∧ (Lib.cut a sep).2.1.length ≤ a.length := by
  unfold Lib.cut
  split
  · simp only [List.length_take, List.length_drop]; omega
  · simp

/-- strings.Cut, in bytes. -/
theorem Tryd.CutB (a sep p q : By) (f : Bool) (w : World) (hr : Tryd.Rdy w) (hs : a.length ≤ 1000000000) (h : Lib.cut a sep = (p, q, f)) :
    Calls Tryd.prog 85 #[.string ⟨a.toArray⟩, .string ⟨sep.toArray⟩] w fun e w' => e = .returned (.tuple #[.string ⟨p.toArray⟩, .string ⟨q.toArray⟩, .bool f]) ∧ Below w.heap.size w w' := by
  obtain ⟨m, hm⟩ := hr.2
  refine (Tryd.strings_Cut ⟨a.toArray⟩ ⟨sep.toArray⟩ m w (by show a.length < _; omega) hm).mono ?_
  rintro e w' ⟨rfl, n, rfl⟩
  have h' : Lib.cut (⟨a.toArray⟩ : ByteArray).data.toList (⟨sep.toArray⟩ : ByteArray).data.toList = (p, q, f) := h
  rw [h']
  refine ⟨rfl, ?_⟩
  exact ⟨rfl, rfl, rfl, Nat.le_refl _, fun _ _ => rfl⟩

set_option maxHeartbeats 4000000 in
set_option maxRecDepth 100000 in
theorem Tryd.iParse (s : ByteArray) (w : World) (hr : Tryd.RdyN w) (hs : s.size ≤ 1000000) :
    Calls Tryd.prog 38 #[.string s] w fun e w' => e = .returned (.tuple #[idnV (parseI s.data.toList).1, .int .i64 (parseI s.data.toList).2]) ∧ Below w.heap.size w w' := by
  obtain ⟨R1, R2, hR⟩ : ∃ R1 R2, parseI s.data.toList = (R1, R2) := ⟨_, _, rfl⟩
  rw [hR]
  obtain ⟨p1, q1, f1, hc1⟩ : ∃ p q f, Lib.cut s.data.toList [60] = (p, q, f) := ⟨_, _, _, rfl⟩
  obtain ⟨p2, q2, f2, hc2⟩ : ∃ p q f, Lib.cut q1 [62, 32] = (p, q, f) := ⟨_, _, _, rfl⟩
  obtain ⟨p3, q3, f3, hc3⟩ : ∃ p q f, Lib.cut q2 [32] = (p, q, f) := ⟨_, _, _, rfl⟩
  obtain ⟨v, ev, hv⟩ : ∃ v ev, takeN p3 = (v, ev) := ⟨_, _, rfl⟩
  obtain ⟨z, ez, hz⟩ : ∃ z ez, takeZ q3 = (z, ez) := ⟨_, _, rfl⟩
  obtain ⟨nm, hnm⟩ : ∃ nm, Lib.trimSuffix p1 [32] = nm := ⟨_, rfl⟩
  have hof : idnOf s.data.toList = ⟨nm, p2, v, z⟩ := by
    unfold idnOf
    rw [hc1]; simp only
    rw [hc2]; simp only
    rw [hc3]; simp only
    rw [hv, hz, hnm]
  have hfit : idnFit s.data.toList = (f1 && f2 && f3 && decide (ev = 0) && decide (ez = 0) && idnOk ⟨nm, p2, v, z⟩ && (idnPrint ⟨nm, p2, v, z⟩ == s.data.toList)) := by
    unfold idnFit
    rw [hof, hc1]; simp only
    rw [hc2]; simp only
    rw [hc3]; simp only
    rw [hv, hz]
  have hl1 := cut_len s.data.toList [60]
  have hl2 := cut_len q1 [62, 32]
  have hl3 := cut_len q2 [32]
  rw [hc1] at hl1
  rw [hc2] at hl2
  rw [hc3] at hl3
  dsimp only at hl1 hl2 hl3
  have hsl : s.data.toList.length ≤ 1000000 := hs
  have hnl : nm.length ≤ 1000000 := by
    have : nm.length ≤ p1.length := by
      rw [← hnm]; unfold Lib.trimSuffix
      split
      · simp only [List.length_take]; omega
      · omega
    omega
  have hbad : (f1 && f2 && f3 && decide (ev = 0) && decide (ez = 0) && idnOk ⟨nm, p2, v, z⟩ && (idnPrint ⟨nm, p2, v, z⟩ == s.data.toList)) = false → R1 = idn0 ∧ R2 = 4 := by
    intro h
    unfold parseI at hR
    rw [hfit, h] at hR
    simp only [Bool.false_eq_true, if_false] at hR
    injection hR with a b
    exact ⟨a.symm, b.symm⟩
  have hgood : (f1 && f2 && f3 && decide (ev = 0) && decide (ez = 0) && idnOk ⟨nm, p2, v, z⟩ && (idnPrint ⟨nm, p2, v, z⟩ == s.data.toList)) = true → R1 = ⟨nm, p2, v, z⟩ ∧ R2 = 0 := by
    intro h
    unfold parseI at hR
    rw [hfit, h, hof] at hR
    simp only [if_true] at hR
    injection hR with a b
    exact ⟨a.symm, b.symm⟩
  have HBAD := Lib.hid hbad
  have HGOOD := Lib.hid hgood
  have HC1 := Lib.hid hc1
  have HC2 := Lib.hid hc2
  have HC3 := Lib.hid hc3
  have HV := Lib.hid hv
  have HZ := Lib.hid hz
  have HNM := Lib.hid hnm
  have HR := Lib.hid hr
  clear hbad hgood hc1 hc2 hc3 hv hz hnm hr hof hfit hR
  have hb0 : Below w.heap.size w (w.alloc (.cells #[.string ⟨#[]⟩, .string ⟨#[]⟩, .int .i64 0, .int .i64 0] 50)) := (Below.refl _ w).alloc (Nat.le_refl _) _
  have HK0 := Lib.hid (heap_alloc_new w (.cells #[.string ⟨#[]⟩, .string ⟨#[]⟩, .int .i64 0, .int .i64 0] 50 (0, 0)))
  go_enter Tryd.func38, Tryd.ntmps38
  go_wp2_with fail
  have hcl := Tryd.CutB s.data.toList [60] p1 q1 f1 _ (HR.out.below hb0).1 (by omega) HC1.out
  rw [← str_eq s] at hcl
  refine hcl.mono ?_
  clear hcl
  rintro e w1 ⟨rfl, hb1⟩
  have hb1' := hb0.trans (hb1.mono hb0.size)
  have hk1 := (hb1.block w.heap.size (by simp)).trans HK0.out
  have HK1 := Lib.hid hk1
  clear hk1
  go_wp2_with fail
  refine (Tryd.CutB q1 [62, 32] p2 q2 f2 _ (HR.out.below hb1').1 (by omega) HC2.out).mono ?_
  rintro e w2 ⟨rfl, hb2⟩
  have hb2' := hb1'.trans (hb2.mono hb1'.size)
  go_wp2_with fail
  refine (Tryd.CutB q2 [32] p3 q3 f3 _ (HR.out.below hb2').1 (by omega) HC3.out).mono ?_
  rintro e w3 ⟨rfl, hb3⟩
  have hb3' := hb2'.trans (hb3.mono hb2'.size)
  go_wp2_with fail
  refine (Tryd.TakeNumber ⟨p3.toArray⟩ _ (HR.out.below hb3') (by show p3.length ≤ _; omega)).mono ?_
  rintro e w4 ⟨rfl, hb4⟩
  have hb4' := hb3'.trans (hb4.mono hb3'.size)
  rw [show takeN (⟨p3.toArray⟩ : ByteArray).data.toList = (v, ev) from HV.out]
  go_wp2_with fail
  refine (Tryd.iZone ⟨q3.toArray⟩ _ (by show q3.length ≤ _; omega)).mono ?_
  rintro e w5 ⟨rfl, hb5⟩
  have hb5' := hb4'.trans (hb5.mono hb4'.size)
  rw [show takeZ (⟨q3.toArray⟩ : ByteArray).data.toList = (z, ez) from HZ.out]
  go_wp2_with fail
  refine (Tryd.strings_TrimSuffix ⟨p1.toArray⟩ ⟨#[32]⟩ _ (by show p1.length ≤ _; omega)).mono ?_
  rintro e w6 ⟨rfl, rfl⟩
  rw [show Lib.trimSuffix (⟨p1.toArray⟩ : ByteArray).data.toList (⟨#[32]⟩ : ByteArray).data.toList = nm from HNM.out]
  have hs1 := hb1.size
  have hs2 := hb2.size
  have hs3 := hb3.size
  have hs4 := hb4.size
  have hs5 := hb5.size
  simp at hs1
  have hk5 : w6.heap[w.heap.size]? = some (.cells #[.string ⟨#[]⟩, .string ⟨#[]⟩, .int .i64 0, .int .i64 0] 50 (0, 0)) :=
    (hb5.block _ (by omega)).trans ((hb4.block _ (by omega)).trans ((hb3.block _ (by omega)).trans ((hb2.block _ (by omega)).trans HK1.out)))
  have d0 : w6.cell? ⟨w.heap.size, 0, none⟩ = some (.string ⟨#[]⟩) := blk_cell hk5 0
  have d1 : w6.cell? ⟨w.heap.size, 1, none⟩ = some (.string ⟨#[]⟩) := blk_cell hk5 1
  have d2 : w6.cell? ⟨w.heap.size, 2, none⟩ = some (.int .i64 0) := blk_cell hk5 2
  have d3 : w6.cell? ⟨w.heap.size, 3, none⟩ = some (.int .i64 0) := blk_cell hk5 3
  have z0 : w6.frozen? ⟨w.heap.size, 0, none⟩ = false := Lib.frozen_of_heap hk5 0
  have z1 : w6.frozen? ⟨w.heap.size, 1, none⟩ = false := Lib.frozen_of_heap hk5 1
  have z2 : w6.frozen? ⟨w.heap.size, 2, none⟩ = false := Lib.frozen_of_heap hk5 2
  have z3 : w6.frozen? ⟨w.heap.size, 3, none⟩ = false := Lib.frozen_of_heap hk5 3
  have hlt : w.heap.size < w6.heap.size := by omega
  have HK5 := Lib.hid hk5
  clear hk5 HK0 HK1 hb0 hb1' hb2' hb3' hb4' hs1 hs2 hs3 hs4 hs5
  have hf : f1 = true ∧ f2 = true ∧ f3 = true ∨ R1 = idn0 ∧ R2 = 4 := by
    cases f1
    · exact .inr (HBAD.out (by simp))
    · cases f2
      · exact .inr (HBAD.out (by simp))
      · cases f3
        · exact .inr (HBAD.out (by simp))
        · exact .inl ⟨rfl, rfl, rfl⟩
  cases f1 with
  | false =>
    have hr := HBAD.out (by simp)
    have HRR := Lib.hid hr
    clear hr
    go_wp2
    refine bodyPost_ret (v := .tuple #[idnV idn0, .int .i64 4]) (by simp [results, Tryd.results38, go_sem, hlt, d0, d1, d2, d3, idn0]) rfl ⟨by rw [HRR.out.1, HRR.out.2], ?_⟩
    exact ((((hb5'.setCell (Nat.le_refl _) _).setCell (Nat.le_refl _) _).setCell (Nat.le_refl _) _).setCell (Nat.le_refl _) _).alloc (by simp [World.setCell]; omega) _
  | true =>
    cases f2 with
    | false =>
      have hr := HBAD.out (by simp)
      have HRR := Lib.hid hr
      clear hr
      go_wp2
      refine bodyPost_ret (v := .tuple #[idnV idn0, .int .i64 4]) (by simp [results, Tryd.results38, go_sem, hlt, d0, d1, d2, d3, idn0]) rfl ⟨by rw [HRR.out.1, HRR.out.2], ?_⟩
      exact ((((hb5'.setCell (Nat.le_refl _) _).setCell (Nat.le_refl _) _).setCell (Nat.le_refl _) _).setCell (Nat.le_refl _) _).alloc (by simp [World.setCell]; omega) _
    | true =>
      cases f3 with
      | false =>
        have hr := HBAD.out (by simp)
        have HRR := Lib.hid hr
        clear hr
        go_wp2
        refine bodyPost_ret (v := .tuple #[idnV idn0, .int .i64 4]) (by simp [results, Tryd.results38, go_sem, hlt, d0, d1, d2, d3, idn0]) rfl ⟨by rw [HRR.out.1, HRR.out.2], ?_⟩
        exact ((((hb5'.setCell (Nat.le_refl _) _).setCell (Nat.le_refl _) _).setCell (Nat.le_refl _) _).setCell (Nat.le_refl _) _).alloc (by simp [World.setCell]; omega) _
      | true =>
        clear hf
        by_cases hev : ev = 0
        · by_cases hez : ez = 0
          · have e1 : (ev != 0) = false := by simp [hev]
            have e2 : (ez != 0) = false := by simp [hez]
            have hsimp : ((true && true && true && decide (ev = 0) && decide (ez = 0) && idnOk ⟨nm, p2, v, z⟩ && (idnPrint ⟨nm, p2, v, z⟩ == s.data.toList)) : Bool) = (idnOk ⟨nm, p2, v, z⟩ && (idnPrint ⟨nm, p2, v, z⟩ == s.data.toList)) := by rw [decide_eq_true hev, decide_eq_true hez]; simp
            have hB2 := HBAD.out
            have hG2 := HGOOD.out
            rw [hsimp] at hB2 hG2
            have HB2 := Lib.hid hB2
            have HG2 := Lib.hid hG2
            clear hB2 hG2 HBAD HGOOD hsimp hev hez
            have hka := heap_alloc_new w6 (.cells #[.string ⟨nm.toArray⟩, .string ⟨p2.toArray⟩, .int .i64 v, .int .i64 z] 50 (0, 0))
            have HKA := Lib.hid hka
            have HK6 := Lib.hid ((Below.heap_alloc w6 (.cells #[.string ⟨nm.toArray⟩, .string ⟨p2.toArray⟩, .int .i64 v, .int .i64 z] 50 (0, 0)) w.heap.size hlt).trans HK5.out)
            have hba : Below w.heap.size w (w6.alloc (.cells #[.string ⟨nm.toArray⟩, .string ⟨p2.toArray⟩, .int .i64 v, .int .i64 z] 50)) := hb5'.alloc (by omega) _
            clear hka
            go_wp2_with fail
            refine (Tryd.iRight ⟨nm, p2, v, z⟩ _ (HR.out.below hba).1 (by show nm.length ≤ _; omega) (by show p2.length ≤ _; omega)).mono ?_
            rintro e w7 ⟨rfl, hb7⟩
            have hb7' := hba.trans (hb7.mono hba.size)
            have hk7 := (hb7.block w6.heap.size (by simp)).trans HKA.out
            have hr7 := (hb7.block w.heap.size (by simp; omega)).trans HK6.out
            have HK7 := Lib.hid hk7
            have HR7 := Lib.hid hr7
            have hs7 := hb7.size
            simp at hs7
            obtain ⟨vr, hvr⟩ : ∃ vr, idnOk ⟨nm, p2, v, z⟩ = vr := ⟨_, rfl⟩
            rw [hvr]
            have HVR := Lib.hid hvr
            clear hvr d0 d1 d2 d3 z0 z1 z2 z3
            cases vr with
            | false =>
              have m0 : w7.cell? ⟨w.heap.size, 0, none⟩ = some (.string ⟨#[]⟩) := blk_cell hr7 0
              have m1 : w7.cell? ⟨w.heap.size, 1, none⟩ = some (.string ⟨#[]⟩) := blk_cell hr7 1
              have m2 : w7.cell? ⟨w.heap.size, 2, none⟩ = some (.int .i64 0) := blk_cell hr7 2
              have m3 : w7.cell? ⟨w.heap.size, 3, none⟩ = some (.int .i64 0) := blk_cell hr7 3
              have z0 : w7.frozen? ⟨w.heap.size, 0, none⟩ = false := Lib.frozen_of_heap hr7 0
              have z1 : w7.frozen? ⟨w.heap.size, 1, none⟩ = false := Lib.frozen_of_heap hr7 1
              have z2 : w7.frozen? ⟨w.heap.size, 2, none⟩ = false := Lib.frozen_of_heap hr7 2
              have z3 : w7.frozen? ⟨w.heap.size, 3, none⟩ = false := Lib.frozen_of_heap hr7 3
              have hr := HB2.out (by rw [HVR.out]; rfl)
              have HRR := Lib.hid hr
              clear hr hk7 hr7
              go_wp2
              refine bodyPost_ret (v := .tuple #[idnV idn0, .int .i64 4]) (by simp [results, Tryd.results38, go_sem, m0, m1, m2, m3, idn0]) rfl ⟨by rw [HRR.out.1, HRR.out.2], ?_⟩
              exact (((hb7'.setCell (Nat.le_refl _) _).setCell (Nat.le_refl _) _).setCell (Nat.le_refl _) _).setCell (Nat.le_refl _) _
            | true =>
              have g0 : w7.cell? ⟨w6.heap.size, 0, none⟩ = some (.string ⟨nm.toArray⟩) := blk_cell hk7 0
              have g1 : w7.cell? ⟨w6.heap.size, 1, none⟩ = some (.string ⟨p2.toArray⟩) := blk_cell hk7 1
              have g2 : w7.cell? ⟨w6.heap.size, 2, none⟩ = some (.int .i64 v) := blk_cell hk7 2
              have g3 : w7.cell? ⟨w6.heap.size, 3, none⟩ = some (.int .i64 z) := blk_cell hk7 3
              clear hk7 hr7
              go_wp2_with fail
              refine (Tryd.iPrint ⟨nm, p2, v, z⟩ _ (HR.out.below hb7') (by show nm.length ≤ _; omega) (by show p2.length ≤ _; omega)).mono ?_
              rintro e w8 ⟨rfl, hb8⟩
              have hb8' := hb7'.trans (hb8.mono hb7'.size)
              have hr8 := (hb8.block w.heap.size (by omega)).trans HR7.out
              have hk8 := (hb8.block w6.heap.size (by omega)).trans HK7.out
              have m0 : w8.cell? ⟨w.heap.size, 0, none⟩ = some (.string ⟨#[]⟩) := blk_cell hr8 0
              have m1 : w8.cell? ⟨w.heap.size, 1, none⟩ = some (.string ⟨#[]⟩) := blk_cell hr8 1
              have m2 : w8.cell? ⟨w.heap.size, 2, none⟩ = some (.int .i64 0) := blk_cell hr8 2
              have m3 : w8.cell? ⟨w.heap.size, 3, none⟩ = some (.int .i64 0) := blk_cell hr8 3
              have z0 : w8.frozen? ⟨w.heap.size, 0, none⟩ = false := Lib.frozen_of_heap hr8 0
              have z1 : w8.frozen? ⟨w.heap.size, 1, none⟩ = false := Lib.frozen_of_heap hr8 1
              have z2 : w8.frozen? ⟨w.heap.size, 2, none⟩ = false := Lib.frozen_of_heap hr8 2
              have z3 : w8.frozen? ⟨w.heap.size, 3, none⟩ = false := Lib.frozen_of_heap hr8 3
              have n0 : w8.cell? ⟨w6.heap.size, 0, none⟩ = some (.string ⟨nm.toArray⟩) := blk_cell hk8 0
              have n1 : w8.cell? ⟨w6.heap.size, 1, none⟩ = some (.string ⟨p2.toArray⟩) := blk_cell hk8 1
              have n2 : w8.cell? ⟨w6.heap.size, 2, none⟩ = some (.int .i64 v) := blk_cell hk8 2
              have n3 : w8.cell? ⟨w6.heap.size, 3, none⟩ = some (.int .i64 z) := blk_cell hk8 3
              clear hk8 hr8 g0 g1 g2 g3
              obtain ⟨pl, hpl⟩ : ∃ pl, idnPrint ⟨nm, p2, v, z⟩ = pl := ⟨_, rfl⟩
              rw [hpl]
              have HPL := Lib.hid hpl
              clear hpl
              by_cases heq : pl = s.data.toList
              · have hr := HG2.out (by rw [HVR.out, HPL.out, heq]; simp)
                have HRR := Lib.hid hr
                have heq' : (pl == s.toList) = true := by rw [toList_dl]; simpa using heq
                clear hr heq
                go_wp2
                refine bodyPost_ret (v := .tuple #[idnV ⟨nm, p2, v, z⟩, .int .i64 0]) (by simp [results, Tryd.results38, go_sem, m0, m1, m2, m3, idn0]) rfl ⟨by rw [HRR.out.1, HRR.out.2], ?_⟩
                exact (((hb8'.setCell (Nat.le_refl _) _).setCell (Nat.le_refl _) _).setCell (Nat.le_refl _) _).setCell (Nat.le_refl _) _
              · have hr := HB2.out (by rw [HVR.out, HPL.out]; simpa using heq)
                have HRR := Lib.hid hr
                have heq' : (pl == s.toList) = false := by rw [toList_dl]; simpa using heq
                clear hr heq
                go_wp2
                refine bodyPost_ret (v := .tuple #[idnV idn0, .int .i64 4]) (by simp [results, Tryd.results38, go_sem, m0, m1, m2, m3, idn0]) rfl ⟨by rw [HRR.out.1, HRR.out.2], ?_⟩
                exact (((hb8'.setCell (Nat.le_refl _) _).setCell (Nat.le_refl _) _).setCell (Nat.le_refl _) _).setCell (Nat.le_refl _) _
          · have hr := HBAD.out (by rw [decide_eq_false hez]; simp)
            have e1 : (ev != 0) = false := by simp [hev]
            have e2 : (ez != 0) = true := by simpa using hez
            clear hev hez
            have HRR := Lib.hid hr
            clear hr
            go_wp2
            refine bodyPost_ret (v := .tuple #[idnV idn0, .int .i64 4]) (by simp [results, Tryd.results38, go_sem, hlt, d0, d1, d2, d3, idn0]) rfl ⟨by rw [HRR.out.1, HRR.out.2], ?_⟩
            exact ((((hb5'.setCell (Nat.le_refl _) _).setCell (Nat.le_refl _) _).setCell (Nat.le_refl _) _).setCell (Nat.le_refl _) _).alloc (by simp [World.setCell]; omega) _
        · have hr := HBAD.out (by rw [decide_eq_false hev]; simp)
          have e1 : (ev != 0) = true := by simpa using hev
          clear hev
          have HRR := Lib.hid hr
          clear hr
          go_wp2
          refine bodyPost_ret (v := .tuple #[idnV idn0, .int .i64 4]) (by simp [results, Tryd.results38, go_sem, hlt, d0, d1, d2, d3, idn0]) rfl ⟨by rw [HRR.out.1, HRR.out.2], ?_⟩
          exact ((((hb5'.setCell (Nat.le_refl _) _).setCell (Nat.le_refl _) _).setCell (Nat.le_refl _) _).setCell (Nat.le_refl _) _).alloc (by simp [World.setCell]; omega) _
end Go.Proofs.YtlhbbpagjkjplaaDoor
