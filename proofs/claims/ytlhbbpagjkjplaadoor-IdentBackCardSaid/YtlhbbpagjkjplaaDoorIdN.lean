/- The law that idents come back: what its function answers. Conditions: those written at each theorem. -/
import Derived.Test.YtlhbbpagjkjplaaDoorIdM
set_option linter.unusedVariables false
set_option linter.unusedSimpArgs false
namespace Go.Proofs.YtlhbbpagjkjplaaDoor
open Go.RowKit Go.Proofs

theorem idnPrint_len (i : Idn) : (idnPrint i).length ≤ 1000 := by
  unfold idnPrint
  cases h : idnOk i with
  | false => simp
  | true =>
    rw [if_pos rfl]
    obtain ⟨h1, h2, h3, h4, h5⟩ := idn_parts i h
    have a1 := called_len _ h1
    have a2 := called_len _ h2
    have a3 := Lib.itoa_length_le i.wh (by omega) (by omega)
    have a4 := zoneL_length i.zn
    unfold idnL
    by_cases hn : i.nm = []
    · rw [if_pos hn]; simp only [List.length_append, List.length_cons, List.length_nil]; omega
    · rw [if_neg hn]; simp only [List.length_append, List.length_cons, List.length_nil]; omega

theorem idn_four {W : World} {b : Nat} {i : Idn} {T : TypeId} {m : Nat × Nat} (h : W.heap[b]? = some (.cells (idnCells i) T m)) :
    W.cell? ⟨b, 0, none⟩ = some (.string ⟨i.nm.toArray⟩) ∧ W.cell? ⟨b, 1, none⟩ = some (.string ⟨i.em.toArray⟩) ∧ W.cell? ⟨b, 2, none⟩ = some (.int .i64 i.wh) ∧ W.cell? ⟨b, 3, none⟩ = some (.int .i64 i.zn) :=
  ⟨blk_cell h 0, blk_cell h 1, blk_cell h 2, blk_cell h 3⟩

set_option maxHeartbeats 8000000 in
set_option maxRecDepth 100000 in
theorem Tryd.IdentBack_law (i : Idn) (s : ByteArray) (w : World) (hr : Tryd.RdyN w) :
    Calls Tryd.prog 12 #[idnV i, .string s] w fun e w' => e = .returned (.bool true) ∧ Below w.heap.size w w' := by
  have HR := Lib.hid hr
  clear hr
  have hb0 : Below w.heap.size w (w.alloc (.cells (idnCells i) 50)) := (Below.refl _ w).alloc (Nat.le_refl _) _
  by_cases h1 : 500 < i.nm.length
  · have e1 : (500 : Int) < (i.nm.length : Int) := by omega
    go_enter Tryd.func12, Tryd.ntmps12
    go_wp2_with fail
    refine (Tryd.iawake _ (HR.out.below hb0)).mono ?_
    rintro e w1 ⟨rfl, hb1⟩
    go_wp2
    go_ret
    exact ⟨rfl, hb0.trans (hb1.mono hb0.size)⟩
  · have e1 : decide ((500 : Int) < (i.nm.length : Int)) = false := by simp; omega
    by_cases h2 : 500 < i.em.length
    · have e2 : (500 : Int) < (i.em.length : Int) := by omega
      go_enter Tryd.func12, Tryd.ntmps12
      go_wp2_with fail
      refine (Tryd.iawake _ (HR.out.below hb0)).mono ?_
      rintro e w1 ⟨rfl, hb1⟩
      go_wp2
      go_ret
      exact ⟨rfl, hb0.trans (hb1.mono hb0.size)⟩
    · have e2 : decide ((500 : Int) < (i.em.length : Int)) = false := by simp; omega
      by_cases h3 : 1000 < s.size
      · have e3 : (1000 : Int) < (s.size : Int) := by omega
        go_enter Tryd.func12, Tryd.ntmps12
        go_wp2_with fail
        refine (Tryd.iawake _ (HR.out.below hb0)).mono ?_
        rintro e w1 ⟨rfl, hb1⟩
        go_wp2
        go_ret
        exact ⟨rfl, hb0.trans (hb1.mono hb0.size)⟩
      · have e3 : decide ((1000 : Int) < (s.size : Int)) = false := by simp; omega
        obtain ⟨x, xf, hx⟩ : ∃ x xf, parseI (idnPrint i) = (x, xf) := ⟨_, _, rfl⟩
        obtain ⟨y, yf, hy⟩ : ∃ y yf, parseI s.data.toList = (y, yf) := ⟨_, _, rfl⟩
        obtain ⟨ok, hok⟩ : ∃ ok, idnOk i = ok := ⟨_, rfl⟩
        have hxi : ok = true → x = i ∧ xf = 0 := by
          intro h
          rw [h] at hok
          have : idnPrint i = idnL i := by unfold idnPrint; rw [if_pos hok]
          rw [this, parseI_print i hok] at hx
          injection hx with a b
          exact ⟨a.symm, b.symm⟩
        have hyi : yf = 0 → idnOk y = true ∧ idnPrint y = s.data.toList := by
          intro h
          have := parseI_ok s.data.toList (by rw [hy]; exact h)
          rw [hy] at this
          dsimp only at this
          exact ⟨this.1, by unfold idnPrint; rw [if_pos this.1]; exact this.2⟩
        have HX := Lib.hid hx
        have HY := Lib.hid hy
        have HOK := Lib.hid hok
        have HXI := Lib.hid hxi
        have HYI := Lib.hid hyi
        have HPL := Lib.hid (idnPrint_len i)
        have HK0 := Lib.hid (heap_alloc_new w (.cells (idnCells i) 50 (0, 0)))
        have HL := Lib.hid (And.intro h1 h2)
        have hs : s.size ≤ 1000 := by omega
        clear hx hy hok hxi hyi h1 h2 h3
        go_enter Tryd.func12, Tryd.ntmps12
        go_wp2_with fail
        refine (Tryd.iPrint i _ (HR.out.below hb0) (by have := HL.out.1; omega) (by have := HL.out.2; omega)).mono ?_
        rintro e w1 ⟨rfl, hb1⟩
        have hb1' := hb0.trans (hb1.mono hb0.size)
        have HK1 := Lib.hid ((hb1.block w.heap.size (by simp)).trans HK0.out)
        have hs1 := hb1.size
        simp at hs1
        go_wp2_with fail
        refine (Tryd.iParse ⟨(idnPrint i).toArray⟩ _ (HR.out.below hb1') (by have := HPL.out; show (idnPrint i).length ≤ _; omega)).mono ?_
        rintro e w2 ⟨rfl, hb2⟩
        rw [show parseI (⟨(idnPrint i).toArray⟩ : ByteArray).data.toList = (x, xf) from HX.out]
        have hb2' := hb1'.trans (hb2.mono hb1'.size)
        have hs2 := hb2.size
        have HK2 := Lib.hid ((hb2.block w.heap.size (by omega)).trans HK1.out)
        have hba : Below w.heap.size w (w2.alloc (.cells (idnCells x) 50)) := hb2'.alloc (by omega) _
        go_wp2_with fail
        refine (Tryd.iParse s _ (HR.out.below hba) (by omega)).mono ?_
        rintro e w3 ⟨rfl, hb3⟩
        rw [HY.out]
        have hb3' := hba.trans (hb3.mono hba.size)
        have hs3 := hb3.size
        simp at hs3
        have HK3 := Lib.hid ((hb3.block w.heap.size (by simp; omega)).trans ((Below.heap_alloc w2 (.cells (idnCells x) 50 (0, 0)) w.heap.size (by omega)).trans HK2.out))
        have HX3 := Lib.hid ((hb3.block w2.heap.size (by simp)).trans (heap_alloc_new w2 (.cells (idnCells x) 50 (0, 0))))
        have hbb : Below w.heap.size w (w3.alloc (.cells (idnCells y) 50)) := hb3'.alloc (by omega) _
        go_wp2_with fail
        refine (Tryd.iawake _ (HR.out.below hbb)).mono ?_
        rintro e w4 ⟨rfl, hb4⟩
        have hb4' := hbb.trans (hb4.mono hbb.size)
        have hs4 := hb4.size
        simp at hs4
        have hk4 := (hb4.block w.heap.size (by simp; omega)).trans ((Below.heap_alloc w3 (.cells (idnCells y) 50 (0, 0)) w.heap.size (by omega)).trans HK3.out)
        have HX4 := Lib.hid ((hb4.block w2.heap.size (by simp; omega)).trans ((Below.heap_alloc w3 (.cells (idnCells y) 50 (0, 0)) w2.heap.size (by omega)).trans HX3.out))
        have HY4 := Lib.hid ((hb4.block w3.heap.size (by simp)).trans (heap_alloc_new w3 (.cells (idnCells y) 50 (0, 0))))
        obtain ⟨a0, a1, a2, a3⟩ := idn_four hk4
        have HK4 := Lib.hid hk4
        clear hk4
        go_wp2_with fail
        refine (Tryd.rRight06 i _ (HR.out.below hb4').1 (by have := HL.out.1; omega) (by have := HL.out.2; omega)).mono ?_
        rintro e w5 ⟨rfl, hb5⟩
        rw [HOK.out]
        have hb5' := hb4'.trans (hb5.mono hb4'.size)
        have hs5 := hb5.size
        obtain ⟨b0, b1, b2, b3⟩ := idn_four ((hb5.block w.heap.size (by omega)).trans HK4.out)
        obtain ⟨c0, c1, c2, c3⟩ := idn_four ((hb5.block w2.heap.size (by omega)).trans HX4.out)
        obtain ⟨d0, d1, d2, d3⟩ := idn_four ((hb5.block w3.heap.size (by omega)).trans HY4.out)
        have HY5 := Lib.hid ((hb5.block w3.heap.size (by omega)).trans HY4.out)
        have HB5 := Lib.hid hb5'
        clear a0 a1 a2 a3 hb0 hb1 hb1' hb2 hb2' hb3 hb3' hb4 hb4' hb5 hb5' hba hbb HK0 HK1 HK2 HK3 HX3 hs1 hs2 hs3
        have hcase : (ok = false) ∨ (ok = true ∧ x = i ∧ xf = 0) := by
          cases ok
          · exact .inl rfl
          · exact .inr ⟨rfl, HXI.out rfl⟩
        have heqi := Tryd.eqI ⟨i.nm.toArray⟩ ⟨i.em.toArray⟩ i.wh i.zn
        clear HXI HX HOK
        rcases hcase with rfl | ⟨rfl, rfl, rfl⟩
        all_goals
          by_cases hyf : yf = 0
          · have hyf' : (yf != 0) = false := by simp [hyf]
            obtain ⟨hok, hpr⟩ := HYI.out hyf
            have HO := Lib.hid hok
            have HP := Lib.hid hpr
            clear hyf hok hpr HYI
            have hyl : y.nm.length ≤ 200 ∧ y.em.length ≤ 200 := ⟨called_len _ (idn_parts _ HO.out).1, called_len _ (idn_parts _ HO.out).2.1⟩
            have HYL := Lib.hid hyl
            clear hyl
            go_wp2_with fail
            refine (Tryd.iRight y _ (HR.out.below HB5.out).1 (by have := HYL.out.1; omega) (by have := HYL.out.2; omega)).mono ?_
            rintro e w6 ⟨rfl, hb6⟩
            rw [HO.out]
            have hb6' := HB5.out.trans (hb6.mono HB5.out.size)
            obtain ⟨f0, f1, f2, f3⟩ := idn_four ((hb6.block w3.heap.size (by omega)).trans HY5.out)
            clear b0 b1 b2 b3 c0 c1 c2 c3 d0 d1 d2 d3
            go_wp2_with fail
            refine (Tryd.iPrint y _ (HR.out.below hb6') (by have := HYL.out.1; omega) (by have := HYL.out.2; omega)).mono ?_
            rintro e w7 ⟨rfl, hb7⟩
            rw [HP.out]
            go_wp2
            go_ret
            exact ⟨by simp [toList_dl], hb6'.trans (hb7.mono hb6'.size)⟩
          · have hyf' : (yf != 0) = true := by simpa using hyf
            clear hyf HYI
            go_wp2
            go_ret
            exact ⟨rfl, HB5.out⟩
end Go.Proofs.YtlhbbpagjkjplaaDoor
