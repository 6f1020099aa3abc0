/- The laws of idents: what their functions answer. Conditions: those written at each theorem. -/
import Derived.Test.YtlhbbpagjkjplaaDoorIdL
import Derived.Test.YtlhbbpagjkjplaaDoorIdK
set_option linter.unusedVariables false
set_option linter.unusedSimpArgs false
namespace Go.Proofs.YtlhbbpagjkjplaaDoor
open Go.RowKit Go.Proofs

set_option maxHeartbeats 400000 in
theorem Tryd.eqI (n e : ByteArray) (a b : Int) (W : World) : (binOp .eql 50 (.agg #[.string n, .string e, .int .i64 a, .int .i64 b]) (.agg #[.string n, .string e, .int .i64 a, .int .i64 b])).run Tryd.prog W = .ok (.bool true) W := by
  go_simp

abbrev idnCells (i : Idn) : Array Value := #[.string ⟨i.nm.toArray⟩, .string ⟨i.em.toArray⟩, .int .i64 i.wh, .int .i64 i.zn]

set_option maxHeartbeats 8000000 in
set_option maxRecDepth 100000 in
theorem Tryd.IdentPrints_law (i : Idn) (s z : ByteArray) (w : World) (hr : Tryd.RdyN w) :
    Calls Tryd.prog 11 #[idnV i, .string s, .string z] w fun e w' => e = .returned (.bool true) ∧ Below w.heap.size w w' := by
  have HR := Lib.hid hr
  clear hr
  have hb0 : Below w.heap.size w (w.alloc (.cells (idnCells i) 50)) := (Below.refl _ w).alloc (Nat.le_refl _) _
  by_cases h1 : 500 < i.nm.length
  · have e1 : (500 : Int) < (i.nm.length : Int) := by omega
    go_enter Tryd.func11, Tryd.ntmps11
    go_wp2_with fail
    refine (Tryd.iawake _ (HR.out.below hb0)).mono ?_
    rintro e w1 ⟨rfl, hb1⟩
    go_wp2
    go_ret
    exact ⟨rfl, hb0.trans (hb1.mono hb0.size)⟩
  · have e1 : decide ((500 : Int) < (i.nm.length : Int)) = false := by simp; omega
    by_cases h2 : 500 < i.em.length
    · have e2 : (500 : Int) < (i.em.length : Int) := by omega
      go_enter Tryd.func11, Tryd.ntmps11
      go_wp2_with fail
      refine (Tryd.iawake _ (HR.out.below hb0)).mono ?_
      rintro e w1 ⟨rfl, hb1⟩
      go_wp2
      go_ret
      exact ⟨rfl, hb0.trans (hb1.mono hb0.size)⟩
    · have e2 : decide ((500 : Int) < (i.em.length : Int)) = false := by simp; omega
      by_cases h3 : 1000 < s.size
      · have e3 : (1000 : Int) < (s.size : Int) := by omega
        go_enter Tryd.func11, Tryd.ntmps11
        go_wp2_with fail
        refine (Tryd.iawake _ (HR.out.below hb0)).mono ?_
        rintro e w1 ⟨rfl, hb1⟩
        go_wp2
        go_ret
        exact ⟨rfl, hb0.trans (hb1.mono hb0.size)⟩
      · have e3 : decide ((1000 : Int) < (s.size : Int)) = false := by simp; omega
        by_cases h4 : 50 < z.size
        · have e4 : (50 : Int) < (z.size : Int) := by omega
          go_enter Tryd.func11, Tryd.ntmps11
          go_wp2_with fail
          refine (Tryd.iawake _ (HR.out.below hb0)).mono ?_
          rintro e w1 ⟨rfl, hb1⟩
          go_wp2
          go_ret
          exact ⟨rfl, hb0.trans (hb1.mono hb0.size)⟩
        · have e4 : decide ((50 : Int) < (z.size : Int)) = false := by simp; omega
          obtain ⟨p, pf, hp⟩ : ∃ p pf, parseI s.data.toList = (p, pf) := ⟨_, _, rfl⟩
          obtain ⟨q, qf, hq⟩ : ∃ q qf, takeZ z.data.toList = (q, qf) := ⟨_, _, rfl⟩
          have HP := Lib.hid hp
          have HQ := Lib.hid hq
          have HK0 := Lib.hid (heap_alloc_new w (.cells (idnCells i) 50 (0, 0)))
          have HL1 := Lib.hid h1
          have HL2 := Lib.hid h2
          have hs : s.size ≤ 1000 := by omega
          have hzs : z.size ≤ 50 := by omega
          clear hp hq h1 h2 h3 h4
          go_enter Tryd.func11, Tryd.ntmps11
          go_wp2_with fail
          refine (Tryd.iParse s _ (HR.out.below hb0) (by omega)).mono ?_
          rintro e w1 ⟨rfl, hb1⟩
          rw [HP.out]
          have hb1' := hb0.trans (hb1.mono hb0.size)
          have hk1 := (hb1.block w.heap.size (by simp)).trans HK0.out
          have HK1 := Lib.hid hk1
          have hs1 := hb1.size
          simp at hs1
          have hba : Below w.heap.size w (w1.alloc (.cells (idnCells p) 50)) := hb1'.alloc (by omega) _
          clear hk1
          go_wp2_with fail
          refine (Tryd.rParse06 s _ (HR.out.below hba).1 (by omega)).mono ?_
          rintro e w2 ⟨rfl, hb2⟩
          rw [HP.out]
          have hb2' := hba.trans (hb2.mono hba.size)
          have hk2 := (hb2.block w.heap.size (by simp; omega)).trans ((Below.heap_alloc w1 (.cells (idnCells p) 50 (0, 0)) w.heap.size (by omega)).trans HK1.out)
          have hx2 := (hb2.block w1.heap.size (by simp)).trans (heap_alloc_new w1 (.cells (idnCells p) 50 (0, 0)))
          have HK2 := Lib.hid hk2
          have HX2 := Lib.hid hx2
          have hs2 := hb2.size
          simp at hs2
          have hbb : Below w.heap.size w (w2.alloc (.cells (idnCells p) 50)) := hb2'.alloc (by omega) _
          clear hk2 hx2
          go_wp2_with fail
          refine (Tryd.iZone z _ (by omega)).mono ?_
          rintro e w3 ⟨rfl, hb3⟩
          rw [HQ.out]
          have hb3' := hbb.trans (hb3.mono hbb.size)
          go_wp2_with fail
          refine (Tryd.rZone06 z _ (by omega)).mono ?_
          rintro e w4 ⟨rfl, hb4⟩
          rw [HQ.out]
          have hb4' := hb3'.trans (hb4.mono hb3'.size)
          have hs3 := hb3.size
          have hs4 := hb4.size
          simp at hs3
          have hk4 : w4.heap[w.heap.size]? = some (.cells (idnCells i) 50 (0, 0)) :=
            (hb4.block _ (by omega)).trans ((hb3.block w.heap.size (by simp; omega)).trans ((Below.heap_alloc w2 (.cells (idnCells p) 50 (0, 0)) w.heap.size (by omega)).trans HK2.out))
          have hx4 : w4.heap[w1.heap.size]? = some (.cells (idnCells p) 50 (0, 0)) :=
            (hb4.block _ (by omega)).trans ((hb3.block w1.heap.size (by simp; omega)).trans ((Below.heap_alloc w2 (.cells (idnCells p) 50 (0, 0)) w1.heap.size (by omega)).trans HX2.out))
          have hy4 : w4.heap[w2.heap.size]? = some (.cells (idnCells p) 50 (0, 0)) :=
            (hb4.block _ (by omega)).trans ((hb3.block w2.heap.size (by simp)).trans (heap_alloc_new w2 _))
          have hc3 : ∀ W, Below w4.heap.size w4 W → W.cell? ⟨w.heap.size, 0, none⟩ = some (.string ⟨i.nm.toArray⟩) ∧ W.cell? ⟨w.heap.size, 1, none⟩ = some (.string ⟨i.em.toArray⟩) ∧ W.cell? ⟨w.heap.size, 2, none⟩ = some (.int .i64 i.wh) ∧ W.cell? ⟨w.heap.size, 3, none⟩ = some (.int .i64 i.zn) := fun W hW => ⟨blk_cell ((hW.block _ (by omega)).trans hk4) 0, blk_cell ((hW.block _ (by omega)).trans hk4) 1, blk_cell ((hW.block _ (by omega)).trans hk4) 2, blk_cell ((hW.block _ (by omega)).trans hk4) 3⟩
          have hc7 : ∀ W, Below w4.heap.size w4 W → W.cell? ⟨w1.heap.size, 0, none⟩ = some (.string ⟨p.nm.toArray⟩) ∧ W.cell? ⟨w1.heap.size, 1, none⟩ = some (.string ⟨p.em.toArray⟩) ∧ W.cell? ⟨w1.heap.size, 2, none⟩ = some (.int .i64 p.wh) ∧ W.cell? ⟨w1.heap.size, 3, none⟩ = some (.int .i64 p.zn) := fun W hW => ⟨blk_cell ((hW.block _ (by omega)).trans hx4) 0, blk_cell ((hW.block _ (by omega)).trans hx4) 1, blk_cell ((hW.block _ (by omega)).trans hx4) 2, blk_cell ((hW.block _ (by omega)).trans hx4) 3⟩
          have hc9 : ∀ W, Below w4.heap.size w4 W → W.cell? ⟨w2.heap.size, 0, none⟩ = some (.string ⟨p.nm.toArray⟩) ∧ W.cell? ⟨w2.heap.size, 1, none⟩ = some (.string ⟨p.em.toArray⟩) ∧ W.cell? ⟨w2.heap.size, 2, none⟩ = some (.int .i64 p.wh) ∧ W.cell? ⟨w2.heap.size, 3, none⟩ = some (.int .i64 p.zn) := fun W hW => ⟨blk_cell ((hW.block _ (by omega)).trans hy4) 0, blk_cell ((hW.block _ (by omega)).trans hy4) 1, blk_cell ((hW.block _ (by omega)).trans hy4) 2, blk_cell ((hW.block _ (by omega)).trans hy4) 3⟩
          have HC3 := Lib.hid hc3
          have HC7 := Lib.hid hc7
          have HC9 := Lib.hid hc9
          have HB4 := Lib.hid hb4'
          have heqi := Tryd.eqI ⟨p.nm.toArray⟩ ⟨p.em.toArray⟩ p.wh p.zn
          clear hk4 hx4 hy4 hc3 hc7 hc9 hb0 hb1 hb1' hb2 hb2' hb3 hb3' hb4 hb4' hba hbb HK0 HK1 HK2 HX2 hs1 hs2 hs3 hs4 e1 e2 e3 e4
          go_upto_region 7 with (fail)
          refine region_below (by kernel_rfl) (by kernel_rfl) ?_
          repeat (refine wpQuiet_step (fun K hK => ?_); go_simp; first | (refine hK _ ?_; clear hK K) | (refine ⟨_, fun _ _ => rfl, hK _ ?_⟩; clear hK K) | (apply Exists.intro; refine ⟨fun W hW => ?_, hK _ ?_⟩; (first | (obtain ⟨a0, a1, a2, a3⟩ := HC3.out W hW; simp only [a0, a1, a2, a3, Result.andThen]; exact ⟨trivial, rfl⟩) | (obtain ⟨a0, a1, a2, a3⟩ := HC7.out W hW; simp only [a0, a1, a2, a3, Result.andThen]; exact ⟨trivial, rfl⟩) | (obtain ⟨a0, a1, a2, a3⟩ := HC9.out W hW; simp only [a0, a1, a2, a3, Result.andThen]; exact ⟨trivial, rfl⟩)); clear hK K) | (apply Exists.intro; refine ⟨fun _ hbq => ?_, hK _ ?_⟩; (go_at_call 37; exact below_step hbq (Tryd.iawake _ (HR.out.below (HB4.out.trans (hbq.mono HB4.out.size))))); clear hK K) | (apply Exists.intro; refine ⟨fun _ hbq => ?_, hK _ ?_⟩; (go_at_call 42; exact below_step hbq (Tryd.iRight i _ (HR.out.below (HB4.out.trans (hbq.mono HB4.out.size))).1 (by have := HL1.out; omega) (by have := HL2.out; omega))); clear hK K) | (apply Exists.intro; refine ⟨fun _ hbq => ?_, hK _ ?_⟩; (go_at_call 43; exact below_step hbq (Tryd.rRight06 i _ (HR.out.below (HB4.out.trans (hbq.mono HB4.out.size))).1 (by have := HL1.out; omega) (by have := HL2.out; omega))); clear hK K) | (apply Exists.intro; refine ⟨fun _ hbq => ?_, hK _ ?_⟩; (go_at_call 44; exact below_step hbq (Tryd.iPrint i _ (HR.out.below (HB4.out.trans (hbq.mono HB4.out.size))) (by have := HL1.out; omega) (by have := HL2.out; omega))); clear hK K) | (apply Exists.intro; refine ⟨fun _ hbq => ?_, hK _ ?_⟩; (go_at_call 45; exact below_step hbq (Tryd.rPrint06 i _ (HR.out.below (HB4.out.trans (hbq.mono HB4.out.size))).1 (by have := HL1.out; omega) (by have := HL2.out; omega))); clear hK K))
          refine wpQuiet_nil ?_
          intro w5 hb5
          go_wp2
          go_ret
          exact ⟨rfl, HB4.out.trans (hb5.mono HB4.out.size)⟩
end Go.Proofs.YtlhbbpagjkjplaaDoor
