/- Contracts and plain laws for the proofs of this seat: names, numbers and zones of idents. Conditions: those written at each theorem. -/
import Derived.Test.YtlhbbpagjkjplaaDoorPath
import Derived.Test.YtlhbbpagjkjplaaDoorIdP
import Derived.WalkSmall
set_option linter.unusedVariables false
set_option linter.unusedSimpArgs false
namespace Go.Proofs.YtlhbbpagjkjplaaDoor
open Go.RowKit Go.Proofs

/-- What the walks ask of a world, with the tables of numbers. -/
def Tryd.RdyN (w : World) : Prop := Tryd.Rdy w ∧ Lib.TabIs Tryd.prog w "internal/strconv.uint64pow10" .u64 Lib.pow10Tab ∧
  (∃ ev, w.cell? ⟨6, 0, none⟩ = some ev ∧ (ev = .nilIface ∨ ∃ te pe, ev = .iface te pe)) ∧ (∃ ev, w.cell? ⟨7, 0, none⟩ = some ev ∧ (ev = .nilIface ∨ ∃ te pe, ev = .iface te pe))
theorem lt_of_cell {w : World} {b o : Nat} {v : Value} (h : w.cell? ⟨b, o, none⟩ = some v) : b < w.heap.size := by
  unfold World.cell? at h
  rcases Nat.lt_or_ge b w.heap.size with h3 | h3
  · exact h3
  · simp [Array.getElem?_eq_none h3] at h
theorem tab_below {w w' : World} {n : String} {k : IntKind} {zs : List Int} (h : Lib.TabIs Tryd.prog w n k zs) (hb : Below w.heap.size w w') : Lib.TabIs Tryd.prog w' n k zs := by
  unfold Lib.TabIs World.var? at h ⊢
  cases hg : Tryd.prog.globalNamed n with
  | none => rw [hg] at h; exact h
  | some g =>
    rw [hg] at h
    simp only [Option.bind_some] at h ⊢
    rcases Nat.lt_or_ge g w.heap.size with h3 | h3
    · rw [hb.block g h3]; exact h
    · rw [Array.getElem?_eq_none h3] at h; simp at h
theorem Tryd.RdyN.below {w w' : World} (h : Tryd.RdyN w) (hb : Below w.heap.size w w') : Tryd.RdyN w' := by
  obtain ⟨h1, h2, ⟨e1, h3, h4⟩, ⟨e2, h5, h6⟩⟩ := h
  exact ⟨h1.below hb, tab_below h2 hb, ⟨e1, by rw [hb.cell (lt_of_cell h3)]; exact h3, h4⟩, ⟨e2, by rw [hb.cell (lt_of_cell h5)]; exact h5, h6⟩⟩

theorem blk_cell {W : World} {b : Nat} {cs : Array Value} {T : TypeId} {m : Nat × Nat} (h : W.heap[b]? = some (.cells cs T m)) (k : Nat) : W.cell? ⟨b, k, none⟩ = cs[k]? := cell_of_row W b k cs T m h

theorem hasPrefix_one (l : By) (c : UInt8) : Lib.hasPrefix l [c] = (l.head? == some c) := by
  cases l with
  | nil => rfl
  | cons x r =>
    unfold Lib.hasPrefix
    rw [Bool.eq_iff_iff]
    simp [List.isPrefixOf]
    exact ⟨fun h => h.symm, fun h => h.symm⟩
theorem hasSuffix_one (l : By) (c : UInt8) : Lib.hasSuffix l [c] = (l.getLast? == some c) := by
  have h := hasPrefix_one l.reverse c
  rw [List.head?_reverse] at h
  rw [← h]
  rfl

theorem Tryd.ibad (w : World) : PredAt Tryd.prog 122 #[] encR (fun r => decide (r = 0) || decide (r = 10) || decide (r = 60) || decide (r = 62)) w := fun W r _ => by
  unfold FnGives
  show Calls Tryd.prog 122 #[.int .i32 (r : Int)] W fun e w' => e = .returned (.bool (decide (r = 0) || decide (r = 10) || decide (r = 60) || decide (r = 62))) ∧ ∃ q, w' = W.drewN q
  by_cases h1 : r = 0
  · subst h1
    go_enter Tryd.func122, Tryd.ntmps122
    go_wp2
    go_ret
    exact ⟨rfl, 0, rfl⟩
  · by_cases h2 : r = 10
    · subst h2
      go_enter Tryd.func122, Tryd.ntmps122
      go_wp2
      go_ret
      exact ⟨rfl, 0, rfl⟩
    · by_cases h3 : r = 60
      · subst h3
        go_enter Tryd.func122, Tryd.ntmps122
        go_wp2
        go_ret
        exact ⟨rfl, 0, rfl⟩
      · have e1 : ((r : Int) == 0) = false := beqI_f (by omega)
        have e2 : ((r : Int) == 10) = false := beqI_f (by omega)
        have e3 : ((r : Int) == 60) = false := beqI_f (by omega)
        have hv : (decide (r = 0) || decide (r = 10) || decide (r = 60) || decide (r = 62)) = ((r : Int) == 62) := by
          rw [Bool.eq_iff_iff]; simp; omega
        rw [hv]
        clear hv h1 h2 h3
        go_enter Tryd.func122, Tryd.ntmps122
        go_wp2
        go_ret
        exact ⟨rfl, 0, rfl⟩

theorem bad_any (s : ByteArray) : decide (0 ≤ Lib.idxFunc (fun r => decide (r = 0) || decide (r = 10) || decide (r = 60) || decide (r = 62)) true s) = s.data.toList.any barB := by
  refine idxFunc_any _ barB false ?_ ?_ ?_ s
  · intro c h; unfold barB; rw [Bool.eq_iff_iff]; simp
  · intro r h; simp; omega
  · intro c h; unfold barB; simp; omega

set_option maxHeartbeats 4000000 in
set_option maxRecDepth 100000 in
theorem Tryd.called (s : ByteArray) (w : World) (hr : Tryd.Rdy w) (hs : s.size ≤ 1000000000) :
    Calls Tryd.prog 91 #[.string s] w fun e w' => e = .returned (.bool (calledB s.data.toList)) ∧ Below w.heap.size w w' := by
  obtain ⟨R, hR⟩ : ∃ R, calledB s.data.toList = R := ⟨_, rfl⟩
  rw [hR]
  have HRR := Lib.hid hR
  have HR := Lib.hid hr
  clear hr hR
  by_cases h1 : s.size ≤ 200
  · have e1 : (s.size : Int) ≤ 200 := by omega
    have HL := Lib.hid (show decide (s.data.toList.length ≤ 200) = true by rw [← size_dl]; simpa using h1)
    clear h1
    go_enter Tryd.func91, Tryd.ntmps91
    go_wp2_with fail
    refine (Tryd.utf8_ValidString s _ (by omega) HR.out.1).mono ?_
    rintro e w1 ⟨rfl, hb1⟩
    obtain ⟨v, hv⟩ : ∃ v, Lib.validD s.data.toList = v := ⟨_, rfl⟩
    rw [hv]
    have HV := Lib.hid hv
    clear hv
    cases v with
    | false =>
      go_wp2
      go_ret
      exact ⟨ret_bool (by rw [← HRR.out]; unfold calledB; rw [HV.out]; simp), hb1⟩
    | true =>
      go_wp2_with fail
      refine (Tryd.strings_ContainsFunc 122 #[] (enters_of Tryd.func122 (by kernel_rfl) rfl) _ s _ (Tryd.ibad _)).mono ?_
      rintro e w2 ⟨rfl, hb2⟩
      rw [bad_any]
      have hb12 := hb1.trans (hb2.mono hb1.size)
      obtain ⟨v, hv⟩ : ∃ v, s.data.toList.any barB = v := ⟨_, rfl⟩
      rw [hv]
      have HA := Lib.hid hv
      clear hv
      cases v with
      | true =>
        go_wp2
        go_ret
        exact ⟨ret_bool (by rw [← HRR.out]; unfold calledB; rw [HA.out]; simp), hb12⟩
      | false =>
        go_wp2_with fail
        refine (Tryd.strings_HasPrefix s ⟨#[32]⟩ _).mono ?_
        rintro e w3 ⟨rfl, rfl⟩
        rw [show (⟨#[32]⟩ : ByteArray).data.toList = [32] from rfl, hasPrefix_one]
        obtain ⟨v, hv⟩ : ∃ v, (s.data.toList.head? == some 32) = v := ⟨_, rfl⟩
        rw [hv]
        have HP := Lib.hid hv
        clear hv
        cases v with
        | true =>
          go_wp2
          go_ret
          exact ⟨ret_bool (by rw [← HRR.out]; unfold calledB; rw [HP.out]; simp), hb12⟩
        | false =>
          go_wp2_with fail
          refine (Tryd.strings_HasSuffix s ⟨#[32]⟩ _ (by omega)).mono ?_
          rintro e w4 ⟨rfl, rfl⟩
          rw [show (⟨#[32]⟩ : ByteArray).data.toList = [32] from rfl, hasSuffix_one]
          obtain ⟨v, hv⟩ : ∃ v, (s.data.toList.getLast? == some 32) = v := ⟨_, rfl⟩
          rw [hv]
          have HS := Lib.hid hv
          clear hv
          go_wp2
          go_ret
          exact ⟨ret_bool (by rw [← HRR.out]; unfold calledB; rw [HL.out, HV.out, HA.out, HP.out, HS.out]; simp), hb12⟩
  · have e1 : ¬ (s.size : Int) ≤ 200 := by omega
    have HL := Lib.hid (show decide (s.data.toList.length ≤ 200) = false by rw [← size_dl]; simpa using h1)
    clear h1
    go_enter Tryd.func91, Tryd.ntmps91
    go_wp2
    go_ret
    exact ⟨ret_bool (by rw [← HRR.out]; unfold calledB; rw [HL.out]; simp), Below.refl _ _⟩

set_option maxHeartbeats 1000000 in
theorem Tryd.zoned (z : Int) (w : World) :
    Calls Tryd.prog 89 #[.int .i64 z] w fun e w' => e = .returned (.bool (zonedB z)) ∧ w' = w := by
  by_cases h1 : -840 ≤ z
  · have hz : zonedB z = decide (z ≤ 840) := by unfold zonedB; rw [decide_eq_true h1]; rfl
    rw [hz]
    clear hz
    go_enter Tryd.func89, Tryd.ntmps89
    go_wp2
    go_ret
    exact ⟨rfl, rfl⟩
  · have hz : zonedB z = false := by unfold zonedB; rw [decide_eq_false h1]; rfl
    rw [hz]
    clear hz
    go_enter Tryd.func89, Tryd.ntmps89
    go_wp2
    go_ret
    exact ⟨rfl, rfl⟩

abbrev idnV (i : Idn) : Value := .agg #[.string ⟨i.nm.toArray⟩, .string ⟨i.em.toArray⟩, .int .i64 i.wh, .int .i64 i.zn]

set_option maxHeartbeats 4000000 in
set_option maxRecDepth 100000 in
theorem Tryd.iRight (i : Idn) (w : World) (hr : Tryd.Rdy w) (h1 : i.nm.length ≤ 1000000000) (h2 : i.em.length ≤ 1000000000) :
    Calls Tryd.prog 42 #[idnV i] w fun e w' => e = .returned (.bool (idnOk i)) ∧ Below w.heap.size w w' := by
  obtain ⟨nm, em, wh, zn⟩ := i
  obtain ⟨R, hR⟩ : ∃ R, idnOk ⟨nm, em, wh, zn⟩ = R := ⟨_, rfl⟩
  rw [hR]
  have HRR := Lib.hid hR
  have HR := Lib.hid hr
  clear hr hR
  dsimp only at h1 h2
  go_enter Tryd.func42, Tryd.ntmps42
  have hb0 : Below w.heap.size w (w.alloc (.cells #[.string ⟨nm.toArray⟩, .string ⟨em.toArray⟩, .int .i64 wh, .int .i64 zn] 50)) := (Below.refl _ w).alloc (Nat.le_refl _) _
  have hk0 := heap_alloc_new w (.cells #[.string ⟨nm.toArray⟩, .string ⟨em.toArray⟩, .int .i64 wh, .int .i64 zn] 50 (0, 0))
  have HK0 := Lib.hid hk0
  clear hk0
  go_wp2_with fail
  refine (Tryd.called _ _ (HR.out.below hb0) (by show nm.length ≤ _; omega)).mono ?_
  rintro e w1 ⟨rfl, hb1⟩
  have hk1 := (hb1.block w.heap.size (by simp)).trans HK0.out
  have hb1' := hb0.trans (hb1.mono hb0.size)
  have c1 : w1.cell? ⟨w.heap.size, 1, none⟩ = some (.string ⟨em.toArray⟩) := blk_cell hk1 1
  have c2 : w1.cell? ⟨w.heap.size, 2, none⟩ = some (.int .i64 wh) := blk_cell hk1 2
  have HK1 := Lib.hid hk1
  rw [show (⟨nm.toArray⟩ : ByteArray).data.toList = nm from rfl]
  obtain ⟨v, hv⟩ : ∃ v, calledB nm = v := ⟨_, rfl⟩
  rw [hv]
  have HN := Lib.hid hv
  clear hv hk1
  cases v with
  | false =>
    go_wp2
    go_ret
    exact ⟨ret_bool (by rw [← HRR.out]; unfold idnOk; dsimp only; rw [HN.out]; simp), hb1'⟩
  | true =>
    go_wp2_with fail
    refine (Tryd.called _ _ (HR.out.below hb1') (by show em.length ≤ _; omega)).mono ?_
    rintro e w2 ⟨rfl, hb2⟩
    have hk2 := (hb2.block w.heap.size (by have := hb1.size; simp at this; omega)).trans HK1.out
    have hb2' := hb1'.trans (hb2.mono hb1'.size)
    have d2 : w2.cell? ⟨w.heap.size, 2, none⟩ = some (.int .i64 wh) := blk_cell hk2 2
    have d3 : w2.cell? ⟨w.heap.size, 3, none⟩ = some (.int .i64 zn) := blk_cell hk2 3
    rw [show (⟨em.toArray⟩ : ByteArray).data.toList = em from rfl]
    obtain ⟨v, hv⟩ : ∃ v, calledB em = v := ⟨_, rfl⟩
    rw [hv]
    have HE := Lib.hid hv
    clear hv hk2
    cases v with
    | false =>
      go_wp2
      go_ret
      exact ⟨ret_bool (by rw [← HRR.out]; unfold idnOk; dsimp only; rw [HE.out]; simp), hb2'⟩
    | true =>
      by_cases g1 : 0 ≤ wh
      · by_cases g2 : wh ≤ 1099511627775
        · go_wp2_with fail
          refine (Tryd.zoned zn _).mono ?_
          rintro e w3 ⟨rfl, rfl⟩
          obtain ⟨v, hv⟩ : ∃ v, zonedB zn = v := ⟨_, rfl⟩
          rw [hv]
          have HZ := Lib.hid hv
          clear hv
          go_wp2
          go_ret
          exact ⟨ret_bool (by rw [← HRR.out]; unfold idnOk; dsimp only; rw [HN.out, HE.out, HZ.out, decide_eq_true g1, decide_eq_true g2]; simp), hb2'⟩
        · have g2' : decide (wh ≤ 1099511627775) = false := by simpa using g2
          go_wp2
          go_ret
          exact ⟨ret_bool (by rw [← HRR.out]; unfold idnOk; dsimp only; rw [g2']; simp), hb2'⟩
      · have g1' : decide (0 ≤ wh) = false := by simpa using g1
        go_wp2
        go_ret
        exact ⟨ret_bool (by rw [← HRR.out]; unfold idnOk; dsimp only; rw [g1']; simp), hb2'⟩
end Go.Proofs.YtlhbbpagjkjplaaDoor
