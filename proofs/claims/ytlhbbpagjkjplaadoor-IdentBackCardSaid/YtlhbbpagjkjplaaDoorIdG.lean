/- Contracts and plain laws for the proofs of this seat: the reference's names and zones. Conditions: those written at each theorem. -/
import Derived.Test.YtlhbbpagjkjplaaDoorIdF
import Derived.Test.YtlhbbpagjkjplaaDoorIdE
set_option linter.unusedVariables false
set_option linter.unusedSimpArgs false
namespace Go.Proofs.YtlhbbpagjkjplaaDoor
open Go.RowKit Go.Proofs

set_option maxHeartbeats 1000000 in
theorem Tryd.rbarred (c : UInt8) (w : World) :
    Calls Tryd.prog 131 #[.int .u8 (c.toNat : Int)] w fun e w' => e = .returned (.bool (barB c)) ∧ w' = w := by
  obtain ⟨x, hx⟩ : ∃ x : Nat, c.toNat = x := ⟨_, rfl⟩
  have hb : barB c = (x == 0 || x == 10 || x == 60 || x == 62) := by unfold barB; rw [hx]
  rw [hb, hx]
  clear hx hb
  by_cases h1 : x = 0
  · subst h1
    go_enter Tryd.func131, Tryd.ntmps131
    go_wp2
    go_ret
    exact ⟨rfl, rfl⟩
  · by_cases h2 : x = 10
    · subst h2
      go_enter Tryd.func131, Tryd.ntmps131
      go_wp2
      go_ret
      exact ⟨rfl, rfl⟩
    · by_cases h3 : x = 60
      · subst h3
        go_enter Tryd.func131, Tryd.ntmps131
        go_wp2
        go_ret
        exact ⟨rfl, rfl⟩
      · have e1 : ((x : Int) == 0) = false := beqI_f (by omega)
        have e2 : ((x : Int) == 10) = false := beqI_f (by omega)
        have e3 : ((x : Int) == 60) = false := beqI_f (by omega)
        have hv : (x == 0 || x == 10 || x == 60 || x == 62) = ((x : Int) == 62) := by
          rw [Bool.eq_iff_iff]; simp; omega
        rw [hv]
        clear hv h1 h2 h3
        go_enter Tryd.func131, Tryd.ntmps131
        go_wp2
        go_ret
        exact ⟨rfl, rfl⟩

theorem any_take_succ (s : ByteArray) (k : Nat) (h : k < s.size) (p : UInt8 → Bool) : (s.data.toList.take (k + 1)).any p = ((s.data.toList.take k).any p || p (s[k]'h)) := by
  rw [List.take_succ_eq_append_getElem (show k < s.data.toList.length from h), List.any_append]; simp [get_dl]
theorem any_of_take (l : By) (k : Nat) (p : UInt8 → Bool) (h : (l.take k).any p = true) : l.any p = true := by
  rw [← List.take_append_drop k l, List.any_append, h]; rfl
theorem head_get (s : ByteArray) (h : 0 < s.size) : s.data.toList.head? = some (s[0]'h) := by
  rw [get_dl, List.head?_eq_getElem?]; simp
theorem last_get (s : ByteArray) (h : s.size - 1 < s.size) : s.data.toList.getLast? = some (s[s.size - 1]'h) := by
  rw [get_dl, List.getLast?_eq_getElem?]
  rw [← size_dl]; simp

set_option maxHeartbeats 4000000 in
set_option maxRecDepth 100000 in
theorem Tryd.rword (s : ByteArray) (w : World) (hr : Tryd.Rdy w) (hs : s.size ≤ 1000000000) :
    Calls Tryd.prog 92 #[.string s] w fun e w' => e = .returned (.bool (calledB s.data.toList)) ∧ Below w.heap.size w w' := by
  obtain ⟨R, hR⟩ : ∃ R, calledB s.data.toList = R := ⟨_, rfl⟩
  rw [hR]
  have HRR := Lib.hid hR
  have HR := Lib.hid hr
  clear hr hR
  go_enter Tryd.func92, Tryd.ntmps92
  go_wp2
  go_loop [3] (fun i => ∃ k : Nat, k ≤ s.size ∧ i = .int .i64 k ∧ Hid ((s.data.toList.take k).any barB = false)) (fun i => s.size - (intOf i).toNat)
  case atStart => exact ⟨0, by omega, rfl, rfl⟩
  case round =>
    obtain ⟨k, hk, rfl, hall⟩ := hrel
    by_cases hlt : k < s.size
    · obtain ⟨x, hx⟩ : ∃ x : UInt8, s[k]'hlt = x := ⟨_, rfl⟩
      have hsn := any_take_succ s k hlt barB
      rw [hx] at hsn
      have HS := Lib.hid hsn
      clear hsn
      go_wp2_with fail
      refine (Tryd.rbarred x _).mono ?_
      rintro e w1 ⟨rfl, rfl⟩
      obtain ⟨v, hv⟩ : ∃ v, barB x = v := ⟨_, rfl⟩
      rw [hv]
      have HB := Lib.hid hv
      clear hv
      cases v with
      | true =>
        have hp : R = false := by
          rw [← HRR.out]
          have : s.data.toList.any barB = true := any_of_take _ (k + 1) _ (by rw [HS.out, HB.out]; simp)
          unfold calledB
          rw [this]; simp
        have HP := Lib.hid hp
        clear hp
        go_wp2
        go_ret
        exact ⟨ret_bool HP.out.symm, Below.refl _ _⟩
      | false =>
        go_wp2
        go_round
        case rel => exact ⟨k + 1, by omega, by go_num, by rw [HS.out, HB.out, hall.out]; rfl⟩
        case measure => simp [intOf]; omega
    · have hk : k = s.size := by omega
      rw [hk, size_dl, List.take_length] at hall
      have HA := Lib.hid hall.out
      clear hk hall
      by_cases h1 : s.size ≤ 200
      · have e1 : ¬ (200 : Int) < (s.size : Int) := by omega
        have HL := Lib.hid (show decide (s.data.toList.length ≤ 200) = true by rw [← size_dl]; simpa using h1)
        clear h1
        go_wp2_with fail
        refine (Tryd.utf8_ValidString s _ (by omega) HR.out.1).mono ?_
        rintro e w1 ⟨rfl, hb1⟩
        obtain ⟨v, hv⟩ : ∃ v, Lib.validD s.data.toList = v := ⟨_, rfl⟩
        rw [hv]
        have HV := Lib.hid hv
        clear hv
        cases v with
        | false =>
          go_wp2
          go_ret
          exact ⟨ret_bool (by rw [← HRR.out]; unfold calledB; rw [HV.out]; simp), hb1⟩
        | true =>
          by_cases h0 : s.size = 0
          · have hn := is_nil s h0
            have h2 : s.toList = [] := hn.1
            have hp : R = true := by
              rw [← HRR.out]
              unfold calledB
              rw [HL.out, HV.out, HA.out, hn.2]; rfl
            have HP := Lib.hid hp
            clear hp h0 hn
            go_wp2
            go_ret
            exact ⟨ret_bool HP.out.symm, hb1⟩
          · have h0' : 0 < s.size := by omega
            have h0'' : s.size - 1 < s.size := by omega
            obtain ⟨g1, g2⟩ := ne_nil s h0'
            obtain ⟨x, hx⟩ : ∃ x : UInt8, s[0]'h0' = x := ⟨_, rfl⟩
            obtain ⟨y, hy⟩ : ∃ y : UInt8, s[s.size - 1]'h0'' = y := ⟨_, rfl⟩
            have hh := head_get s h0'
            have hl := last_get s h0''
            rw [hx] at hh
            rw [hy] at hl
            have hp : R = ((!(x.toNat == 32)) && !(y.toNat == 32)) := by
              rw [← HRR.out]
              unfold calledB
              rw [HL.out, HV.out, HA.out, hh, hl]
              have q : ∀ c : UInt8, (some c == some (32 : UInt8)) = (c.toNat == 32) := fun c => by
                rw [Bool.eq_iff_iff]; simp [← UInt8.toNat_inj]
              rw [q, q]; simp
            have HP := Lib.hid hp
            clear hp h0 hh hl
            by_cases hx32 : x.toNat = 32
            · have e2 : ((x.toNat : Int) != 32) = false := by simp [hx32]
              have HX := Lib.hid hx32
              clear hx32
              go_wp2
              go_ret
              exact ⟨ret_bool (by rw [HP.out, HX.out]; rfl), hb1⟩
            · have e2 : ((x.toNat : Int) != 32) = true := by simp; omega
              have HX := Lib.hid hx32
              have e3 : ((y.toNat : Int) != 32) = !(y.toNat == 32) := by rw [Bool.eq_iff_iff]; simp; omega
              have HY := Lib.hid e3
              clear hx32 e3
              go_wp2
              go_ret
              exact ⟨ret_bool (by rw [HP.out, ← HY.out]; have := HX.out; simp [this]), hb1⟩
      · have e1 : (200 : Int) < (s.size : Int) := by omega
        have HL := Lib.hid (show decide (s.data.toList.length ≤ 200) = false by rw [← size_dl]; simpa using h1)
        clear h1
        go_wp2
        go_ret
        exact ⟨ret_bool (by rw [← HRR.out]; unfold calledB; rw [HL.out]; simp), Below.refl _ _⟩

set_option maxHeartbeats 4000000 in
set_option maxRecDepth 100000 in
theorem Tryd.rRight06 (i : Idn) (w : World) (hr : Tryd.Rdy w) (h1 : i.nm.length ≤ 1000000000) (h2 : i.em.length ≤ 1000000000) :
    Calls Tryd.prog 43 #[idnV i] w fun e w' => e = .returned (.bool (idnOk i)) ∧ Below w.heap.size w w' := by
  obtain ⟨nm, em, wh, zn⟩ := i
  obtain ⟨R, hR⟩ : ∃ R, idnOk ⟨nm, em, wh, zn⟩ = R := ⟨_, rfl⟩
  rw [hR]
  have HRR := Lib.hid hR
  have HR := Lib.hid hr
  clear hr hR
  dsimp only at h1 h2
  go_enter Tryd.func43, Tryd.ntmps43
  have hb0 : Below w.heap.size w (w.alloc (.cells #[.string ⟨nm.toArray⟩, .string ⟨em.toArray⟩, .int .i64 wh, .int .i64 zn] 50)) := (Below.refl _ w).alloc (Nat.le_refl _) _
  have HK0 := Lib.hid (heap_alloc_new w (.cells #[.string ⟨nm.toArray⟩, .string ⟨em.toArray⟩, .int .i64 wh, .int .i64 zn] 50 (0, 0)))
  go_wp2_with fail
  refine (Tryd.rword _ _ (HR.out.below hb0) (by show nm.length ≤ _; omega)).mono ?_
  rintro e w1 ⟨rfl, hb1⟩
  have hk1 := (hb1.block w.heap.size (by simp)).trans HK0.out
  have hb1' := hb0.trans (hb1.mono hb0.size)
  have c1 : w1.cell? ⟨w.heap.size, 1, none⟩ = some (.string ⟨em.toArray⟩) := blk_cell hk1 1
  have c2 : w1.cell? ⟨w.heap.size, 2, none⟩ = some (.int .i64 wh) := blk_cell hk1 2
  have HK1 := Lib.hid hk1
  rw [show (⟨nm.toArray⟩ : ByteArray).data.toList = nm from rfl]
  obtain ⟨v, hv⟩ : ∃ v, calledB nm = v := ⟨_, rfl⟩
  rw [hv]
  have HN := Lib.hid hv
  clear hv hk1
  cases v with
  | false =>
    go_wp2
    go_ret
    exact ⟨ret_bool (by rw [← HRR.out]; unfold idnOk; dsimp only; rw [HN.out]; simp), hb1'⟩
  | true =>
    go_wp2_with fail
    refine (Tryd.rword _ _ (HR.out.below hb1') (by show em.length ≤ _; omega)).mono ?_
    rintro e w2 ⟨rfl, hb2⟩
    have hk2 := (hb2.block w.heap.size (by have := hb1.size; simp at this; omega)).trans HK1.out
    have hb2' := hb1'.trans (hb2.mono hb1'.size)
    have d2 : w2.cell? ⟨w.heap.size, 2, none⟩ = some (.int .i64 wh) := blk_cell hk2 2
    have d3 : w2.cell? ⟨w.heap.size, 3, none⟩ = some (.int .i64 zn) := blk_cell hk2 3
    rw [show (⟨em.toArray⟩ : ByteArray).data.toList = em from rfl]
    obtain ⟨v, hv⟩ : ∃ v, calledB em = v := ⟨_, rfl⟩
    rw [hv]
    have HE := Lib.hid hv
    clear hv hk2
    cases v with
    | false =>
      go_wp2
      go_ret
      exact ⟨ret_bool (by rw [← HRR.out]; unfold idnOk; dsimp only; rw [HE.out]; simp), hb2'⟩
    | true =>
      by_cases g1 : 0 ≤ wh
      · by_cases g2 : wh ≤ 1099511627775
        · by_cases g3 : -840 ≤ zn
          · go_wp2
            go_ret
            exact ⟨ret_bool (by rw [← HRR.out]; unfold idnOk zonedB; dsimp only; rw [HN.out, HE.out, decide_eq_true g1, decide_eq_true g2, decide_eq_true g3]; simp), hb2'⟩
          · have g3' : decide (-840 ≤ zn) = false := by simpa using g3
            go_wp2
            go_ret
            exact ⟨ret_bool (by rw [← HRR.out]; unfold idnOk zonedB; dsimp only; rw [g3']; simp), hb2'⟩
        · have g2' : decide (wh ≤ 1099511627775) = false := by simpa using g2
          go_wp2
          go_ret
          exact ⟨ret_bool (by rw [← HRR.out]; unfold idnOk; dsimp only; rw [g2']; simp), hb2'⟩
      · have g1' : decide (0 ≤ wh) = false := by simpa using g1
        go_wp2
        go_ret
        exact ⟨ret_bool (by rw [← HRR.out]; unfold idnOk; dsimp only; rw [g1']; simp), hb2'⟩

set_option maxHeartbeats 2000000 in
set_option maxRecDepth 100000 in
theorem Tryd.rtwo (n : Int) (w : World) (h0 : 0 ≤ n) (h1 : n ≤ 99) :
    Calls Tryd.prog 95 #[.int .i64 n] w fun e w' => e = .returned (.string ⟨(twoL n.toNat).toArray⟩) ∧ Below w.heap.size w w' := by
  obtain ⟨x, rfl⟩ := Int.eq_ofNat_of_zero_le h0
  rw [Int.toNat_natCast]
  have hb : 2 = (twoL x).length ∧ (#[Value.int .u8 (48 + (x : Int) / 10), Value.int .u8 (48 + (x : Int) % 10)] : Array Value) = ((twoL x).map fun c => Value.int .u8 (c.toNat : Int)).toArray := by
    refine ⟨rfl, ?_⟩
    unfold twoL
    simp only [List.map_cons, List.map_nil]
    rw [u8d _ (by omega), u8d _ (by omega)]
    rw [show x / 10 % 10 = x / 10 by omega]
    simp
  obtain ⟨l, hl⟩ : ∃ l, twoL x = l := ⟨_, rfl⟩
  rw [hl] at hb
  rw [hl]
  clear hl
  have HB := Lib.hid hb
  clear hb
  go_enter Tryd.func95, Tryd.ntmps95
  go_wp2
  refine upon_conv_lit w l Tryd.underlying28 Tryd.underlying5 Tryd.underlying9 HB.out.1 HB.out.2 ?_
  go_wp2
  go_ret
  exact ⟨rfl, (Below.refl _ w).alloc (Nat.le_refl _) _⟩
end Go.Proofs.YtlhbbpagjkjplaaDoor
