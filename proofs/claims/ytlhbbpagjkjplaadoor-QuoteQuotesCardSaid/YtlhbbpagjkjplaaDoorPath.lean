/- Contracts and plain laws for the proofs of this seat. Conditions: those written at each theorem. -/
import Derived.Test.YtlhbbpagjkjplaaDoorUnq2
set_option linter.unusedVariables false
set_option linter.unusedSimpArgs false
/-! Paths. -/
namespace Go.Proofs.YtlhbbpagjkjplaaDoor
open Go.RowKit Go.Proofs

/-- What the walks ask of a world: the tables of utf8, and the cell of the limit. -/
def Tryd.Rdy (w : World) : Prop := Lib.Utf8Tabs 1 2 w ∧ ∃ m : Int, w.cell? ⟨0, 0, none⟩ = some (.int .i64 m)
theorem Tryd.Rdy.below {w w' : World} (h : Tryd.Rdy w) (hb : Below w.heap.size w w') : Tryd.Rdy w' := by
  obtain ⟨h1, m, h2⟩ := h
  refine ⟨Utf8Tabs_below h1 hb, m, ?_⟩
  rw [hb.cell]
  · exact h2
  · unfold World.cell? at h2
    rcases Nat.lt_or_ge 0 w.heap.size with h3 | h3
    · exact h3
    · simp [Array.getElem?_eq_none h3] at h2

def nameA (l : By) : Bool := !(l == []) && !(l == [46]) && !(l == [46, 46]) && !(Lib.equalFold l [46, 103, 105, 116])

set_option maxHeartbeats 4000000 in
set_option maxRecDepth 100000 in
theorem Tryd.qname_ascii (p : ByteArray) (w : World) (hs : p.size ≤ 1000000000) (ha : ∀ c ∈ p.data.toList, c.toNat < 128) :
    Calls Tryd.prog 106 #[.string p] w fun e w' => e = .returned (.bool (nameA p.data.toList)) ∧ w' = w := by
  have he : p.data.toList = p.toList := (toList_dl p).symm
  rw [he]
  by_cases h1 : p.toList = []
  · have hn : nameA p.toList = false := by rw [h1]; rfl
    have HN := Lib.hid hn
    clear hn he ha
    go_enter Tryd.func106, Tryd.ntmps106
    go_wp2
    go_ret
    exact ⟨ret_bool HN.out.symm, rfl⟩
  · by_cases h2 : p.toList = [46]
    · have hn : nameA p.toList = false := by rw [h2]; rfl
      have HN := Lib.hid hn
      clear hn he ha
      go_enter Tryd.func106, Tryd.ntmps106
      go_wp2
      go_ret
      exact ⟨ret_bool HN.out.symm, rfl⟩
    · by_cases h3 : p.toList = [46, 46]
      · have hn : nameA p.toList = false := by rw [h3]; rfl
        have HN := Lib.hid hn
        clear hn he ha
        go_enter Tryd.func106, Tryd.ntmps106
        go_wp2
        go_ret
        exact ⟨ret_bool HN.out.symm, rfl⟩
      · obtain ⟨b, hb⟩ : ∃ b, Lib.equalFold p.data.toList [46, 103, 105, 116] = b := ⟨_, rfl⟩
        have hn : nameA p.toList = !b := by rw [← hb, he]; unfold nameA; simp [h1, h2, h3]
        have HN := Lib.hid hn
        have HA := Lib.hid ha
        have HB := Lib.hid hb
        have g1 : p.toList.isEmpty = false := by simpa using h1
        have g2 : (p.toList == [46]) = false := by simpa using h2
        have g3 : (p.toList == [46, 46]) = false := by simpa using h3
        clear hn he ha hb
        go_enter Tryd.func106, Tryd.ntmps106
        go_wp2_with fail
        refine (Tryd.strings_EqualFold p ⟨#[46, 103, 105, 116]⟩ _ (by omega) (fun j b hj => HA.out b (List.mem_of_getElem? hj)) (fun j b hj => ?_)).mono ?_
        · have := List.mem_of_getElem? hj
          simp only [List.mem_cons, List.not_mem_nil, or_false] at this
          rcases this with rfl | rfl | rfl | rfl <;> decide
        rintro e w1 ⟨rfl, rfl⟩
        rw [show Lib.equalFold p.data.toList (⟨#[46, 103, 105, 116]⟩ : ByteArray).data.toList = b from HB.out]
        go_wp2
        go_ret
        exact ⟨ret_bool HN.out.symm, rfl⟩

/-- May a path be: over a law of its parts' names. -/
def pathB (nm : By → Bool) (s : ByteArray) : Bool :=
  !decide (400 < s.size) && !decide (0 ≤ Lib.indexByte s.data.toList 0) && Lib.validD s.data.toList && (Lib.splitB ⟨#[47]⟩ 0 (Lib.countB s ⟨#[47]⟩) s).all (fun p => nm p.data.toList) && decide (Lib.countB s ⟨#[47]⟩ + 1 ≤ 16)

set_option maxHeartbeats 8000000 in
set_option maxRecDepth 100000 in
theorem Tryd.qPath (nm : By → Bool) (s : ByteArray) (w : World) (hr : Tryd.Rdy w)
    (hn : ∀ p ∈ Lib.splitB ⟨#[47]⟩ 0 (Lib.countB s ⟨#[47]⟩) s, ∀ w, Tryd.Rdy w → Calls Tryd.prog 106 #[.string p] w fun e w' => e = .returned (.bool (nm p.data.toList)) ∧ Below w.heap.size w w') :
    Calls Tryd.prog 56 #[.string s] w fun e w' => e = .returned (.bool (pathB nm s)) ∧ Below w.heap.size w w' := by
  have hR := Lib.hid hr
  by_cases h1 : 400 < s.size
  · have hp : pathB nm s = false := by unfold pathB; rw [decide_eq_true h1]; rfl
    have e1 : (400 : Int) < (s.size : Int) := by omega
    have HP := Lib.hid hp
    clear hp hn hr h1
    go_enter Tryd.func56, Tryd.ntmps56
    go_wp2
    go_ret
    exact ⟨ret_bool HP.out.symm, Below.refl _ _⟩
  · have e1 : ¬ (400 : Int) < (s.size : Int) := by omega
    have e1' : decide (400 < s.size) = false := by simpa using h1
    obtain ⟨c, hc⟩ : ∃ c, decide (0 ≤ Lib.indexByte s.data.toList 0) = c := ⟨_, rfl⟩
    have HC := Lib.hid hc
    cases c with
    | true =>
      have hp : pathB nm s = false := by unfold pathB; rw [hc]; simp
      have HP := Lib.hid hp
      clear hp hn hr h1 hc e1'
      go_enter Tryd.func56, Tryd.ntmps56
      go_wp2_with fail
      refine (Tryd.strings_Contains_one s 0 _).mono ?_
      rintro e w1 ⟨rfl, rfl⟩
      rw [HC.out]
      go_wp2
      go_ret
      exact ⟨ret_bool HP.out.symm, Below.refl _ _⟩
    | false =>
      obtain ⟨v, hv⟩ : ∃ v, Lib.validD s.data.toList = v := ⟨_, rfl⟩
      have HV := Lib.hid hv
      have hs : s.size ≤ 400 := by omega
      cases v with
      | false =>
        have hp : pathB nm s = false := by unfold pathB; rw [hv]; simp
        have HP := Lib.hid hp
        clear hp hn hr h1 hc hv e1'
        go_enter Tryd.func56, Tryd.ntmps56
        go_wp2_with fail
        refine (Tryd.strings_Contains_one s 0 _).mono ?_
        rintro e w1 ⟨rfl, rfl⟩
        rw [HC.out]
        go_wp2_with fail
        refine (Tryd.utf8_ValidString s _ (by omega) hR.out.1).mono ?_
        rintro e w2 ⟨rfl, hb2⟩
        rw [HV.out]
        go_wp2
        go_ret
        exact ⟨ret_bool HP.out.symm, hb2⟩
      | true =>
        obtain ⟨N, hN⟩ : ∃ N, Lib.countB s ⟨#[47]⟩ = N := ⟨_, rfl⟩
        obtain ⟨L, hL⟩ : ∃ L, Lib.splitB ⟨#[47]⟩ 0 N s = L := ⟨_, rfl⟩
        have hlen : L.length = N + 1 := by rw [← hL]; exact Lib.splitB_all ⟨#[47]⟩ (by decide) 0 N s hN
        have hNs : N ≤ 400 := by
          have := Lib.countB_le ⟨#[47]⟩ (by decide) s.size s (Nat.le_refl _)
          omega
        have hp : pathB nm s = (L.all (fun p => nm p.data.toList) && decide (N + 1 ≤ 16)) := by
          unfold pathB; rw [e1', hc, hv, hN, hL]; simp
        obtain ⟨PB, hPB⟩ : ∃ PB, pathB nm s = PB := ⟨_, rfl⟩
        rw [hN, hL] at hn
        rw [hPB] at hp ⊢
        have HP := Lib.hid hp
        have HN := Lib.hid hN
        have HL := Lib.hid hL
        have HF := Lib.hid hn
        obtain ⟨m, hm⟩ := hr.2
        have HM := Lib.hid hm
        clear hp hn hr h1 hc hv e1' hN hL hPB hm
        go_enter Tryd.func56, Tryd.ntmps56
        go_wp2_with fail
        refine (Tryd.strings_Contains_one s 0 _).mono ?_
        rintro e w1 ⟨rfl, rfl⟩
        rw [HC.out]
        go_wp2_with fail
        refine (Tryd.utf8_ValidString s _ (by omega) hR.out.1).mono ?_
        rintro e w2 ⟨rfl, hb2⟩
        rw [HV.out]
        have hR2 := Lib.hid (Tryd.Rdy.below hR.out hb2)
        obtain ⟨m2, hm2⟩ := hR2.out.2
        have HM2 := Lib.hid hm2
        clear hm2
        go_wp2_with fail
        refine (Tryd.strings_Split s ⟨#[47]⟩ m2 _ (by omega) HM2.out (by decide)).mono ?_
        rintro e w3 ⟨rfl, rfl⟩
        rw [HN.out, HL.out]
        have hsz2 := hb2.size
        go_wp2
        go_loopw [22] (fun i wr => ∃ k : Nat, k ≤ N + 1 ∧ i = .int .i64 (k : Int) ∧ w2.heap.size + 1 ≤ wr.heap.size ∧ Below w1.heap.size w1 wr ∧ Hid ((L.take k).all (fun p => nm p.data.toList) = true) ∧ wr.heap[w2.heap.size]? = some (.cells (L.map Value.string).toArray 9 (0, 0))) (fun i _ => N + 1 - (intOf i).toNat)
        case atStart => exact ⟨0, by omega, rfl, by simp, hb2.alloc hsz2 _, Lib.hid rfl, heap_alloc_new w2 _⟩
        case round =>
          obtain ⟨k, hk, rfl, hsz, hbb, HT, hcell⟩ := hrel
          by_cases hlt : k < N + 1
          · have hkL : k < L.length := by omega
            obtain ⟨p, hp⟩ : ∃ p, L[k]'hkL = p := ⟨_, rfl⟩
            have hload : wr.cell? ⟨w2.heap.size, k, none⟩ = some (.string p) := by
              rw [cell_of_row _ _ k _ _ _ hcell, ← hp]
              simp [hkL]
            have hpm : p ∈ L := by rw [← hp]; exact List.getElem_mem hkL
            have htk : (L.take (k + 1)).all (fun p => nm p.data.toList) = nm p.data.toList := by
              rw [List.take_succ_eq_append_getElem hkL, List.all_append, HT.out, hp]; simp
            have HTK := Lib.hid htk
            have HPM := Lib.hid hpm
            have hall : nm p.data.toList = false → PB = false := by
              intro h
              rw [HP.out]
              have : L.all (fun p => nm p.data.toList) = false := by
                rw [Bool.eq_false_iff]; intro h2; rw [List.all_eq_true] at h2; rw [h2 p hpm] at h; cases h
              rw [this]; rfl
            have HALL := Lib.hid hall
            clear hp hpm htk hall
            have HRR := Lib.hid (Tryd.Rdy.below hR.out hbb)
            go_wp2_with fail
            refine (HF.out p HPM.out _ HRR.out).mono ?_
            rintro e w4 ⟨rfl, hb4⟩
            obtain ⟨b, hb⟩ : ∃ b, nm p.data.toList = b := ⟨_, rfl⟩
            rw [hb]
            have HB := Lib.hid hb
            clear hb
            have hsz4 := hb4.size
            cases b with
            | true =>
              go_wp2
              go_roundw
              case rel => exact ⟨k + 1, by omega, by go_num, by omega, hbb.trans (hb4.mono hbb.size), Lib.hid (by rw [HTK.out]; exact HB.out), (hb4.block _ (by omega)).trans hcell⟩
              case measure => simp [intOf]; omega
            | false =>
              go_wp2
              go_ret
              exact ⟨ret_bool (HALL.out HB.out).symm, hbb.trans (hb4.mono hbb.size)⟩
          · obtain rfl : k = N + 1 := by omega
            have hv : PB = decide (N + 1 ≤ 16) := by
              have h2 := HT.out
              rw [List.take_of_length_le (by omega)] at h2
              rw [HP.out, h2]; rfl
            have HVV := Lib.hid hv
            clear hv
            by_cases h16 : N + 1 ≤ 16
            · have h16' : (N : Int) + 1 ≤ 16 := by omega
              go_wp2
              go_ret
              exact ⟨ret_bool (by rw [HVV.out]; simp; omega), hbb⟩
            · have h16' : ¬ (N : Int) + 1 ≤ 16 := by omega
              go_wp2
              go_ret
              exact ⟨ret_bool (by rw [HVV.out]; simp; omega), hbb⟩
end Go.Proofs.YtlhbbpagjkjplaaDoor
