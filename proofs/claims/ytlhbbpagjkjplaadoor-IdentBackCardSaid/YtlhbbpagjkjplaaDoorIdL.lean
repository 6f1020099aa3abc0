/- Contracts and plain laws for the proofs of this seat: what a program that does nothing does not answer (idents). Conditions: those written at each theorem. -/
import Derived.Test.YtlhbbpagjkjplaaDoorIdE
set_option linter.unusedVariables false
set_option linter.unusedSimpArgs false
namespace Go.Proofs.YtlhbbpagjkjplaaDoor
open Go.RowKit Go.Proofs

theorem Tryd.badC (r : Nat) (w : World) : Calls Tryd.prog 122 #[.int .i32 (r : Int)] w fun e w' => e = .returned (.bool (decide (r = 0) || decide (r = 10) || decide (r = 60) || decide (r = 62))) ∧ w' = w := by
  by_cases h1 : r = 0
  · subst h1
    go_enter Tryd.func122, Tryd.ntmps122
    go_wp2
    go_ret
    exact ⟨rfl, rfl⟩
  · by_cases h2 : r = 10
    · subst h2
      go_enter Tryd.func122, Tryd.ntmps122
      go_wp2
      go_ret
      exact ⟨rfl, rfl⟩
    · by_cases h3 : r = 60
      · subst h3
        go_enter Tryd.func122, Tryd.ntmps122
        go_wp2
        go_ret
        exact ⟨rfl, rfl⟩
      · have e1 : ((r : Int) == 0) = false := beqI_f (by omega)
        have e2 : ((r : Int) == 10) = false := beqI_f (by omega)
        have e3 : ((r : Int) == 60) = false := beqI_f (by omega)
        have hv : (decide (r = 0) || decide (r = 10) || decide (r = 60) || decide (r = 62)) = ((r : Int) == 62) := by
          rw [Bool.eq_iff_iff]; simp; omega
        rw [hv]
        clear hv h1 h2 h3
        go_enter Tryd.func122, Tryd.ntmps122
        go_wp2
        go_ret
        exact ⟨rfl, rfl⟩

theorem clean_at (pos : Nat) (h : pos < 3) : ∃ c : UInt8, ([32, 97, 60] : By).getD pos 0 = c ∧ (c.toNat = 32 ∨ c.toNat = 97 ∨ c.toNat = 60) ∧ (([32, 97, 60] : By).take (pos + 1)).filter (fun c => c != 60) = (([32, 97, 60] : By).take pos).filter (fun c => c != 60) ++ (if c.toNat = 60 then [] else [c]) := by
  match pos, h with
  | 0, _ => exact ⟨32, rfl, by decide, by decide⟩
  | 1, _ => exact ⟨97, rfl, by decide, by decide⟩
  | 2, _ => exact ⟨60, rfl, by decide, by decide⟩

set_option maxHeartbeats 8000000 in
set_option maxRecDepth 100000 in
theorem Tryd.Clean_awake (s : ByteArray) (hsl : s.data.toList = [32, 97, 60]) (w : World) (hr : Tryd.Rdy w) :
    Calls Tryd.prog 84 #[.string s] w fun e w' => e = .returned (.string ⟨([97] : By).toArray⟩) ∧ Below w.heap.size w w' := by
  have HR := Lib.hid hr
  have HSL := Lib.hid hsl
  have hs1 : s.size ≤ 3 := by rw [size_dl, hsl]; exact Nat.le_refl _
  have hs2 : 3 ≤ s.size := by rw [size_dl, hsl]; exact Nat.le_refl _
  clear hr hsl
  go_enter Tryd.func84, Tryd.ntmps84
  go_wp2
  go_loopw [] (fun wr => ∃ (pos : Nat) (acc : By), pos ≤ 3 ∧ acc.length ≤ pos ∧ Tryd.IsB w.heap.size w.heap.size acc wr ∧ wr.heap[w.heap.size + 1]? = some (.stringIter s pos) ∧ Below w.heap.size w wr ∧ Hid (acc = (([32, 97, 60] : By).take pos).filter (fun c => c != 60))) (fun wr => 3 - wr.iterPos (w.heap.size + 1))
  case atStart =>
    refine ⟨0, [], by omega, by simp, ?_, ?_, ?_, rfl⟩
    · exact (Tryd.IsB.new w).alloc _
    · have := World.iter_heap (w.alloc (.cells #[.pointer none, .slice none 0 0] 92)) s 0
      simpa using this
    · exact ((Below.refl _ w).alloc (Nat.le_refl _) _).alloc (by simp) _
  case round =>
    obtain ⟨pos, acc, hpos, hal, hI, hit, hbw, HA⟩ := hrel
    have hsz : w.heap.size + 1 < wr.heap.size := (Array.getElem?_eq_some_iff.1 hit).1
    by_cases hp : pos < s.size
    · have hIn := fun p => hI.iterAt hit p
      have hitn := fun p => Lib.iterAt_heap wr (w.heap.size + 1) s pos p hit
      have hbn := fun p => Lib.below_iterAt hbw (k := w.heap.size + 1) (by omega) s p
      have hszn : ∀ p, w.heap.size + 1 < (wr.iterAt (w.heap.size + 1) s p).heap.size := fun p => by rw [Lib.iterAt_size]; omega
      obtain ⟨c, hc0, hc1, hc2⟩ := clean_at pos (by omega)
      have hx : s[pos]'hp = c := by rw [getD_of_get s _ pos hp HSL.out]; exact hc0
      have hnx : ∀ ty, (Instr.next (.pointer (some ⟨w.heap.size + 1, 0, none⟩)) true ty).run Tryd.prog wr = _ := fun ty => (Lib.run_next_any_at wr (w.heap.size + 1) s pos ty hit hp).trans (by rw [dec_ascii s pos hp c hx (by omega)])
      have hdg : Lib.decodeGo (s.extract pos s.size) = (c.toNat, 1) := by
        unfold Lib.decodeGo
        rw [if_neg (by rw [ByteArray.size_extract]; omega), Lib.tail_decode, Nat.add_zero, dec_ascii s pos hp c hx (by omega)]
      have hex : (s.extract pos (pos + 1)).data.toList = [c] := by
        rw [Lib.extract_data]
        rw [List.drop_eq_getElem_cons (show pos < s.data.toList.length from hp), ← get_dl s pos hp, hx]
        simp
      have HDG := Lib.hid hdg
      have HC2 := Lib.hid hc2
      have HEX := Lib.hid hex
      clear hdg hc2 hex hc0
      obtain ⟨x, hxn⟩ : ∃ x : Nat, c.toNat = x := ⟨_, rfl⟩
      rw [hxn] at hnx hc1
      have HXN := Lib.hid hxn
      have hpi : (pos : Int) ≤ (s.size : Int) := by omega
      have hpi2 : (pos : Int) + 1 ≤ (s.size : Int) := by omega
      have hpi3 : (pos : Int) ≤ (pos : Int) + 1 := by omega
      clear hxn hx
      go_wp2_with fail
      refine (Tryd.utf8_DecodeRuneInString _ _ ?_).mono ?_
      · exact (HR.out.below (hbn _)).1
      rintro e w2 ⟨rfl, hb2⟩
      rw [HDG.out, show (c.toNat, 1).1 = x from HXN.out]
      go_wp2_with fail
      refine (Tryd.badC x _).mono ?_
      rintro e w3 ⟨rfl, rfl⟩
      by_cases h60 : x = 60
      · have hbv : (decide (x = 0) || decide (x = 10) || decide (x = 60) || decide (x = 62)) = true := by simp [h60]
        rw [hbv]
        have HX := Lib.hid h60
        clear hbv h60 hc1
        go_wp2
        go_roundw
        case rel => exact ⟨pos + 1, acc, by omega, by omega, Tryd.IsB.below (hIn _) hb2, iter_below hb2 (hitn _), (hbn _).trans (hb2.mono (by have := hszn (pos + 1); omega)), by rw [HA.out, HC2.out, if_pos (by rw [HXN.out]; exact HX.out)]; exact Lib.hid (by simp)⟩
        case measure => simp only [World.iterPos, iter_below hb2 (hitn _), hit]; omega
      · have hbv : (decide (x = 0) || decide (x = 10) || decide (x = 60) || decide (x = 62)) = false := by simp; omega
        have e1 : ((x : Int) == 65533) = false := beqI_f (by omega)
        rw [hbv]
        have HX := Lib.hid h60
        clear hbv h60 hc1
        go_wp2_with fail
        refine (Tryd.WriteString _ _ _ (s.extract pos (pos + 1)) _ (Tryd.IsB.below (hIn _) hb2) (by rw [ByteArray.size_extract]; omega) (by have := hb2.size; have := hszn (pos + 1); omega)).mono ?_
        rintro e w4 ⟨rfl, hI4, hb4, ho4⟩
        rw [HEX.out] at hI4
        go_wp2
        go_roundw
        case rel => exact ⟨pos + 1, acc ++ [c], by omega, by simp; omega, hI4, ho4.iter (iter_below hb2 (hitn _)) (by omega), ((hbn _).trans (hb2.mono (by have := hszn (pos + 1); omega))).trans hb4, by rw [HA.out, HC2.out, if_neg (by rw [HXN.out]; exact HX.out)]; exact Lib.hid rfl⟩
        case measure => simp only [World.iterPos, ho4.iter (iter_below hb2 (hitn _)) (by omega), hit]; omega
    · have h3 : pos = 3 := by omega
      have hend := fun ty => Lib.run_next_end_at (P := Tryd.prog) wr (w.heap.size + 1) s pos ty hit hp
      have hacc : acc = [32, 97] := by rw [HA.out, h3]; rfl
      subst hacc
      clear HA h3
      go_wp2_with fail
      refine (Tryd.BString _ _ _ _ hI hbw.size).mono ?_
      rintro e w5 ⟨rfl, hI5, hb5, ho5⟩
      go_wp2_with fail
      refine (Tryd.strings_Trim_one ⟨#[32, 97]⟩ 32 (by decide) _ (by decide)).mono ?_
      rintro e w6 ⟨rfl, hw6⟩
      have hb6 : Below w.heap.size w w6 := by
        rcases hw6 with rfl | rfl
        · exact hbw.trans hb5
        · exact (hbw.trans hb5).drew
      rw [show Lib.trimB (⟨#[32, 97]⟩ : ByteArray).data.toList 32 = [97] by decide]
      clear hw6
      have hs6 := hb6.size
      obtain ⟨t, ht⟩ : ∃ t : ByteArray, (⟨([97] : By).toArray⟩ : ByteArray) = t := ⟨_, rfl⟩
      rw [ht]
      have htl : t.data.toList = [97] := by rw [← ht]
      have ht1 : t.size ≤ 1 := by rw [size_dl, htl]; exact Nat.le_refl _
      have ht2 : 1 ≤ t.size := by rw [size_dl, htl]; exact Nat.le_refl _
      have HTL := Lib.hid htl
      clear ht htl
      go_wp2
      go_loopw [9] (fun en wq => ∃ pos : Nat, pos ≤ 1 ∧ en = .int .i64 (pos : Int) ∧ wq.heap[w6.heap.size]? = some (.stringIter t pos) ∧ Below w.heap.size w wq) (fun _ wq => 1 - wq.iterPos w6.heap.size)
      case atStart =>
        refine ⟨0, by omega, rfl, ?_, hb6.alloc hs6 _⟩
        have := World.iter_heap w6 t 0
        simpa using this
      case round =>
        obtain ⟨pos, hpos, rfl, hit2, hbq⟩ := hrel
        by_cases hp2 : pos < t.size
        · obtain rfl : pos = 0 := by omega
          have hitn := fun p => Lib.iterAt_heap wr w6.heap.size t 0 p hit2
          have hbn := fun p => Lib.below_iterAt hbq (k := w6.heap.size) (by omega) t p
          have hx : t[0]'hp2 = 97 := by rw [getD_of_get t _ 0 hp2 HTL.out]; rfl
          have hnx : ∀ ty, (Instr.next (.pointer (some ⟨w6.heap.size, 0, none⟩)) true ty).run Tryd.prog wr = _ := fun ty => (Lib.run_next_any_at wr w6.heap.size t 0 ty hit2 hp2).trans (by rw [dec_ascii t 0 hp2 97 hx (by decide)])
          clear hx
          go_wp2_with fail
          refine (Tryd.utf8_RuneLen 97 _).mono ?_
          rintro e w7 ⟨rfl, rfl⟩
          rw [show Lib.runeLen 97 = 1 by decide]
          go_wp2
          go_roundw
          case rel => exact ⟨1, by omega, rfl, hitn _, hbn _⟩
          case measure => simp only [World.iterPos, hitn, hit2]; omega
        · have h1 : pos = 1 := by omega
          have hend2 := fun ty => Lib.run_next_end_at (P := Tryd.prog) wr w6.heap.size t pos ty hit2 hp2
          subst h1
          have hte : t.extract 0 1 = ⟨([97] : By).toArray⟩ := by rw [str_eq (t.extract 0 1), Lib.extract_data, HTL.out]; rfl
          have k1 : (1 : Int) ≤ (t.size : Int) := by omega
          go_wp2_with fail
          refine (Tryd.strings_TrimRight_one ⟨#[97]⟩ 32 (by decide) _ (by decide)).mono ?_
          rintro e w8 ⟨rfl, rfl⟩
          rw [show Lib.trimRightB (⟨#[97]⟩ : ByteArray).data.toList 32 = [97] by decide]
          go_wp2
          go_ret
          exact ⟨rfl, hbq⟩

theorem awk6 : idnPrint ⟨[65], [97, 64, 98], 5, -90⟩ = [65, 32, 60, 97, 64, 98, 62, 32, 53, 32, 45, 48, 49, 51, 48] := by
  have h1 : Lib.itoa 5 = [53] := by
    rw [show (5 : Int) = ((5 : Nat) : Int) from rfl, Lib.itoa_nonneg, Lib.decDigits_one (by decide)]; rfl
  have h2 : zoneL (-90) = [45, 48, 49, 51, 48] := by decide
  have h3 : idnOk ⟨[65], [97, 64, 98], 5, -90⟩ = true := by decide
  unfold idnPrint
  rw [h3, if_pos rfl]
  unfold idnL
  dsimp only
  rw [h1, h2]
  decide

set_option maxHeartbeats 4000000 in
set_option maxRecDepth 100000 in
theorem Tryd.iawake (w : World) (hr : Tryd.RdyN w) :
    Calls Tryd.prog 37 #[] w fun e w' => e = .returned (.bool true) ∧ Below w.heap.size w w' := by
  have HR := Lib.hid hr
  clear hr
  go_enter Tryd.func37, Tryd.ntmps37
  go_wp2_with fail
  refine (Tryd.iPrint ⟨[65], [97, 64, 98], 5, -90⟩ _ HR.out (by decide) (by decide)).mono ?_
  rintro e w1 ⟨rfl, hb1⟩
  rw [awk6]
  go_wp2_with fail
  refine (Tryd.Clean_awake ⟨#[32, 97, 60]⟩ rfl _ (HR.out.below hb1).1).mono ?_
  rintro e w2 ⟨rfl, hb2⟩
  go_wp2
  go_ret
  exact ⟨rfl, hb1.trans (hb2.mono hb1.size)⟩
end Go.Proofs.YtlhbbpagjkjplaaDoor
