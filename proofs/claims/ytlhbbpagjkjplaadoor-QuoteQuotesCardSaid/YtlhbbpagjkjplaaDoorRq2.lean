/- Contracts and plain laws for the proofs of this seat. Conditions: those written at each theorem. -/
import Derived.Test.YtlhbbpagjkjplaaDoorRq
set_option linter.unusedVariables false
set_option linter.unusedSimpArgs false
namespace Go.Proofs.YtlhbbpagjkjplaaDoor
open Go.RowKit Go.Proofs

set_option maxHeartbeats 2000000 in
set_option maxRecDepth 100000 in
theorem Tryd.roctal (c : UInt8) (w : World) :
    Calls Tryd.prog 112 #[.int .u8 (c.toNat : Int)] w fun e w' => e = .returned (.string ⟨(octL c).toArray⟩) ∧ Below w.heap.size w w' := by
  obtain ⟨x, hx⟩ : ∃ x : Nat, c.toNat = x := ⟨_, rfl⟩
  have hx2 : x < 256 := by rw [← hx]; exact c.toNat_lt
  obtain ⟨l, hl⟩ : ∃ l : By, [UInt8.ofNat (48 + c.toNat / 64), UInt8.ofNat (48 + c.toNat / 8 % 8), UInt8.ofNat (48 + c.toNat % 8)] = l := ⟨_, rfl⟩
  have hb : 3 = l.length ∧ (#[Value.int .u8 (48 + (x : Int) / 64), Value.int .u8 (48 + (x : Int) / 8 % 8), Value.int .u8 (48 + (x : Int) % 8)] : Array Value) = (l.map fun c => Value.int .u8 (c.toNat : Int)).toArray := by
    rw [← hl]
    refine ⟨rfl, ?_⟩
    rw [hx]
    simp only [List.map_cons, List.map_nil]
    rw [u8n _ (by omega), u8n _ (by omega), u8n _ (by omega)]
    rfl
  have ho : octL c = 92 :: l := by rw [← hl]; rfl
  have hlen : l.length = 3 := hb.1.symm
  rw [hx, ho]
  clear hx hl ho
  have HB := Lib.hid hb
  clear hb
  go_enter Tryd.func112, Tryd.ntmps112
  go_wp2
  refine upon_conv_lit w l Tryd.underlying28 Tryd.underlying5 Tryd.underlying9 HB.out.1 HB.out.2 ?_
  go_wp2
  go_ret
  exact ⟨by rw [show (⟨#[92]⟩ : ByteArray) = ⟨([92] : By).toArray⟩ from rfl, cat_str]; rfl, (Below.refl _ w).alloc (Nat.le_refl _) _⟩

set_option maxHeartbeats 2000000 in
set_option maxRecDepth 100000 in
theorem Tryd.rone (c : UInt8) (w : World) :
    Calls Tryd.prog 70 #[.int .u8 (c.toNat : Int)] w fun e w' => e = .returned (.string ⟨(oneL c).toArray⟩) ∧ Below w.heap.size w w' := by
  by_cases c1 : c.toNat = 34
  · obtain rfl : c = 34 := UInt8.toNat_inj.1 c1
    clear c1
    go_enter Tryd.func70, Tryd.ntmps70
    go_wp2
    go_ret
    exact ⟨rfl, Below.refl _ _⟩
  · by_cases c2 : c.toNat = 92
    · obtain rfl : c = 92 := UInt8.toNat_inj.1 c2
      clear c1 c2
      go_enter Tryd.func70, Tryd.ntmps70
      go_wp2
      go_ret
      exact ⟨rfl, Below.refl _ _⟩
    · by_cases c3 : c.toNat = 10
      · obtain rfl : c = 10 := UInt8.toNat_inj.1 c3
        clear c1 c2 c3
        go_enter Tryd.func70, Tryd.ntmps70
        go_wp2
        go_ret
        exact ⟨rfl, Below.refl _ _⟩
      · by_cases c4 : c.toNat = 9
        · obtain rfl : c = 9 := UInt8.toNat_inj.1 c4
          clear c1 c2 c3 c4
          go_enter Tryd.func70, Tryd.ntmps70
          go_wp2
          go_ret
          exact ⟨rfl, Below.refl _ _⟩
        · have e1 : ((c.toNat : Int) == 34) = false := beqI_f (by omega)
          have e2 : ((c.toNat : Int) == 92) = false := beqI_f (by omega)
          have e3 : ((c.toNat : Int) == 10) = false := beqI_f (by omega)
          have e4 : ((c.toNat : Int) == 9) = false := beqI_f (by omega)
          by_cases c5 : 32 ≤ c.toNat ∧ c.toNat < 127
          · have e5 : ¬ (c.toNat : Int) < 32 := by omega
            have e6 : ¬ (127 : Int) ≤ (c.toNat : Int) := by omega
            have ho : oneL c = [c] := by unfold oneL; rw [if_neg (by omega), if_neg c3, if_neg c4, if_pos c5]
            have HO := Lib.hid ho
            clear ho c1 c2 c3 c4 c5
            go_enter Tryd.func70, Tryd.ntmps70
            go_wp2
            refine upon_conv_lit w [c] Tryd.underlying28 Tryd.underlying5 Tryd.underlying9 rfl rfl ?_
            go_wp2
            go_ret
            exact ⟨by rw [HO.out]; rfl, (Below.refl _ w).alloc (Nat.le_refl _) _⟩
          · have ho : oneL c = octL c := by unfold oneL; rw [if_neg (by omega), if_neg c3, if_neg c4, if_neg c5]
            have HO := Lib.hid ho
            have c5' : c.toNat < 32 ∨ 127 ≤ c.toNat := by omega
            clear ho c1 c2 c3 c4 c5
            rcases c5' with c6 | c6
            · have e5 : (c.toNat : Int) < 32 := by omega
              go_enter Tryd.func70, Tryd.ntmps70
              go_wp2_with fail
              refine (Tryd.roctal c _).mono ?_
              rintro e w1 ⟨rfl, hb1⟩
              go_wp2
              go_ret
              exact ⟨by rw [HO.out]; rfl, hb1⟩
            · have e5 : ¬ (c.toNat : Int) < 32 := by omega
              have e6 : (127 : Int) ≤ (c.toNat : Int) := by omega
              go_enter Tryd.func70, Tryd.ntmps70
              go_wp2_with fail
              refine (Tryd.roctal c _).mono ?_
              rintro e w1 ⟨rfl, hb1⟩
              go_wp2
              go_ret
              exact ⟨by rw [HO.out]; rfl, hb1⟩

theorem bodyL_snoc (l : By) (k : Nat) (h : k < l.length) : bodyL (l.take (k + 1)) = bodyL (l.take k) ++ oneL (l[k]'h) := by
  rw [List.take_succ_eq_append_getElem h, bodyL_append]; simp [bodyL]

set_option maxHeartbeats 4000000 in
set_option maxRecDepth 100000 in
theorem Tryd.rQuote (s : ByteArray) (w : World) (hs : s.size ≤ 1000000000) :
    Calls Tryd.prog 24 #[.string s] w fun e w' => e = .returned (.string ⟨(quoteL s.data.toList).toArray⟩) ∧ Below w.heap.size w w' := by
  by_cases hpc : (plainB s.data.toList && cleanB s.data.toList) = true
  · have hq : quoteL s.data.toList = s.data.toList := by unfold quoteL; rw [if_pos hpc]
    rw [Bool.and_eq_true] at hpc
    have HP := Lib.hid hpc.1
    have HC := Lib.hid hpc.2
    have HQ := Lib.hid hq
    clear hpc hq
    go_enter Tryd.func24, Tryd.ntmps24
    go_wp2_with fail
    refine (Tryd.rPlain s _ hs).mono ?_
    rintro e w1 ⟨rfl, rfl⟩
    rw [HP.out]
    go_wp2_with fail
    refine (Tryd.rclean s _ hs).mono ?_
    rintro e w1 ⟨rfl, rfl⟩
    rw [HC.out]
    go_wp2
    go_ret
    refine ⟨?_, Below.refl _ _⟩
    rw [HQ.out]
    exact congrArg (fun z => Ending.returned (.string z)) (by cases s; simp : s = ⟨s.data.toList.toArray⟩)
  · have hq : quoteL s.data.toList = 34 :: bodyL s.data.toList ++ [34] := by unfold quoteL; rw [if_neg hpc]; rfl
    have HQ := Lib.hid hq
    clear hq
    cases hp : plainB s.data.toList with
    | true =>
      have hc : cleanB s.data.toList = false := by rw [hp] at hpc; simpa using hpc
      have HP := Lib.hid hp
      have HC := Lib.hid hc
      clear hpc hp hc
      go_enter Tryd.func24, Tryd.ntmps24
      go_wp2_with fail
      refine (Tryd.rPlain s _ hs).mono ?_
      rintro e w1 ⟨rfl, rfl⟩
      rw [HP.out]
      go_wp2_with fail
      refine (Tryd.rclean s _ hs).mono ?_
      rintro e w1 ⟨rfl, rfl⟩
      rw [HC.out]
      go_wp2
      go_loopw [3, 4] (fun o i wr => ∃ (k : Nat) (acc : By), k ≤ s.size ∧ i = .int .i64 (k : Int) ∧ o = .string ⟨acc.toArray⟩ ∧ acc.length ≤ 4 * k + 1 ∧ Below w1.heap.size w1 wr ∧ Hid (acc = 34 :: bodyL (s.data.toList.take k))) (fun _ i _ => s.size - (intOf i).toNat)
      case atStart => exact ⟨0, [34], by omega, rfl, rfl, by simp, Below.refl _ _, Lib.hid rfl⟩
      case round =>
        obtain ⟨k, acc, hk, rfl, rfl, hacc, hbw, HA⟩ := hrel
        by_cases hlt : k < s.size
        · obtain ⟨x, hx⟩ : ∃ x : UInt8, s[k]'hlt = x := ⟨_, rfl⟩
          have hsn := bodyL_snoc s.data.toList k hlt
          rw [show s.data.toList[k]'hlt = x from hx] at hsn
          have HS := Lib.hid hsn
          have hol := oneL_length x
          clear hsn
          go_wp2_with fail
          refine (Tryd.rone x _).mono ?_
          rintro e w2 ⟨rfl, hb2⟩
          have hcat : (⟨acc.toArray⟩ : ByteArray) ++ ⟨(oneL x).toArray⟩ = ⟨(acc ++ oneL x).toArray⟩ := cat_str _ _
          have HCAT := Lib.hid hcat
          have hsum : (oneL x).length + acc.length ≤ 4 * k + 5 := by omega
          obtain ⟨ox, hox⟩ : ∃ ox, oneL x = ox := ⟨_, rfl⟩
          rw [hox] at hol hsum HS HCAT ⊢
          clear hox hcat
          go_wp2
          go_roundw
          case rel => exact ⟨k + 1, acc ++ ox, by omega, by go_num, by rw [HCAT.out], by rw [List.length_append]; omega, hbw.trans (hb2.mono hbw.size), by rw [HS.out, HA.out]; rfl⟩
          case measure => simp [intOf]; omega
        · obtain rfl : k = s.size := by omega
          have hcat : (⟨acc.toArray⟩ : ByteArray) ++ ⟨#[34]⟩ = ⟨(acc ++ [34]).toArray⟩ := cat_str acc [34]
          have hfin : acc ++ [34] = quoteL s.data.toList := by rw [HQ.out, HA.out, size_dl, List.take_length]
          have HCAT := Lib.hid hcat
          have HF := Lib.hid hfin
          clear hcat hfin
          go_wp2
          go_ret
          exact ⟨by rw [← HF.out]; exact congrArg (fun z => Ending.returned (.string z)) HCAT.out, hbw⟩
    | false =>
      have HP := Lib.hid hp
      clear hpc hp
      go_enter Tryd.func24, Tryd.ntmps24
      go_wp2_with fail
      refine (Tryd.rPlain s _ hs).mono ?_
      rintro e w1 ⟨rfl, rfl⟩
      rw [HP.out]
      go_wp2
      go_loopw [3, 4] (fun o i wr => ∃ (k : Nat) (acc : By), k ≤ s.size ∧ i = .int .i64 (k : Int) ∧ o = .string ⟨acc.toArray⟩ ∧ acc.length ≤ 4 * k + 1 ∧ Below w1.heap.size w1 wr ∧ Hid (acc = 34 :: bodyL (s.data.toList.take k))) (fun _ i _ => s.size - (intOf i).toNat)
      case atStart => exact ⟨0, [34], by omega, rfl, rfl, by simp, Below.refl _ _, Lib.hid rfl⟩
      case round =>
        obtain ⟨k, acc, hk, rfl, rfl, hacc, hbw, HA⟩ := hrel
        by_cases hlt : k < s.size
        · obtain ⟨x, hx⟩ : ∃ x : UInt8, s[k]'hlt = x := ⟨_, rfl⟩
          have hsn := bodyL_snoc s.data.toList k hlt
          rw [show s.data.toList[k]'hlt = x from hx] at hsn
          have HS := Lib.hid hsn
          have hol := oneL_length x
          clear hsn
          go_wp2_with fail
          refine (Tryd.rone x _).mono ?_
          rintro e w2 ⟨rfl, hb2⟩
          have hcat : (⟨acc.toArray⟩ : ByteArray) ++ ⟨(oneL x).toArray⟩ = ⟨(acc ++ oneL x).toArray⟩ := cat_str _ _
          have HCAT := Lib.hid hcat
          have hsum : (oneL x).length + acc.length ≤ 4 * k + 5 := by omega
          obtain ⟨ox, hox⟩ : ∃ ox, oneL x = ox := ⟨_, rfl⟩
          rw [hox] at hol hsum HS HCAT ⊢
          clear hox hcat
          go_wp2
          go_roundw
          case rel => exact ⟨k + 1, acc ++ ox, by omega, by go_num, by rw [HCAT.out], by rw [List.length_append]; omega, hbw.trans (hb2.mono hbw.size), by rw [HS.out, HA.out]; rfl⟩
          case measure => simp [intOf]; omega
        · obtain rfl : k = s.size := by omega
          have hcat : (⟨acc.toArray⟩ : ByteArray) ++ ⟨#[34]⟩ = ⟨(acc ++ [34]).toArray⟩ := cat_str acc [34]
          have hfin : acc ++ [34] = quoteL s.data.toList := by rw [HQ.out, HA.out, size_dl, List.take_length]
          have HCAT := Lib.hid hcat
          have HF := Lib.hid hfin
          clear hcat hfin
          go_wp2
          go_ret
          exact ⟨by rw [← HF.out]; exact congrArg (fun z => Ending.returned (.string z)) HCAT.out, hbw⟩
end Go.Proofs.YtlhbbpagjkjplaaDoor
