/- Contracts and plain laws for the proofs of this seat. Conditions: those written at each theorem. -/
import Derived.Test.YtlhbbpagjkjplaaDoorStr
import Derived.Test.YtlhbbpagjkjplaaDoorPlq
import Derived.Lib.RuneCountTail
set_option linter.unusedVariables false
set_option linter.unusedSimpArgs false
namespace Go.Proofs.YtlhbbpagjkjplaaDoor
open Go.RowKit Go.Proofs

set_option maxHeartbeats 1000000 in
theorem Tryd.odd (c : UInt8) (w : World) :
    Calls Tryd.prog 109 #[.int .u8 (c.toNat : Int)] w fun e w' => e = .returned (.bool (oddB c)) ∧ w' = w := by
  obtain ⟨x, hx⟩ : ∃ x : Nat, c.toNat = x := ⟨_, rfl⟩
  have hb : oddB c = (decide (x < 32) || x == 127 || x == 34 || x == 92) := by unfold oddB; rw [hx]
  rw [hb, hx]
  clear hx hb
  go_enter Tryd.func109, Tryd.ntmps109
  go_wp2
  all_goals (go_ret; exact ⟨ret_bool (by rw [Bool.eq_iff_iff]; simp; try omega), rfl⟩)

set_option maxHeartbeats 2000000 in
set_option maxRecDepth 100000 in
theorem Tryd.octal (c : UInt8) (w : World) :
    Calls Tryd.prog 67 #[.int .u8 (c.toNat : Int)] w fun e w' => e = .returned (.string ⟨(octL c).toArray⟩) ∧ Below w.heap.size w w' := by
  obtain ⟨x, hx⟩ : ∃ x : Nat, c.toNat = x := ⟨_, rfl⟩
  have hx2 : x < 256 := by rw [← hx]; exact c.toNat_lt
  have hb : 4 = (octL c).length ∧ (#[Value.int .u8 92, Value.int .u8 (48 + (x : Int) / 64), Value.int .u8 (48 + (x : Int) / 8 % 8), Value.int .u8 (48 + (x : Int) % 8)] : Array Value) = ((octL c).map fun c => Value.int .u8 (c.toNat : Int)).toArray := by
    refine ⟨rfl, ?_⟩
    unfold octL; rw [hx]
    simp only [List.map_cons, List.map_nil]
    rw [u8n _ (by omega), u8n _ (by omega), u8n _ (by omega)]
    rfl
  rw [hx]
  obtain ⟨l, hl⟩ : ∃ l, octL c = l := ⟨_, rfl⟩
  rw [hl] at hb
  rw [hl]
  clear hx hl
  have HB := Lib.hid hb
  clear hb
  go_enter Tryd.func67, Tryd.ntmps67
  go_wp2
  refine upon_conv_lit w l Tryd.underlying28 Tryd.underlying5 Tryd.underlying9 HB.out.1 HB.out.2 ?_
  go_wp2
  go_ret
  exact ⟨rfl, (Below.refl _ w).alloc (Nat.le_refl _) _⟩

set_option maxHeartbeats 2000000 in
set_option maxRecDepth 100000 in
theorem Tryd.Plain (s : ByteArray) (w : World) (hs : s.size ≤ 1000000000) :
    Calls Tryd.prog 62 #[.string s] w fun e w' => e = .returned (.bool (plainB s.data.toList)) ∧ w' = w := by
  go_enter Tryd.func62, Tryd.ntmps62
  go_wp2
  go_loop [6] (fun i => ∃ k : Nat, k ≤ s.size ∧ i = .int .i64 k ∧ Hid ((s.data.toList.take k).all (fun c => !oddB c) = true)) (fun i => s.size - (intOf i).toNat)
  case atStart => exact ⟨0, by omega, rfl, rfl⟩
  case round =>
    obtain ⟨k, hk, rfl, hall⟩ := hrel
    by_cases hlt : k < s.size
    · obtain ⟨x, hx⟩ : ∃ x : UInt8, s[k]'hlt = x := ⟨_, rfl⟩
      have hsn := all_take_succ s k hlt (fun c => !oddB c)
      rw [hx] at hsn
      have HS := Lib.hid hsn
      clear hsn
      go_wp2_with fail
      refine (Tryd.odd x _).mono ?_
      rintro e w' ⟨rfl, rfl⟩
      cases ho : oddB x with
      | true =>
        have hp : plainB s.data.toList = false := by
          unfold plainB
          have : (s.data.toList.take (k + 1)).all (fun c => !oddB c) = false := by rw [HS.out, ho]; simp
          rw [all_of_take_false _ _ _ this]; rfl
        have HP := Lib.hid hp
        clear hp
        go_wp2
        go_ret
        exact ⟨ret_bool HP.out.symm, rfl⟩
      | false =>
        go_wp2
        go_round
        case rel => exact ⟨k + 1, by omega, by go_num, by rw [HS.out, ho, hall.out]; rfl⟩
        case measure => simp [intOf]; omega
    · have hk : k = s.size := by omega
      rw [hk, size_dl, List.take_length] at hall
      clear hk
      by_cases h0 : s.size = 0
      · have hp : plainB s.data.toList = false := by
          rw [size_dl] at h0
          rw [List.eq_nil_of_length_eq_zero h0]; rfl
        have h1 : s.toList = [] := by rw [toList_dl]; rw [size_dl] at h0; exact List.eq_nil_of_length_eq_zero h0
        have HP := Lib.hid hp
        clear hp h0
        go_wp2
        go_ret
        exact ⟨ret_bool HP.out.symm, rfl⟩
      · have h0' : 0 < s.size := by omega
        obtain ⟨x, hx⟩ : ∃ x : UInt8, s[0]'h0' = x := ⟨_, rfl⟩
        have hp : plainB s.data.toList = ((x.toNat : Int) != 32) := by
          unfold plainB
          rw [hall.out]
          obtain ⟨c, r, he⟩ : ∃ c r, s.data.toList = c :: r := by
            cases hh : s.data.toList with
            | nil => rw [size_dl, hh] at h0'; simp at h0'
            | cons c r => exact ⟨c, r, rfl⟩
          have hc : x = c := by rw [← hx, get_dl]; simp [he]
          rw [he, hc]
          simp only [List.isEmpty_cons, List.head?_cons, Bool.not_false, Bool.true_and, bne]
          rw [Bool.eq_iff_iff]
          simp [← UInt8.toNat_inj]
          omega
        have h1 : ¬ s.toList = [] := by rw [toList_dl]; rw [size_dl] at h0; exact fun e => h0 (by rw [e]; rfl)
        have h2 : s.toList.isEmpty = false := by simpa using h1
        have HP := Lib.hid hp
        clear hp h0 hall
        go_wp2
        go_ret
        exact ⟨ret_bool HP.out.symm, rfl⟩

/-- The literal that Quote hands to ContainsFunc. -/
theorem Tryd.quoteLit (w : World) : PredAt Tryd.prog 64 #[] encR (fun r => decide (r = 32) || decide (127 < r)) w := fun W r _ => by
  unfold FnGives
  show Calls Tryd.prog 64 #[.int .i32 (r : Int)] W fun e w' => e = .returned (.bool (decide (r = 32) || decide (127 < r))) ∧ ∃ q, w' = W.drewN q
  by_cases h1 : (r : Int) = 32
  · obtain rfl : r = 32 := by omega
    go_enter Tryd.func64, Tryd.ntmps64
    go_wp2
    go_ret
    exact ⟨rfl, 0, rfl⟩
  · have h2 : ((r : Int) == 32) = false := beqI_f h1
    have hv : (decide (r = 32) || decide (127 < r)) = decide ((127 : Int) < r) := by rw [Bool.eq_iff_iff]; simp; omega
    rw [hv]
    clear hv h1
    go_enter Tryd.func64, Tryd.ntmps64
    go_wp2
    go_ret
    exact ⟨rfl, 0, rfl⟩

theorem clean_any (s : ByteArray) : (decide (0 ≤ Lib.idxFunc (fun r => decide (r = 32) || decide (127 < r)) true s)) = !cleanB s.data.toList := by
  rw [idxFunc_any _ (fun c => c.toNat == 32 || decide (127 < c.toNat)) true]
  · unfold cleanB; rw [List.all_eq_not_any_not, Bool.not_not]; congr 1; funext c; simp
  · intro c h; rw [Bool.eq_iff_iff]; simp
  · intro r h; simp; omega
  · intro c h; simp; omega

set_option maxHeartbeats 4000000 in
set_option maxRecDepth 100000 in
/-- Quote of a text that has to have no quotes. -/
theorem Tryd.Quote_plain (s : ByteArray) (w : World) (hs : s.size ≤ 1000000000) (h1 : plainB s.data.toList = true) (h2 : cleanB s.data.toList = true) :
    Calls Tryd.prog 23 #[.string s] w fun e w' => e = .returned (.string s) ∧ Below w.heap.size w w' := by
  go_enter Tryd.func23, Tryd.ntmps23
  have H1 := Lib.hid h1
  have H2 := Lib.hid h2
  clear h1 h2
  go_wp2_with fail
  refine (Tryd.Plain s _ hs).mono ?_
  rintro e w' ⟨rfl, rfl⟩
  rw [H1.out]
  go_wp2_with fail
  refine (Tryd.strings_ContainsFunc 64 #[] (enters_of Tryd.func64 (by kernel_rfl) rfl) _ s _ (Tryd.quoteLit _)).mono ?_
  rintro e w1 ⟨rfl, hb⟩
  rw [clean_any, H2.out]
  go_wp2
  go_ret
  exact ⟨rfl, hb⟩

/-- What a rune's bytes are, where none of them may stand as it is. -/
theorem oneL_high (c : UInt8) (h : 128 ≤ c.toNat) : oneL c = octL c := by
  unfold oneL; rw [if_neg (by omega), if_neg (by omega), if_neg (by omega), if_neg (by omega)]

theorem take_one (s : ByteArray) (pos : Nat) (h : pos < s.size) (c : UInt8) (hc : s[pos]'h = c) : bodyL (s.data.toList.take (pos + 1)) = bodyL (s.data.toList.take pos) ++ oneL c := by
  rw [List.take_succ_eq_append_getElem (show pos < s.data.toList.length from h), bodyL_append]
  rw [← get_dl s pos h, hc]
  simp [bodyL]

set_option maxHeartbeats 8000000 in
set_option maxRecDepth 100000 in
/-- Quote of a text that has to have quotes. -/
theorem Tryd.Quote_quoted (s : ByteArray) (w : World) (hs : s.size ≤ 1000000000) (hT : Lib.Utf8Tabs 1 2 w) (hq : (plainB s.data.toList && cleanB s.data.toList) = false) :
    Calls Tryd.prog 23 #[.string s] w fun e w' => e = .returned (.string ⟨(34 :: (bodyL s.data.toList ++ [34])).toArray⟩) ∧ Below w.heap.size w w' := by
  have HQ := Lib.hid hq
  have HT := Lib.hid hT
  clear hq hT
  go_enter Tryd.func23, Tryd.ntmps23
  go_upto_region 1 with (fail)
  go_cut [15] (fun v wx => v = .bool false ∧ Below w.heap.size w wx)
  case first =>
    go_wp2_with fail
    refine (Tryd.Plain s _ hs).mono ?_
    rintro e w' ⟨rfl, rfl⟩
    cases h1 : plainB s.data.toList with
    | false =>
      go_wp2
      go_meet
      exact ⟨rfl, Below.refl _ _⟩
    | true =>
      have h2 : cleanB s.data.toList = false := by have := HQ.out; rw [h1] at this; simpa using this
      have H2 := Lib.hid h2
      clear h1 h2
      go_wp2_with fail
      refine (Tryd.strings_ContainsFunc 64 #[] (enters_of Tryd.func64 (by kernel_rfl) rfl) _ s _ (Tryd.quoteLit _)).mono ?_
      rintro e w1 ⟨rfl, hb⟩
      rw [clean_any, H2.out]
      go_wp2
      go_meet
      exact ⟨rfl, hb⟩
  case rest =>
    obtain ⟨rfl, hb0⟩ := hcut
    clear HQ
    go_wp2_with fail
    refine (Tryd.WriteByte _ _ _ 34 _ (Tryd.IsB.new wc) (by simp) (by simp)).mono ?_
    rintro e w1 ⟨rfl, hI1, hb1, ho1⟩
    have hlt1 := hI1.lt
    go_wp2
    go_loopw [] (fun wr => ∃ pos : Nat, pos ≤ s.size ∧ Tryd.IsB wc.heap.size wc.heap.size (34 :: bodyL (s.data.toList.take pos)) wr ∧ wr.heap[w1.heap.size]? = some (.stringIter s pos) ∧ Below wc.heap.size wc wr) (fun wr => s.size - wr.iterPos w1.heap.size)
    case atStart =>
      refine ⟨0, by omega, ?_, ?_, ?_⟩
      · exact hI1.alloc _
      · have := World.iter_heap w1 s 0
        simpa using this
      · exact (((Below.refl _ wc).alloc (Nat.le_refl _) _).trans hb1).alloc (by omega) _
    case round =>
      obtain ⟨pos, hpos, hI, hit, hbw⟩ := hrel
      have hsz : w1.heap.size < wr.heap.size := (Array.getElem?_eq_some_iff.1 hit).1
      by_cases hp : pos < s.size
      · have hlen0 := bodyL_length (s.data.toList.take pos)
        rw [List.length_take] at hlen0
        have hIn := fun p => hI.iterAt hit p
        have hitn := fun p => Lib.iterAt_heap wr w1.heap.size s pos p hit
        have hbn := fun p => Lib.below_iterAt hbw (k := w1.heap.size) (by omega) s p
        have hszn : ∀ p, wc.heap.size ≤ (wr.iterAt w1.heap.size s p).heap.size := fun p => by rw [Lib.iterAt_size]; omega
        obtain ⟨c, hc⟩ : ∃ c : UInt8, s[pos]'hp = c := ⟨_, rfl⟩
        by_cases ha : c.toNat < 128
        · have hst := take_one s pos hp c hc
          have HST := Lib.hid hst
          clear hst
          have hnx : ∀ ty, (Instr.next (.pointer (some ⟨w1.heap.size, 0, none⟩)) true ty).run Tryd.prog wr = _ := fun ty => (Lib.run_next_any_at wr w1.heap.size s pos ty hit hp).trans (by rw [dec_ascii s pos hp c hc ha])
          have ho : oneL c = [92, c] ∨ oneL c = [92, 110] ∨ oneL c = [92, 116] ∨ oneL c = [c] ∨ oneL c = octL c := by
            unfold oneL; repeat' split
            all_goals simp
          clear ho
          by_cases hA : c.toNat = 34 ∨ c.toNat = 92
          · have HO := Lib.hid (show oneL c = [92, c] by unfold oneL; rw [if_pos hA])
            obtain ⟨x, hx⟩ : ∃ x : Nat, c.toNat = x := ⟨_, rfl⟩
            have HX := Lib.hid hx
            rw [hx] at hnx hA
            clear hx
            have hx2 : (x : Int) < 256 := by omega
            have hx1 : (0 : Int) ≤ (x : Int) := by omega
            rcases hA with h | h
            · have e1 : ((x : Int) == 34) = true := beqI_t (by omega)
              clear h
              go_wp2_with fail
              refine (Tryd.WriteByte _ _ _ 92 _ (hIn _) (by simp only [List.length_cons]; omega) (hszn _)).mono ?_
              rintro e w2 ⟨rfl, hI2, hb2, ho2⟩
              go_wp2_with fail
              rw [← HX.out]
              refine (Tryd.WriteByte _ _ _ c _ hI2 (by simp only [List.length_append, List.length_cons, List.length_nil]; omega) (by have := hb2.size; have := hszn (pos + 1); omega)).mono ?_
              rintro e w3 ⟨rfl, hI3, hb3, ho3⟩
              go_wp2
              go_roundw
              case rel => exact ⟨pos + 1, by omega, by rw [HST.out, HO.out]; simpa using hI3, ho3.iter (ho2.iter (hitn _) (by omega)) (by omega), ((hbn _).trans hb2).trans hb3⟩
              case measure => simp only [World.iterPos, ho3.iter (ho2.iter (hitn _) (by omega)) (by omega), hit]; omega
            · have e1 : ((x : Int) == 34) = false := beqI_f (by omega)
              have e2 : ((x : Int) == 92) = true := beqI_t (by omega)
              clear h
              go_wp2_with fail
              refine (Tryd.WriteByte _ _ _ 92 _ (hIn _) (by simp only [List.length_cons]; omega) (hszn _)).mono ?_
              rintro e w2 ⟨rfl, hI2, hb2, ho2⟩
              go_wp2_with fail
              rw [← HX.out]
              refine (Tryd.WriteByte _ _ _ c _ hI2 (by simp only [List.length_append, List.length_cons, List.length_nil]; omega) (by have := hb2.size; have := hszn (pos + 1); omega)).mono ?_
              rintro e w3 ⟨rfl, hI3, hb3, ho3⟩
              go_wp2
              go_roundw
              case rel => exact ⟨pos + 1, by omega, by rw [HST.out, HO.out]; simpa using hI3, ho3.iter (ho2.iter (hitn _) (by omega)) (by omega), ((hbn _).trans hb2).trans hb3⟩
              case measure => simp only [World.iterPos, ho3.iter (ho2.iter (hitn _) (by omega)) (by omega), hit]; omega
          · by_cases hB : c.toNat = 10
            · have HO := Lib.hid (show oneL c = [92, 110] by unfold oneL; rw [if_neg hA, if_pos hB])
              rw [hB] at hnx
              clear hA hB
              go_wp2_with fail
              refine (Tryd.WriteString _ _ _ ⟨#[92, 110]⟩ _ (hIn _) (by show _ + 2 ≤ _; simp only [List.length_cons]; omega) (hszn _)).mono ?_
              rintro e w2 ⟨rfl, hI2, hb2, ho2⟩
              go_wp2
              go_roundw
              case rel => exact ⟨pos + 1, by omega, by rw [HST.out, HO.out]; exact hI2, ho2.iter (hitn _) (by omega), (hbn _).trans hb2⟩
              case measure => simp only [World.iterPos, ho2.iter (hitn _) (by omega), hit]; omega
            · by_cases hC : c.toNat = 9
              · have HO := Lib.hid (show oneL c = [92, 116] by unfold oneL; rw [if_neg hA, if_neg hB, if_pos hC])
                rw [hC] at hnx
                clear hA hB hC
                go_wp2_with fail
                refine (Tryd.WriteString _ _ _ ⟨#[92, 116]⟩ _ (hIn _) (by show _ + 2 ≤ _; simp only [List.length_cons]; omega) (hszn _)).mono ?_
                rintro e w2 ⟨rfl, hI2, hb2, ho2⟩
                go_wp2
                go_roundw
                case rel => exact ⟨pos + 1, by omega, by rw [HST.out, HO.out]; exact hI2, ho2.iter (hitn _) (by omega), (hbn _).trans hb2⟩
                case measure => simp only [World.iterPos, ho2.iter (hitn _) (by omega), hit]; omega
              · by_cases hD : 32 ≤ c.toNat ∧ c.toNat < 127
                · have HO := Lib.hid (show oneL c = [c] by unfold oneL; rw [if_neg hA, if_neg hB, if_neg hC, if_pos hD])
                  obtain ⟨x, hx⟩ : ∃ x : Nat, c.toNat = x := ⟨_, rfl⟩
                  have e1 : ((x : Int) == 34) = false := beqI_f (by omega)
                  have e2 : ((x : Int) == 92) = false := beqI_f (by omega)
                  have e3 : ((x : Int) == 10) = false := beqI_f (by omega)
                  have e4 : ((x : Int) == 9) = false := beqI_f (by omega)
                  have e5 : (32 : Int) ≤ (x : Int) := by omega
                  have e6 : (x : Int) < 127 := by omega
                  have HX := Lib.hid hx
                  rw [hx] at hnx
                  clear hA hB hC hD hx
                  go_wp2_with fail
                  rw [← HX.out]
                  refine (Tryd.WriteByte _ _ _ c _ (hIn _) (by simp only [List.length_cons]; omega) (hszn _)).mono ?_
                  rintro e w2 ⟨rfl, hI2, hb2, ho2⟩
                  go_wp2
                  go_roundw
                  case rel => exact ⟨pos + 1, by omega, by rw [HST.out, HO.out]; exact hI2, ho2.iter (hitn _) (by omega), (hbn _).trans hb2⟩
                  case measure => simp only [World.iterPos, ho2.iter (hitn _) (by omega), hit]; omega
                · obtain ⟨r, hr⟩ : ∃ r : Nat, c.toNat = r := ⟨_, rfl⟩
                  obtain ⟨n, hn⟩ : ∃ n : Nat, n = 1 := ⟨_, rfl⟩
                  have hdec : Utf8.decode s pos = (r, n) := by rw [dec_ascii s pos hp c hc ha, hr, hn]
                  have hoct : ∀ j (hj : j < s.size), pos ≤ j → j < pos + n → oneL (s[j]'hj) = octL (s[j]'hj) := by
                    intro j hj h1 h2
                    obtain rfl : j = pos := by omega
                    rw [hc]; unfold oneL; rw [if_neg hA, if_neg hB, if_neg hC, if_neg hD]
                  have hn1 : 1 ≤ n := by omega
                  have hpn : pos + n ≤ s.size := by omega
                  have f1 : ((r : Int) == 34) = false := beqI_f (by omega)
                  have f2 : ((r : Int) == 92) = false := beqI_f (by omega)
                  have f3 : ((r : Int) == 10) = false := beqI_f (by omega)
                  have f4 : ((r : Int) == 9) = false := beqI_f (by omega)
                  have f5 : (r : Int) < 32 ∨ 127 ≤ (r : Int) := by omega
                  clear hnx hA hB hC hD hr hn HST ha hc
                  have hnx : ∀ ty, (Instr.next (.pointer (some ⟨w1.heap.size, 0, none⟩)) true ty).run Tryd.prog wr = _ := fun ty => (Lib.run_next_any_at wr w1.heap.size s pos ty hit hp).trans (by rw [hdec])
                  have hdg : Lib.decodeGo (s.extract pos s.size) = (r, n) := by
                    unfold Lib.decodeGo
                    rw [if_neg (by rw [ByteArray.size_extract]; omega), Lib.tail_decode, Nat.add_zero, hdec]
                  have HDG := Lib.hid hdg
                  have HDEC := Lib.hid hdec
                  have HOC := Lib.hid hoct
                  clear hdg hdec hoct
                  rcases f5 with f5 | f5
                  all_goals
                    go_wp2_with fail
                    refine (Tryd.utf8_DecodeRuneInString _ _ ?_).mono ?_
                    · exact Utf8Tabs_below HT.out (hb0.trans ((hbn _).mono hb0.size))
                    rintro e w2 ⟨rfl, hb2⟩
                    rw [HDG.out]
                    go_wp2
                    go_loopw [32] (fun i wq => ∃ k : Nat, k ≤ n ∧ i = .int .i64 k ∧ Tryd.IsB wc.heap.size wc.heap.size (34 :: bodyL (s.data.toList.take (pos + k))) wq ∧ wq.heap[w1.heap.size]? = some (.stringIter s (pos + n)) ∧ Below wc.heap.size wc wq) (fun i _ => n - (intOf i).toNat)
                    case atStart => exact ⟨0, by omega, rfl, Tryd.IsB.below (hIn _) hb2, iter_below hb2 (hitn _), (hbn _).trans (hb2.mono (hszn _))⟩
                    case round =>
                      obtain ⟨k, hk, rfl, hI4, hit4, hb4⟩ := hrel
                      have hsz4 := hb4.size
                      by_cases hkn : k < n
                      · have hlt : pos + k < s.size := by omega
                        obtain ⟨d, hd⟩ : ∃ d : UInt8, s[pos + k]'hlt = d := ⟨_, rfl⟩
                        have hlen4 := bodyL_length (s.data.toList.take (pos + k))
                        rw [List.length_take] at hlen4
                        have hst := take_one s (pos + k) hlt d hd
                        rw [← hd, HOC.out _ hlt (by omega) (by omega), hd] at hst
                        have HST := Lib.hid hst
                        clear hst
                        go_wp2_with fail
                        refine (Tryd.octal d _).mono ?_
                        rintro e w5 ⟨rfl, hb5⟩
                        go_wp2_with fail
                        refine (Tryd.WriteString _ _ _ ⟨(octL d).toArray⟩ _ (hI4.below hb5) (by show _ + 4 ≤ _; simp only [List.length_cons]; omega) (by have := hb5.size; omega)).mono ?_
                        rintro e w6 ⟨rfl, hI6, hb6, ho6⟩
                        go_wp2
                        go_roundw
                        case rel => exact ⟨k + 1, by omega, by go_num, by rw [← Nat.add_assoc, HST.out]; exact hI6, ho6.iter (iter_below hb5 hit4) (by omega), (hb4.trans (hb5.mono hsz4)).trans hb6⟩
                        case measure => simp [intOf]; omega
                      · have hkn' : k = n := by omega
                        rw [hkn'] at hI4
                        clear hkn'
                        go_wp2
                        go_roundw
                        case rel => exact ⟨pos + n, by omega, hI4, hit4, hb4⟩
                        case measure => simp only [World.iterPos, hit4, hit]; omega
        · obtain ⟨hr0, hn1, hpn, hall⟩ := dec_high s pos hp (by rw [hc]; omega)
          obtain ⟨r, n, hdec⟩ : ∃ r n : Nat, Utf8.decode s pos = (r, n) := ⟨_, _, rfl⟩
          rw [hdec] at hr0 hn1 hpn hall
          have hoct : ∀ j (hj : j < s.size), pos ≤ j → j < pos + n → oneL (s[j]'hj) = octL (s[j]'hj) := fun j hj h1 h2 => oneL_high _ (hall j hj h1 h2)
          dsimp only at hr0 hn1 hpn
          have f1 : ((r : Int) == 34) = false := beqI_f (by omega)
          have f2 : ((r : Int) == 92) = false := beqI_f (by omega)
          have f3 : ((r : Int) == 10) = false := beqI_f (by omega)
          have f4 : ((r : Int) == 9) = false := beqI_f (by omega)
          have f5 : 127 ≤ (r : Int) := by omega
          clear ha hc hall
          have hnx : ∀ ty, (Instr.next (.pointer (some ⟨w1.heap.size, 0, none⟩)) true ty).run Tryd.prog wr = _ := fun ty => (Lib.run_next_any_at wr w1.heap.size s pos ty hit hp).trans (by rw [hdec])
          have hdg : Lib.decodeGo (s.extract pos s.size) = (r, n) := by
            unfold Lib.decodeGo
            rw [if_neg (by rw [ByteArray.size_extract]; omega), Lib.tail_decode, Nat.add_zero, hdec]
          have HDG := Lib.hid hdg
          have HDEC := Lib.hid hdec
          have HOC := Lib.hid hoct
          clear hdg hdec hoct
          all_goals
            go_wp2_with fail
            refine (Tryd.utf8_DecodeRuneInString _ _ ?_).mono ?_
            · exact Utf8Tabs_below HT.out (hb0.trans ((hbn _).mono hb0.size))
            rintro e w2 ⟨rfl, hb2⟩
            rw [HDG.out]
            go_wp2
            go_loopw [32] (fun i wq => ∃ k : Nat, k ≤ n ∧ i = .int .i64 k ∧ Tryd.IsB wc.heap.size wc.heap.size (34 :: bodyL (s.data.toList.take (pos + k))) wq ∧ wq.heap[w1.heap.size]? = some (.stringIter s (pos + n)) ∧ Below wc.heap.size wc wq) (fun i _ => n - (intOf i).toNat)
            case atStart => exact ⟨0, by omega, rfl, Tryd.IsB.below (hIn _) hb2, iter_below hb2 (hitn _), (hbn _).trans (hb2.mono (hszn _))⟩
            case round =>
              obtain ⟨k, hk, rfl, hI4, hit4, hb4⟩ := hrel
              have hsz4 := hb4.size
              by_cases hkn : k < n
              · have hlt : pos + k < s.size := by omega
                obtain ⟨d, hd⟩ : ∃ d : UInt8, s[pos + k]'hlt = d := ⟨_, rfl⟩
                have hlen4 := bodyL_length (s.data.toList.take (pos + k))
                rw [List.length_take] at hlen4
                have hst := take_one s (pos + k) hlt d hd
                rw [← hd, HOC.out _ hlt (by omega) (by omega), hd] at hst
                have HST := Lib.hid hst
                clear hst
                go_wp2_with fail
                refine (Tryd.octal d _).mono ?_
                rintro e w5 ⟨rfl, hb5⟩
                go_wp2_with fail
                refine (Tryd.WriteString _ _ _ ⟨(octL d).toArray⟩ _ (hI4.below hb5) (by show _ + 4 ≤ _; simp only [List.length_cons]; omega) (by have := hb5.size; omega)).mono ?_
                rintro e w6 ⟨rfl, hI6, hb6, ho6⟩
                go_wp2
                go_roundw
                case rel => exact ⟨k + 1, by omega, by go_num, by rw [← Nat.add_assoc, HST.out]; exact hI6, ho6.iter (iter_below hb5 hit4) (by omega), (hb4.trans (hb5.mono hsz4)).trans hb6⟩
                case measure => simp [intOf]; omega
              · have hkn' : k = n := by omega
                rw [hkn'] at hI4
                clear hkn'
                go_wp2
                go_roundw
                case rel => exact ⟨pos + n, by omega, hI4, hit4, hb4⟩
                case measure => simp only [World.iterPos, hit4, hit]; omega
      · have hnx : ∀ ty, (Instr.next (.pointer (some ⟨w1.heap.size, 0, none⟩)) true ty).run Tryd.prog wr = _ := fun ty => Lib.run_next_end_at wr w1.heap.size s pos ty hit hp
        have hle : pos = s.size := by omega
        rw [hle, size_dl, List.take_length] at hI
        have hlenb := bodyL_length s.data.toList
        clear hle
        go_wp2_with fail
        refine (Tryd.WriteByte _ _ _ 34 _ hI (by simp only [List.length_cons]; have : s.data.toList.length = s.size := rfl; omega) (by omega)).mono ?_
        rintro e w2 ⟨rfl, hI2, hb2, ho2⟩
        go_wp2_with fail
        refine (Tryd.BString _ _ _ _ hI2 (by have := hb2.size; omega)).mono ?_
        rintro e w3 ⟨rfl, hI3, hb3, ho3⟩
        go_wp2
        go_ret
        exact ⟨rfl, ((hb0.trans (hbw.mono hb0.size)).trans (hb2.mono hb0.size)).trans (hb3.mono hb0.size)⟩

/-- Quote. -/
theorem Tryd.Quote (s : ByteArray) (w : World) (hs : s.size ≤ 1000000000) (hT : Lib.Utf8Tabs 1 2 w) :
    Calls Tryd.prog 23 #[.string s] w fun e w' => e = .returned (.string ⟨(quoteL s.data.toList).toArray⟩) ∧ Below w.heap.size w w' := by
  cases h : (plainB s.data.toList && cleanB s.data.toList) with
  | false =>
    refine (Tryd.Quote_quoted s w hs hT h).mono ?_
    rintro e w' ⟨rfl, hb⟩
    exact ⟨ret_str (by unfold quoteL; rw [h]; rfl), hb⟩
  | true =>
    have h' := h
    rw [Bool.and_eq_true] at h
    refine (Tryd.Quote_plain s w hs h.1 h.2).mono ?_
    rintro e w' ⟨rfl, hb⟩
    refine ⟨?_, hb⟩
    unfold quoteL; rw [h']; rfl
end Go.Proofs.YtlhbbpagjkjplaaDoor
