/- Contracts and plain laws for the proofs of this seat. Conditions: those written at each theorem. -/
import Derived.Test.YtlhbbpagjkjplaaDoorTak
set_option linter.unusedVariables false
set_option linter.unusedSimpArgs false
namespace Go.Proofs.YtlhbbpagjkjplaaDoor
open Go.RowKit Go.Proofs

theorem decB_fuel : ∀ (n : Nat) (l : By), l.length ≤ n → decB n l = decB l.length l := by
  intro n
  induction n using Nat.strongRecOn with
  | _ n ih =>
    intro l h
    cases l with
    | nil => cases n <;> rfl
    | cons c r =>
      obtain ⟨m, rfl⟩ : ∃ m, n = m + 1 := ⟨n - 1, by simp at h; omega⟩
      simp only [List.length_cons]
      unfold decB
      rw [if_neg (by simp), if_neg (by simp)]
      cases ht : takenL (c :: r) with
      | none => rfl
      | some p =>
        obtain ⟨x, k⟩ := p
        dsimp only
        obtain ⟨h1, h2, _⟩ := takenL_pos _ _ _ ht
        simp only [List.length_cons] at h h2
        have hd : ((c :: r).drop k).length ≤ r.length := by rw [List.length_drop]; simp; omega
        rw [ih m (by omega) _ (by omega)]
        by_cases hm : r.length < m + 1
        · rw [ih r.length hm _ hd]
        · omega

theorem decB_step (l : By) (h : l ≠ []) (c : UInt8) (k : Nat) (ht : takenL l = some (c, k)) : decB l.length l = (decB (l.drop k).length (l.drop k)).map (c :: ·) := by
  cases l with
  | nil => exact absurd rfl h
  | cons a r =>
    obtain ⟨h1, h2, _⟩ := takenL_pos _ _ _ ht
    simp only [List.length_cons]
    conv => lhs; unfold decB
    rw [if_neg h, ht]
    dsimp only
    rw [decB_fuel r.length _ (by rw [List.length_drop]; simp; omega)]
theorem decB_none (l : By) (h : l ≠ []) (ht : takenL l = none) : decB l.length l = none := by
  cases l with
  | nil => exact absurd rfl h
  | cons a r => simp only [List.length_cons]; unfold decB; rw [if_neg h, ht]

theorem Tryd.QuoteB (l : By) (w : World) (hs : l.length ≤ 1000000000) (hT : Lib.Utf8Tabs 1 2 w) :
    Calls Tryd.prog 23 #[.string ⟨l.toArray⟩] w fun e w' => e = .returned (.string ⟨(quoteL l).toArray⟩) ∧ Below w.heap.size w w' := by
  have h := Tryd.Quote ⟨l.toArray⟩ w (by show l.toArray.size ≤ _; simpa using hs) hT
  simpa using h

set_option maxHeartbeats 4000000 in
set_option maxRecDepth 100000 in
theorem Tryd.Unquote_plain (s : ByteArray) (w : World) (hs : s.size ≤ 1000000000) (hT : Lib.Utf8Tabs 1 2 w) (h : ¬ s.data.toList.head? = some 34) :
    Calls Tryd.prog 21 #[.string s] w fun e w' => e = .returned (.tuple #[.string ⟨(unqR s.data.toList).1.toArray⟩, .int .i64 (unqR s.data.toList).2.1, .int .i64 (unqR s.data.toList).2.2]) ∧ Below w.heap.size w w' := by
  have hu : unqR s.data.toList = plainR s.data.toList := by unfold unqR; rw [if_neg h]
  have HU := Lib.hid hu
  have HT := Lib.hid hT
  clear hu hT
  rcases Nat.eq_zero_or_pos s.size with h0 | h0
  · obtain ⟨h1, h2⟩ := is_nil s h0
    have H2 := Lib.hid h2
    clear h h2
    go_enter Tryd.func21, Tryd.ntmps21
    go_wp2_with fail
    refine (Tryd.qplain s _ hs HT.out).mono ?_
    rintro e w' ⟨rfl, hb⟩
    go_wp2
    go_ret3
    rw [HU.out, H2.out]
    exact ⟨rfl, hb⟩
  · obtain ⟨h1, h2⟩ := ne_nil s h0
    obtain ⟨x0, hx0⟩ : ∃ x, s[0]'h0 = x := ⟨_, rfl⟩
    have h3 : ((x0.toNat : Int) != 34) = true := by
      have : s.data.toList.head? = some x0 := by rw [← hx0, get_dl]; rw [List.head?_eq_getElem?]; exact List.getElem?_eq_getElem _
      rw [this] at h
      simp [← UInt8.toNat_inj] at h ⊢
      omega
    clear h
    go_enter Tryd.func21, Tryd.ntmps21
    go_wp2_with fail
    refine (Tryd.qplain s _ hs HT.out).mono ?_
    rintro e w' ⟨rfl, hb⟩
    go_wp2
    go_ret3
    rw [HU.out]
    exact ⟨rfl, hb⟩

set_option maxHeartbeats 8000000 in
set_option maxRecDepth 100000 in
theorem Tryd.Unquote_quoted (s : ByteArray) (w : World) (hs : s.size ≤ 1000000000) (hT : Lib.Utf8Tabs 1 2 w) (h : s.data.toList.head? = some 34) :
    Calls Tryd.prog 21 #[.string s] w fun e w' => e = .returned (.tuple #[.string ⟨(unqR s.data.toList).1.toArray⟩, .int .i64 (unqR s.data.toList).2.1, .int .i64 (unqR s.data.toList).2.2]) ∧ Below w.heap.size w w' := by
  have h0 : 0 < s.size := by
    rcases Nat.eq_zero_or_pos s.size with h0 | h0
    · rw [(is_nil s h0).2] at h; cases h
    · exact h0
  obtain ⟨h1, h2⟩ := ne_nil s h0
  have hx0 : s[0]'h0 = 34 := by
    rw [List.head?_eq_getElem?, List.getElem?_eq_getElem (show 0 < s.data.toList.length from h0)] at h
    rw [get_dl]; simpa using h
  have HH := Lib.hid h
  have HT := Lib.hid hT
  clear h hT
  cases hR : endL (s.data.toList.drop 1) 1 with
  | none =>
    have hu : unqR s.data.toList = ([], 0, 3) := by unfold unqR; rw [if_pos HH.out, hR]
    have HU := Lib.hid hu
    have HR := Lib.hid hR
    clear hu hR
    go_enter Tryd.func21, Tryd.ntmps21
    go_wp2_with fail
    refine (Tryd.qend s _ hs h0).mono ?_
    rintro e w' ⟨rfl, rfl⟩
    rw [HR.out]
    simp only [endV]
    go_wp2
    go_ret3
    rw [HU.out]
    exact ⟨rfl, Below.refl _ _⟩
  | some n =>
    obtain ⟨hn1, hn2⟩ := endL_shift _ _ _ (Nat.le_refl _) n hR
    rw [List.length_drop, ← size_dl] at hn2
    have hn3 : n < s.size := by omega
    obtain ⟨D, hD⟩ : ∃ D, decB s.data.toList.length ((s.data.toList.take n).drop 1) = D := ⟨_, rfl⟩
    obtain ⟨U, hU⟩ : ∃ U, unqR s.data.toList = U := ⟨_, rfl⟩
    have hu : U = unqC s.data.toList n D := by
      rw [← hU]; unfold unqR; rw [if_pos HH.out, hR]; dsimp only; rw [hD]
    have hD2 : D = (decB (s.extract 1 n).data.toList.length (s.extract 1 n).data.toList).map ([] ++ ·) := by
      have he : (s.extract 1 n).data.toList = (s.data.toList.take n).drop 1 := by rw [Lib.extract_data, List.drop_take]
      rw [← hD, he, decB_fuel _ _ (by rw [List.length_drop, List.length_take]; omega)]; simp
    rw [hU]
    have HU := Lib.hid hu
    have HD := Lib.hid hD2
    have HR := Lib.hid hR
    clear hu hR hU hD hD2 hn2
    go_enter Tryd.func21, Tryd.ntmps21
    go_wp2_with fail
    refine (Tryd.qend s _ hs h0).mono ?_
    rintro e w' ⟨rfl, rfl⟩
    rw [HR.out]
    simp only [endV]
    have hn4 : (0 : Int) ≤ (n : Int) := by omega
    have hwr : IntKind.i64.wrap ((n : Int) + 1) = ((n + 1 : Nat) : Int) := by
      rw [IntWalk.i64_in _ (by omega)]; omega
    have HW := Lib.hid hwr
    clear hwr
    have hxs : (s.extract 1 n).size ≤ s.size := by rw [ByteArray.size_extract]; omega
    obtain ⟨r0, hr0⟩ : ∃ r, s.extract 1 n = r := ⟨_, rfl⟩
    go_wp2
    rw [hr0] at hxs HD
    have HR0 := Lib.hid hr0
    clear hr0
    go_loopw [7] (fun v wr => ∃ rest acc, v = .string rest ∧ rest.size + acc.length ≤ s.size ∧ Tryd.IsB w'.heap.size w'.heap.size acc wr ∧ Below w'.heap.size w' wr ∧ Hid (D = (decB rest.data.toList.length rest.data.toList).map (acc ++ ·))) (fun v _ => strSize v)
    case atStart => exact ⟨r0, [], by first | rfl | (rw [← HR0.out]; rfl), by simp; omega, Tryd.IsB.new _, (Below.refl _ w').alloc (Nat.le_refl _) _, HD⟩
    case round =>
      obtain ⟨rest, acc, rfl, hrs, hI, hbw, HE⟩ := hrel
      have hsz := hbw.size
      clear hxs
      rcases Nat.eq_zero_or_pos rest.size with hr0 | hr0
      · obtain ⟨g1, g2⟩ := is_nil rest hr0
        have hD3 : D = some acc := by rw [HE.out, g2]; simp [decB]
        have hu3 := HU.out
        rw [hD3] at hu3
        unfold unqC at hu3
        dsimp only at hu3
        clear hD3 g2 HE HD hr0
        have hx : (s.extract 0 (n + 1)).toList = s.data.toList.take (n + 1) := by rw [toList_dl, Lib.extract_data]; simp
        cases hq : (quoteL acc == (s.extract 0 (n + 1)).toList) with
        | false =>
          rw [if_neg (by rw [hx] at hq; simpa using hq)] at hu3
          have HU3 := Lib.hid hu3
          have HX := Lib.hid hx
          clear hu3 HU hx
          go_upto_region 14 with (fail)
          refine region_class (fun w2 => Tryd.IsB w'.heap.size w'.heap.size acc w2 ∧ Below w'.heap.size w' w2) ⟨hI, hbw.drew⟩ (by kernel_rfl) (by kernel_rfl) ?_
          repeat ((try rw [HW.out]); refine wpQuiet_step (fun K hK => ?_); go_simp; first | (refine hK _ ?_; clear hK K) | (refine ⟨_, fun _ _ _ => (by rw [if_pos (by omega)]; exact ⟨rfl, rfl⟩), hK _ ?_⟩; clear hK K) | (refine ⟨_, fun _ _ _ => rfl, hK _ ?_⟩; clear hK K) | (apply Exists.intro; refine ⟨fun _ hC1 hC2 => ?_, hK _ ?_⟩; (go_at_call 61; exact (Tryd.BString _ _ _ _ hC1 hC2.size).mono fun _ _ h => ⟨h.1, h.2.1, hC2.trans h.2.2.1⟩); clear hK K) | (apply Exists.intro; refine ⟨fun _ hC1 hC2 => ?_, hK _ ?_⟩; (go_at_call 23; exact (Tryd.QuoteB acc _ (by omega) (Utf8Tabs_below HT.out hC2)).mono fun _ _ h => ⟨h.1, Tryd.IsB.below hC1 h.2, hC2.trans (h.2.mono hC2.size)⟩); clear hK K))
          refine wpQuiet_nil ?_
          rintro w2 ⟨hI2, hb2⟩
          go_wp2
          go_ret3
          exact ⟨by rw [HU3.out]; rfl, hb2⟩
        | true =>
          rw [if_pos (by rw [hx] at hq; simpa using hq)] at hu3
          have HU3 := Lib.hid hu3
          have HX := Lib.hid hx
          clear hu3 HU hx
          go_upto_region 14 with (fail)
          refine region_class (fun w2 => Tryd.IsB w'.heap.size w'.heap.size acc w2 ∧ Below w'.heap.size w' w2) ⟨hI, hbw.drew⟩ (by kernel_rfl) (by kernel_rfl) ?_
          repeat ((try rw [HW.out]); refine wpQuiet_step (fun K hK => ?_); go_simp; first | (refine hK _ ?_; clear hK K) | (refine ⟨_, fun _ _ _ => (by rw [if_pos (by omega)]; exact ⟨rfl, rfl⟩), hK _ ?_⟩; clear hK K) | (refine ⟨_, fun _ _ _ => rfl, hK _ ?_⟩; clear hK K) | (apply Exists.intro; refine ⟨fun _ hC1 hC2 => ?_, hK _ ?_⟩; (go_at_call 61; exact (Tryd.BString _ _ _ _ hC1 hC2.size).mono fun _ _ h => ⟨h.1, h.2.1, hC2.trans h.2.2.1⟩); clear hK K) | (apply Exists.intro; refine ⟨fun _ hC1 hC2 => ?_, hK _ ?_⟩; (go_at_call 23; exact (Tryd.QuoteB acc _ (by omega) (Utf8Tabs_below HT.out hC2)).mono fun _ _ h => ⟨h.1, Tryd.IsB.below hC1 h.2, hC2.trans (h.2.mono hC2.size)⟩); clear hK K))
          refine wpQuiet_nil ?_
          rintro w2 ⟨hI2, hb2⟩
          go_wp2_with fail
          refine (Tryd.BString _ _ _ _ hI2 hb2.size).mono ?_
          rintro e w3 ⟨rfl, hI3, hb3, ho3⟩
          go_wp2
          go_ret3
          exact ⟨by rw [HU3.out]; rfl, hb2.trans hb3⟩
      · obtain ⟨g1, g2⟩ := ne_nil rest hr0
        have hrl : rest.size ≤ 1000000000 := by omega
        go_wp2_with fail
        refine (Tryd.qtaken rest _ hrl hr0).mono ?_
        rintro e w1 ⟨rfl, rfl⟩
        cases ht : takenL rest.data.toList with
        | none =>
          have hv : takenV rest.data.toList = (0, 0) := by unfold takenV; rw [ht]; rfl
          have hU4 : U = ([], 0, 4) := by
            rw [HU.out, HE.out, decB_none _ (by rw [← toList_dl]; exact g1) ht]; rfl
          have HU4 := Lib.hid hU4
          rw [hv]
          clear hv ht hU4
          go_wp2
          go_ret3
          exact ⟨by rw [HU4.out]; rfl, hbw⟩
        | some p =>
          obtain ⟨c, k⟩ := p
          have hv : takenV rest.data.toList = (c, k) := by unfold takenV; rw [ht]; rfl
          obtain ⟨q1, q2, q3⟩ := takenL_pos _ _ _ ht
          have hE2 : D = (decB (rest.extract k rest.size).data.toList.length (rest.extract k rest.size).data.toList).map ((acc ++ [c]) ++ ·) := by
            rw [HE.out, decB_step _ (by rw [← toList_dl]; exact g1) c k ht]
            have : (rest.extract k rest.size).data.toList = rest.data.toList.drop k := by
              rw [Lib.extract_data]; exact List.take_of_length_le (by rw [List.length_drop]; show _ ≤ rest.data.toList.length - k; omega)
            rw [this, Option.map_map]
            congr 1
            funext x; simp
          have HE2 := Lib.hid hE2
          rw [hv]
          have e1 : ((k : Int) == 0) = false := beqI_f (by omega)
          have q4 : k ≤ rest.size := q2
          have q5 : (k : Int) ≤ (rest.size : Int) := by omega
          have q6 : (0 : Int) ≤ (k : Int) := by omega
          clear hv ht hE2 q2
          dsimp only
          go_wp2_with fail
          refine (Tryd.WriteByte _ _ _ _ _ hI (by omega) hbw.size).mono ?_
          rintro e w2 ⟨rfl, hI2, hb2, ho2⟩
          go_wp2
          go_roundw
          case rel => exact ⟨_, _, rfl, by rw [ByteArray.size_extract, List.length_append]; simp; omega, hI2, hbw.trans hb2, HE2⟩
          case measure => simp [strSize, ByteArray.size_extract]; omega

/-- What Unquote answers. -/
theorem Tryd.Unquote (s : ByteArray) (w : World) (hs : s.size ≤ 1000000000) (hT : Lib.Utf8Tabs 1 2 w) :
    Calls Tryd.prog 21 #[.string s] w fun e w' => e = .returned (.tuple #[.string ⟨(unqR s.data.toList).1.toArray⟩, .int .i64 (unqR s.data.toList).2.1, .int .i64 (unqR s.data.toList).2.2]) ∧ Below w.heap.size w w' := by
  by_cases h : s.data.toList.head? = some 34
  · exact Tryd.Unquote_quoted s w hs hT h
  · exact Tryd.Unquote_plain s w hs hT h
end Go.Proofs.YtlhbbpagjkjplaaDoor
