/- Contracts and plain laws for the proofs of this seat. Conditions: those written at each theorem. -/
import Derived.Test.YtlhbbpagjkjplaaDoorRq2
import Derived.Test.YtlhbbpagjkjplaaDoorRqP
set_option linter.unusedVariables false
set_option linter.unusedSimpArgs false
namespace Go.Proofs.YtlhbbpagjkjplaaDoor
open Go.RowKit Go.Proofs

set_option maxHeartbeats 8000000 in
set_option maxRecDepth 100000 in
theorem Tryd.rUnquote_plain (s : ByteArray) (w : World) (hs : s.size ≤ 1000000000) (h : ¬ s.data.toList.head? = some 34) :
    Calls Tryd.prog 22 #[.string s] w fun e w' => e = .returned (.tuple #[.string ⟨(unqR s.data.toList).1.toArray⟩, .int .i64 (unqR s.data.toList).2.1, .int .i64 (unqR s.data.toList).2.2]) ∧ Below w.heap.size w w' := by
  have hu : unqR s.data.toList = plainR s.data.toList := by unfold unqR; rw [if_neg h]
  have HU := Lib.hid hu
  clear hu
  rcases Nat.eq_zero_or_pos s.size with h0 | h0
  · have hs0 : s = ByteArray.empty := by
      apply ByteArray.ext; apply Array.toList_inj.1; exact (is_nil s h0).2
    subst hs0
    have hp : plainR (ByteArray.empty).data.toList = ([], 0, 4) := by decide
    have HP := Lib.hid hp
    have hq : quoteL [] = [34, 34] := by decide
    have HQ := Lib.hid hq
    clear h hp hq hs h0
    have key : ∀ w1 : World, Calls Tryd.prog 24 #[.string ByteArray.empty] w1 fun e w' => e = .returned (.string ⟨#[34, 34]⟩) ∧ Below w1.heap.size w1 w' := by
      intro w1
      have := Tryd.rQuote ByteArray.empty w1 (by decide)
      rw [show (ByteArray.empty).data.toList = [] from rfl, HQ.out] at this
      exact this
    have KEY := Lib.hid key
    clear key HQ
    go_enter Tryd.func22, Tryd.ntmps22
    go_wp2
    go_loopw [5] (fun i wr => i = .int .i64 0 ∧ wr = w) (fun i _ => 0)
    case atStart => exact ⟨rfl, rfl⟩
    case round =>
      obtain ⟨rfl, rfl⟩ := hrel
      go_upto_region 5 with (fail)
      refine region_below (by kernel_rfl) (by kernel_rfl) ?_
      repeat (refine wpQuiet_step (fun K hK => ?_); go_simp; first | (refine hK _ ?_; clear hK K) | (refine ⟨_, fun _ _ => rfl, hK _ ?_⟩; clear hK K) | (apply Exists.intro; refine ⟨fun _ hbq => ?_, hK _ ?_⟩; (go_at_call 24; exact below_step hbq (KEY.out _)); clear hK K))
      refine wpQuiet_nil ?_
      intro w2 hb2
      go_wp2
      go_ret3
      refine ⟨?_, hb2⟩
      rw [HU.out, HP.out]
      all_goals rfl
  · obtain ⟨h1, h2⟩ := ne_nil s h0
    obtain ⟨x0, hx0⟩ : ∃ x, s[0]'h0 = x := ⟨_, rfl⟩
    have h3 : ((x0.toNat : Int) != 34) = true := by
      have : s.data.toList.head? = some x0 := by rw [← hx0, get_dl]; rw [List.head?_eq_getElem?]; exact List.getElem?_eq_getElem _
      rw [this] at h
      simp [← UInt8.toNat_inj] at h ⊢
      omega
    clear h
    go_enter Tryd.func22, Tryd.ntmps22
    go_wp2
    go_loopw [5] (fun i wr => ∃ k : Nat, k ≤ s.size ∧ i = .int .i64 (k : Int) ∧ wr = w ∧ Hid (∀ c ∈ s.data.toList.take k, c ∉ ([32, 10] : By))) (fun i _ => s.size - (intOf i).toNat)
    case atStart => exact ⟨0, by omega, rfl, rfl, Lib.hid (by simp)⟩
    case round =>
      obtain ⟨k, hk, rfl, rfl, HA⟩ := hrel
      by_cases hlt : k < s.size
      · obtain ⟨x, hx⟩ : ∃ x : UInt8, s[k]'hlt = x := ⟨_, rfl⟩
        have hx' : s.data.toList[k]'hlt = x := hx
        by_cases c1 : x.toNat = 32
        · have HK := Lib.hid (head_at s.data.toList k hlt HA.out (by rw [hx', UInt8.toNat_inj.1 (show x.toNat = (32 : UInt8).toNat from c1)]; decide))
          have e1 : ((x.toNat : Int) != 32) = false := by simp; omega
          clear hx' c1
          have hx : (s.extract 0 k).toList = s.data.toList.take k := by rw [toList_dl, Lib.extract_data]; simp
          have hx2 : (s.extract 0 k) = ⟨(s.data.toList.take k).toArray⟩ := by rw [← hx, toList_dl]
          have k0 : (0 : Int) ≤ (k : Int) := by omega
          have k1 : (k : Int) ≤ (s.size : Int) := by omega
          have hle : (s.extract 0 k).size ≤ 1000000000 := by rw [ByteArray.size_extract]; omega
          have HLE := Lib.hid hle
          cases hq : (quoteL (List.take k s.data.toList) == (s.extract 0 k).toList) with
          | true =>
            have hp : plainR s.data.toList = (s.data.toList.take k, (k : Int), 0) := by
              unfold plainR; rw [HK.out, if_pos (by rw [hx] at hq; simpa using hq)]
            have HP := Lib.hid hp
            have HX2 := Lib.hid hx2
            clear hx hx2 hp hle
            go_upto_region 5 with (fail)
            refine region_below (by kernel_rfl) (by kernel_rfl) ?_
            repeat (refine wpQuiet_step (fun K hK => ?_); go_simp; first | (refine hK _ ?_; clear hK K) | (refine ⟨_, fun _ _ => rfl, hK _ ?_⟩; clear hK K) | (apply Exists.intro; refine ⟨fun _ hbq => ?_, hK _ ?_⟩; (go_at_call 24; exact below_step hbq (Tryd.rQuote _ _ HLE.out)); clear hK K))
            refine wpQuiet_nil ?_
            intro w2 hb2
            go_wp2
            go_ret3
            refine ⟨?_, hb2⟩
            rw [HU.out, HP.out]
            show Ending.returned (.tuple #[.string (s.extract 0 k), _, _]) = _
            rw [HX2.out]
            all_goals rfl
          | false =>
            have hp : plainR s.data.toList = ([], 0, 4) := by
              unfold plainR; rw [HK.out, if_neg (by rw [hx] at hq; simpa using hq)]
            have HP := Lib.hid hp
            clear hx hx2 hp hle
            go_upto_region 5 with (fail)
            refine region_below (by kernel_rfl) (by kernel_rfl) ?_
            repeat (refine wpQuiet_step (fun K hK => ?_); go_simp; first | (refine hK _ ?_; clear hK K) | (refine ⟨_, fun _ _ => rfl, hK _ ?_⟩; clear hK K) | (apply Exists.intro; refine ⟨fun _ hbq => ?_, hK _ ?_⟩; (go_at_call 24; exact below_step hbq (Tryd.rQuote _ _ HLE.out)); clear hK K))
            refine wpQuiet_nil ?_
            intro w2 hb2
            go_wp2
            go_ret3
            refine ⟨?_, hb2⟩
            rw [HU.out, HP.out]
            all_goals rfl
        · by_cases c2 : x.toNat = 10
          · have HK := Lib.hid (head_at s.data.toList k hlt HA.out (by rw [hx', UInt8.toNat_inj.1 (show x.toNat = (10 : UInt8).toNat from c2)]; decide))
            have e1 : ((x.toNat : Int) != 32) = true := by simp; omega
            have e2 : ((x.toNat : Int) != 10) = false := by simp; omega
            clear hx' c1 c2
            have hx : (s.extract 0 k).toList = s.data.toList.take k := by rw [toList_dl, Lib.extract_data]; simp
            have hx2 : (s.extract 0 k) = ⟨(s.data.toList.take k).toArray⟩ := by rw [← hx, toList_dl]
            have k0 : (0 : Int) ≤ (k : Int) := by omega
            have k1 : (k : Int) ≤ (s.size : Int) := by omega
            have hle : (s.extract 0 k).size ≤ 1000000000 := by rw [ByteArray.size_extract]; omega
            have HLE := Lib.hid hle
            cases hq : (quoteL (List.take k s.data.toList) == (s.extract 0 k).toList) with
            | true =>
              have hp : plainR s.data.toList = (s.data.toList.take k, (k : Int), 0) := by
                unfold plainR; rw [HK.out, if_pos (by rw [hx] at hq; simpa using hq)]
              have HP := Lib.hid hp
              have HX2 := Lib.hid hx2
              clear hx hx2 hp hle
              go_upto_region 5 with (fail)
              refine region_below (by kernel_rfl) (by kernel_rfl) ?_
              repeat (refine wpQuiet_step (fun K hK => ?_); go_simp; first | (refine hK _ ?_; clear hK K) | (refine ⟨_, fun _ _ => rfl, hK _ ?_⟩; clear hK K) | (apply Exists.intro; refine ⟨fun _ hbq => ?_, hK _ ?_⟩; (go_at_call 24; exact below_step hbq (Tryd.rQuote _ _ HLE.out)); clear hK K))
              refine wpQuiet_nil ?_
              intro w2 hb2
              go_wp2
              go_ret3
              refine ⟨?_, hb2⟩
              rw [HU.out, HP.out]
              show Ending.returned (.tuple #[.string (s.extract 0 k), _, _]) = _
              rw [HX2.out]
              all_goals rfl
            | false =>
              have hp : plainR s.data.toList = ([], 0, 4) := by
                unfold plainR; rw [HK.out, if_neg (by rw [hx] at hq; simpa using hq)]
              have HP := Lib.hid hp
              clear hx hx2 hp hle
              go_upto_region 5 with (fail)
              refine region_below (by kernel_rfl) (by kernel_rfl) ?_
              repeat (refine wpQuiet_step (fun K hK => ?_); go_simp; first | (refine hK _ ?_; clear hK K) | (refine ⟨_, fun _ _ => rfl, hK _ ?_⟩; clear hK K) | (apply Exists.intro; refine ⟨fun _ hbq => ?_, hK _ ?_⟩; (go_at_call 24; exact below_step hbq (Tryd.rQuote _ _ HLE.out)); clear hK K))
              refine wpQuiet_nil ?_
              intro w2 hb2
              go_wp2
              go_ret3
              refine ⟨?_, hb2⟩
              rw [HU.out, HP.out]
              all_goals rfl
          · have e1 : ((x.toNat : Int) != 32) = true := by simp; omega
            have e2 : ((x.toNat : Int) != 10) = true := by simp; omega
            have hn : ∀ c ∈ s.data.toList.take (k + 1), c ∉ ([32, 10] : By) := by
              intro c hc
              rw [List.take_succ_eq_append_getElem hlt, List.mem_append] at hc
              rcases hc with hc | hc
              · exact HA.out c hc
              · rw [hx'] at hc
                have : c = x := by simpa using hc
                subst this
                intro hm
                simp only [List.mem_cons, List.not_mem_nil, or_false] at hm
                rcases hm with rfl | rfl
                · exact c1 rfl
                · exact c2 rfl
            have HN := Lib.hid hn
            clear hn hx' c1 c2
            go_wp2
            go_roundw
            case rel => exact ⟨k + 1, by omega, by go_num, (by first | trivial | rfl), HN⟩
            case measure => simp [intOf]; omega
      · obtain rfl : k = s.size := by omega
        have HK := Lib.hid (show headLen s.data.toList = s.size by rw [head_all _ (by have := HA.out; rw [size_dl, List.take_length] at this; exact this)]; rfl)
        obtain ⟨k, hk2⟩ : ∃ k, s.size = k := ⟨_, rfl⟩
        have hlt2 : ¬ (k : Int) < (s.size : Int) := by omega
        rw [hk2] at HK
        have hx : (s.extract 0 k).toList = s.data.toList.take k := by rw [toList_dl, Lib.extract_data]; simp
        have hx2 : (s.extract 0 k) = ⟨(s.data.toList.take k).toArray⟩ := by rw [← hx, toList_dl]
        have k0 : (0 : Int) ≤ (k : Int) := by omega
        have k1 : (k : Int) ≤ (s.size : Int) := by omega
        have hle : (s.extract 0 k).size ≤ 1000000000 := by rw [ByteArray.size_extract]; omega
        have HLE := Lib.hid hle
        cases hq : (quoteL (List.take k s.data.toList) == (s.extract 0 k).toList) with
        | true =>
          have hp : plainR s.data.toList = (s.data.toList.take k, (k : Int), 0) := by
            unfold plainR; rw [HK.out, if_pos (by rw [hx] at hq; simpa using hq)]
          have HP := Lib.hid hp
          have HX2 := Lib.hid hx2
          clear hx hx2 hp hle
          go_upto_region 5 with (fail)
          refine region_below (by kernel_rfl) (by kernel_rfl) ?_
          repeat (refine wpQuiet_step (fun K hK => ?_); go_simp; first | (refine hK _ ?_; clear hK K) | (refine ⟨_, fun _ _ => rfl, hK _ ?_⟩; clear hK K) | (apply Exists.intro; refine ⟨fun _ hbq => ?_, hK _ ?_⟩; (go_at_call 24; exact below_step hbq (Tryd.rQuote _ _ HLE.out)); clear hK K))
          refine wpQuiet_nil ?_
          intro w2 hb2
          go_wp2
          go_ret3
          refine ⟨?_, hb2⟩
          rw [HU.out, HP.out]
          show Ending.returned (.tuple #[.string (s.extract 0 k), _, _]) = _
          rw [HX2.out]
          all_goals rfl
        | false =>
          have hp : plainR s.data.toList = ([], 0, 4) := by
            unfold plainR; rw [HK.out, if_neg (by rw [hx] at hq; simpa using hq)]
          have HP := Lib.hid hp
          clear hx hx2 hp hle
          go_upto_region 5 with (fail)
          refine region_below (by kernel_rfl) (by kernel_rfl) ?_
          repeat (refine wpQuiet_step (fun K hK => ?_); go_simp; first | (refine hK _ ?_; clear hK K) | (refine ⟨_, fun _ _ => rfl, hK _ ?_⟩; clear hK K) | (apply Exists.intro; refine ⟨fun _ hbq => ?_, hK _ ?_⟩; (go_at_call 24; exact below_step hbq (Tryd.rQuote _ _ HLE.out)); clear hK K))
          refine wpQuiet_nil ?_
          intro w2 hb2
          go_wp2
          go_ret3
          refine ⟨?_, hb2⟩
          rw [HU.out, HP.out]
          all_goals rfl
end Go.Proofs.YtlhbbpagjkjplaaDoor
