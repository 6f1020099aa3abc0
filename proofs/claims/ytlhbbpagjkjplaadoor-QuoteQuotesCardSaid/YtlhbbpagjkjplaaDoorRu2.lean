/- Contracts and plain laws for the proofs of this seat. Conditions: those written at each theorem. -/
import Derived.Test.YtlhbbpagjkjplaaDoorRqS
import Derived.Test.YtlhbbpagjkjplaaDoorRu
import Derived.Deep.AppendLies
import Derived.Laws.BytesArg
set_option linter.unusedVariables false
set_option linter.unusedSimpArgs false
namespace Go.Proofs.YtlhbbpagjkjplaaDoor
open Go.RowKit Go.Proofs

/-- A row of bytes that is the call's own. -/
abbrev RowB (B : Nat) (v : Value) (l : By) (w : World) : Prop := w.ownsRow B 5 1 v l.length (Lib.byteCells l)

theorem Tryd.conv_row {B : Nat} {v : Value} {acc : By} {w : World} (h : RowB B v acc w) : (convert 28 9 v).run Tryd.prog w = .ok (.string ⟨acc.toArray⟩) w := by
  rcases h.2 with ⟨rfl, h0⟩ | ⟨g, cap, cur, rfl, hB, hg, hn, hm, hsz, htk⟩
  · obtain rfl : acc = [] := List.eq_nil_of_length_eq_zero h0
    exact run_convert_bytes_nil (P := Tryd.prog) w _ _ Tryd.underlying28 Tryd.underlying5 0 0 _ Tryd.underlying9
  · refine run_convert_bytes_back (P := Tryd.prog) w _ _ _ ⟨g, 0, none⟩ cap acc Tryd.underlying28 Tryd.underlying5 Tryd.underlying9 fun j hj => ?_
    have h5 : (Lib.byteCells acc)[j]? = some (.int .u8 (acc[j].toNat : Int)) := by
      unfold Lib.byteCells; simp [List.getElem?_eq_getElem hj]
    exact World.ownsRow.cells h rfl j _ h5
theorem RowB.below {B : Nat} {v : Value} {acc : By} {w w' : World} (h : RowB B v acc w) (hb : Below w.heap.size w w') : RowB B v acc w' := by
  refine ⟨h.1, ?_⟩
  rcases h.2 with hn | ⟨g, cap, cur, hv, hB, hg, rest⟩
  · exact .inl hn
  · exact .inr ⟨g, cap, cur, hv, hB, (hb.block g (Array.getElem?_eq_some_iff.1 hg).1).trans hg, rest⟩
theorem Tryd.rQuoteB (l : By) (w : World) (hs : l.length ≤ 1000000000) :
    Calls Tryd.prog 24 #[.string ⟨l.toArray⟩] w fun e w' => e = .returned (.string ⟨(quoteL l).toArray⟩) ∧ Below w.heap.size w w' := by
  have h := Tryd.rQuote ⟨l.toArray⟩ w (by show l.toArray.size ≤ _; simpa using hs)
  simpa using h

theorem rowB_snoc {B : Nat} {v : Value} {acc : By} {c : UInt8} {w : World} (h : w.ownsRow B 5 1 v (acc.length + 1) (Lib.byteCells acc ++ [.int .u8 (c.toNat : Int)])) : RowB B v (acc ++ [c]) w := by
  unfold RowB
  rw [List.length_append, Lib.byteCells_append]
  exact h

set_option maxHeartbeats 16000000 in
set_option maxRecDepth 100000 in
theorem Tryd.rUnquote_quoted (s : ByteArray) (w : World) (hs : s.size ≤ 1000000000) (h : s.data.toList.head? = some 34) :
    Calls Tryd.prog 22 #[.string s] w fun e w' => e = .returned (.tuple #[.string ⟨(unqR s.data.toList).1.toArray⟩, .int .i64 (unqR s.data.toList).2.1, .int .i64 (unqR s.data.toList).2.2]) ∧ Below w.heap.size w w' := by
  obtain ⟨i0, hi, hz0, hz1, hz2⟩ := info_parts Tryd.infoByte
  have h0 : 0 < s.size := by
    rcases Nat.eq_zero_or_pos s.size with h0 | h0
    · rw [(is_nil s h0).2] at h; cases h
    · exact h0
  obtain ⟨h1, h2⟩ := ne_nil s h0
  have hx0 : s[0]'h0 = 34 := by
    rw [List.head?_eq_getElem?, List.getElem?_eq_getElem (show 0 < s.data.toList.length from h0)] at h
    rw [get_dl]; simpa using h
  obtain ⟨R, hR⟩ : ∃ R, endL (s.data.toList.drop 1) 1 = R := ⟨_, rfl⟩
  have hu : unqR s.data.toList = refE s.data.toList R := by rw [unqR_ref _ h, hR]
  obtain ⟨U, hU⟩ : ∃ U, unqR s.data.toList = U := ⟨_, rfl⟩
  rw [hU] at hu
  rw [hU]
  have HH := Lib.hid h
  have HU := Lib.hid hu
  have HR := Lib.hid hR
  clear h hu hR hU
  go_enter Tryd.func22, Tryd.ntmps22
  go_wp2
  go_loop [6] (fun i => ∃ k : Nat, 1 ≤ k ∧ k ≤ s.size + 1 ∧ i = .int .i64 (k : Int) ∧ Hid (endL (s.data.toList.drop k) k = R)) (fun i => s.size + 1 - (intOf i).toNat)
  case atStart => exact ⟨1, by omega, by omega, rfl, HR⟩
  case round =>
    obtain ⟨k, hk1, hk2, rfl, HE⟩ := hrel
    by_cases hlt : k < s.size
    · obtain ⟨c, hc⟩ : ∃ c : UInt8, s[k]'hlt = c := ⟨_, rfl⟩
      have hdr : s.data.toList.drop k = c :: s.data.toList.drop (k + 1) := by rw [← hc]; exact drop_at s k hlt
      have HD := Lib.hid hdr
      clear hdr
      by_cases hA : c.toNat = 34
      · have hv : U = refC s.data.toList k := by
          have h2 := HE.out
          rw [HD.out] at h2
          have : R = some k := by
            rw [← h2]
            cases hq : s.data.toList.drop (k + 1) with
            | nil => unfold endL; rw [if_pos hA]
            | cons d r => unfold endL; rw [if_pos hA]
          rw [HU.out, this]; rfl
        have HV := Lib.hid hv
        have e1 : ((c.toNat : Int) != 34) = false := by simp; omega
        clear hv hA HE HR
        go_wp2
        go_loopw [7, 8] (fun vv iv wr => ∃ (i : Nat) (acc : By) (v : Value), 1 ≤ i ∧ i ≤ k + 1 ∧ iv = .int .i64 (i : Int) ∧ vv = v ∧ acc.length ≤ i ∧ RowB w.heap.size v acc wr ∧ Below w.heap.size w wr ∧ Hid (refD k k 1 (s.data.toList.drop 1) = acc ++ refD k k i (s.data.toList.drop i))) (fun _ iv _ => k + 1 - (intOf iv).toNat)
        case atStart => exact ⟨1, [], _, by omega, by omega, rfl, rfl, by simp, ⟨rfl, .inl ⟨rfl, rfl⟩⟩, Below.refl _ _, Lib.hid rfl⟩
        case round =>
          obtain ⟨i, acc, v, hi1, hi2, rfl, rfl, hacc, hrow, hbw, HD2⟩ := hrel
          by_cases hik : i < k
          · have his : i < s.size := by omega
            have hjs : i + 1 < s.size := by omega
            obtain ⟨b, hb⟩ : ∃ b : UInt8, s[i]'his = b := ⟨_, rfl⟩
            obtain ⟨d, hd⟩ : ∃ d : UInt8, s[i + 1]'hjs = d := ⟨_, rfl⟩
            have hdb := drop_at s i his
            have hdd := drop_at s (i + 1) hjs
            rw [hb] at hdb
            rw [hd] at hdd
            have HDB := Lib.hid hdb
            have HDD := Lib.hid hdd
            clear hdb hdd
            by_cases c1 : b.toNat = 92
            · have e3 : ((b.toNat : Int) != 92) = false := by simp; omega
              by_cases d1 : d.toNat = 110
              · have e4 : ((d.toNat : Int) == 110) = true := beqI_t (by omega)
                have hst : refD k k 1 (s.data.toList.drop 1) = (acc ++ [10]) ++ refD k k (i + 2) (s.data.toList.drop (i + 1 + 1)) := by
                  rw [HD2.out, HDB.out, HDD.out, refD_c2 k i b d _ hik c1 d1]; simp
                have HST := Lib.hid hst
                clear hst c1 d1
                go_wp2_with (at_builtin; refine wpList_append_lies _ rfl _ _ 28 (by rfl) w.heap.size 5 i0 (.int .u8 0) 1 1 Tryd.underlying28 hi hz0 hz1 hz2 rfl (by decide) _ acc.length (Lib.byteCells acc) (by rfl) (hrow.alloc _) ⟨wr.heap.size, 0, none⟩ 1 1 [.int .u8 ((10 : UInt8).toNat : Int)] (by rfl) (by rfl) (World.news_of_block (cs := #[.int .u8 ((10 : UInt8).toNat : Int)]) (t := 5) (fr := (0, 0)) (heap_alloc_new wr _)) (by simp [Value.oneCell']) (by omega) (by unfold maxLen; omega) (by omega) (by have := hbw.size; simp; omega) (wr.heap.size + 1) (by simp) ?_)
                intro g cap w3 hown3 hgrow hat hlt3
                have hrow3 := rowB_snoc (acc := acc) (c := (10 : UInt8)) hown3
                have hbw3 : Below w.heap.size w w3 := (hbw.alloc (by have := hbw.size; omega) _).grown hgrow (by have := hbw.size; simp; omega) (fun k hk => (hrow.lt k hk).1)
                go_wp2
                go_roundw
                case rel => exact ⟨i + 2, acc ++ [10], _, by omega, by omega, by go_num, rfl, by rw [List.length_append]; simp; omega, hrow3, hbw3, HST⟩
                case measure => simp [intOf]; omega
              · have e4 : ((d.toNat : Int) == 110) = false := beqI_f (by omega)
                by_cases d2 : d.toNat = 116
                · have e5 : ((d.toNat : Int) == 116) = true := beqI_t (by omega)
                  have hst : refD k k 1 (s.data.toList.drop 1) = (acc ++ [9]) ++ refD k k (i + 2) (s.data.toList.drop (i + 1 + 1)) := by
                    rw [HD2.out, HDB.out, HDD.out, refD_c3 k i b d _ hik c1 d2]; simp
                  have HST := Lib.hid hst
                  clear hst c1 d1 d2
                  go_wp2_with (at_builtin; refine wpList_append_lies _ rfl _ _ 28 (by rfl) w.heap.size 5 i0 (.int .u8 0) 1 1 Tryd.underlying28 hi hz0 hz1 hz2 rfl (by decide) _ acc.length (Lib.byteCells acc) (by rfl) (hrow.alloc _) ⟨wr.heap.size, 0, none⟩ 1 1 [.int .u8 ((9 : UInt8).toNat : Int)] (by rfl) (by rfl) (World.news_of_block (cs := #[.int .u8 ((9 : UInt8).toNat : Int)]) (t := 5) (fr := (0, 0)) (heap_alloc_new wr _)) (by simp [Value.oneCell']) (by omega) (by unfold maxLen; omega) (by omega) (by have := hbw.size; simp; omega) (wr.heap.size + 1) (by simp) ?_)
                  intro g cap w3 hown3 hgrow hat hlt3
                  have hrow3 := rowB_snoc (acc := acc) (c := (9 : UInt8)) hown3
                  have hbw3 : Below w.heap.size w w3 := (hbw.alloc (by have := hbw.size; omega) _).grown hgrow (by have := hbw.size; simp; omega) (fun k hk => (hrow.lt k hk).1)
                  go_wp2
                  go_roundw
                  case rel => exact ⟨i + 2, acc ++ [9], _, by omega, by omega, by go_num, rfl, by rw [List.length_append]; simp; omega, hrow3, hbw3, HST⟩
                  case measure => simp [intOf]; omega
                · have e5 : ((d.toNat : Int) == 116) = false := beqI_f (by omega)
                  obtain ⟨OB, hOB⟩ : ∃ OB : Bool, decide ((48 ≤ d.toNat ∧ d.toNat ≤ 51) ∧ i + 3 < k ∧ oct2 (s.data.toList.drop (i + 1 + 1)) = true) = OB := ⟨_, rfl⟩
                  have HOB := Lib.hid hOB
                  clear hOB
                  go_upto_region 29 with (fail)
                  go_cut [104] (fun x wx => x = .bool OB ∧ wx = wr)
                  case first =>
                    by_cases f1 : d.toNat < 48
                    · have q1 : ¬ (48 : Int) ≤ (d.toNat : Int) := by omega
                      obtain rfl : OB = false := by rw [← HOB.out]; exact decide_eq_false (by omega)
                      clear f1
                      clear HOB
                      go_wp2
                      go_meet
                      exact ⟨rfl, rfl⟩
                    · have q1 : (48 : Int) ≤ (d.toNat : Int) := by omega
                      by_cases f2 : 51 < d.toNat
                      · have q2 : ¬ (d.toNat : Int) ≤ 51 := by omega
                        obtain rfl : OB = false := by rw [← HOB.out]; exact decide_eq_false (by omega)
                        clear f1 f2
                        clear HOB
                        go_wp2
                        go_meet
                        exact ⟨rfl, rfl⟩
                      · have q2 : (d.toNat : Int) ≤ 51 := by omega
                        by_cases f3 : i + 3 < k
                        · have q3 : (i : Int) + 1 + 2 < (k : Int) := by omega
                          have h2s : i + 2 < s.size := by omega
                          have h3s : i + 3 < s.size := by omega
                          obtain ⟨x2, hx2⟩ : ∃ x : UInt8, s[i + 2]'h2s = x := ⟨_, rfl⟩
                          obtain ⟨x3, hx3⟩ : ∃ x : UInt8, s[i + 3]'h3s = x := ⟨_, rfl⟩
                          have ho2 : oct2 (s.data.toList.drop (i + 1 + 1)) = (decide (48 ≤ x2.toNat) && decide (x2.toNat ≤ 55) && decide (48 ≤ x3.toNat) && decide (x3.toNat ≤ 55)) := by
                            rw [show i + 1 + 1 = i + 2 from rfl, drop_at s (i + 2) h2s, drop_at s (i + 3) h3s, hx2, hx3]; rfl
                          have HO2 := Lib.hid ho2
                          clear ho2
                          by_cases g1 : x2.toNat < 48
                          · have q4 : ¬ (48 : Int) ≤ (x2.toNat : Int) := by omega
                            obtain rfl : OB = false := by rw [← HOB.out]; exact decide_eq_false (by rw [HO2.out]; simp; omega)
                            clear f1 f2 f3 g1
                            clear HOB
                            go_wp2
                            go_meet
                            exact ⟨rfl, rfl⟩
                          · have q4 : (48 : Int) ≤ (x2.toNat : Int) := by omega
                            by_cases g2 : 55 < x2.toNat
                            · have q5 : ¬ (x2.toNat : Int) ≤ 55 := by omega
                              obtain rfl : OB = false := by rw [← HOB.out]; exact decide_eq_false (by rw [HO2.out]; simp; omega)
                              clear f1 f2 f3 g1 g2
                              clear HOB
                              go_wp2
                              go_meet
                              exact ⟨rfl, rfl⟩
                            · have q5 : (x2.toNat : Int) ≤ 55 := by omega
                              by_cases g3 : x3.toNat < 48
                              · have q6 : ¬ (48 : Int) ≤ (x3.toNat : Int) := by omega
                                obtain rfl : OB = false := by rw [← HOB.out]; exact decide_eq_false (by rw [HO2.out]; simp; omega)
                                clear f1 f2 f3 g1 g2 g3
                                clear HOB
                                go_wp2
                                go_meet
                                exact ⟨rfl, rfl⟩
                              · have q6 : (48 : Int) ≤ (x3.toNat : Int) := by omega
                                by_cases g4 : 55 < x3.toNat
                                · have q7 : ¬ (x3.toNat : Int) ≤ 55 := by omega
                                  obtain rfl : OB = false := by rw [← HOB.out]; exact decide_eq_false (by rw [HO2.out]; simp; omega)
                                  clear f1 f2 f3 g1 g2 g3 g4
                                  clear HOB
                                  go_wp2
                                  go_meet
                                  exact ⟨by first | rfl | (rw [decide_eq_false (by omega)]), rfl⟩
                                · have q7 : (x3.toNat : Int) ≤ 55 := by omega
                                  obtain rfl : OB = true := by rw [← HOB.out]; exact decide_eq_true (by rw [HO2.out]; simp; omega)
                                  clear f1 f2 f3 g1 g2 g3 g4
                                  clear HOB
                                  go_wp2
                                  go_meet
                                  exact ⟨rfl, rfl⟩
                        · have q3 : ¬ (i : Int) + 1 + 2 < (k : Int) := by omega
                          obtain rfl : OB = false := by rw [← HOB.out]; exact decide_eq_false (by omega)
                          clear f1 f2 f3
                          clear HOB
                          go_wp2
                          go_meet
                          exact ⟨rfl, rfl⟩
                  case rest =>
                    obtain ⟨rfl, rfl⟩ := hcut
                    cases OB with
                    | false =>
                      have hst : refD k k 1 (s.data.toList.drop 1) = (acc ++ [d]) ++ refD k k (i + 2) (s.data.toList.drop (i + 1 + 1)) := by
                        rw [HD2.out, HDB.out, HDD.out, refD_c5 k i b d _ hik c1 ⟨d1, d2⟩ (of_decide_eq_false HOB.out)]; simp
                      have HST := Lib.hid hst
                      clear hst c1 d1 d2
                      go_wp2_with (at_builtin; refine wpList_append_lies _ rfl _ _ 28 (by rfl) w.heap.size 5 i0 (.int .u8 0) 1 1 Tryd.underlying28 hi hz0 hz1 hz2 rfl (by decide) _ acc.length (Lib.byteCells acc) (by rfl) (hrow.alloc _) ⟨wc.heap.size, 0, none⟩ 1 1 [.int .u8 (d.toNat : Int)] (by rfl) (by rfl) (World.news_of_block (cs := #[.int .u8 (d.toNat : Int)]) (t := 5) (fr := (0, 0)) (heap_alloc_new wc _)) (by simp [Value.oneCell']) (by omega) (by unfold maxLen; omega) (by omega) (by have := hbw.size; simp; omega) (wc.heap.size + 1) (by simp) ?_)
                      intro g cap w3 hown3 hgrow hat hlt3
                      have hrow3 := rowB_snoc (acc := acc) (c := d) hown3
                      have hbw3 : Below w.heap.size w w3 := (hbw.alloc (by have := hbw.size; omega) _).grown hgrow (by have := hbw.size; simp; omega) (fun k hk => (hrow.lt k hk).1)
                      go_wp2
                      go_roundw
                      case rel => exact ⟨i + 2, acc ++ [d], _, by omega, by omega, by go_num, rfl, by rw [List.length_append]; simp; omega, hrow3, hbw3, HST⟩
                      case measure => simp [intOf]; omega
                    | true =>
                      have hoct := of_decide_eq_true HOB.out
                      have h2s : i + 2 < s.size := by omega
                      have h3s : i + 3 < s.size := by omega
                      obtain ⟨x2, hx2⟩ : ∃ x : UInt8, s[i + 2]'h2s = x := ⟨_, rfl⟩
                      obtain ⟨x3, hx3⟩ : ∃ x : UInt8, s[i + 3]'h3s = x := ⟨_, rfl⟩
                      have hdq : s.data.toList.drop (i + 1 + 1) = x2 :: x3 :: s.data.toList.drop (i + 4) := by
                        rw [show i + 1 + 1 = i + 2 from rfl, drop_at s (i + 2) h2s, drop_at s (i + 3) h3s, hx2, hx3]
                      have hoc := hoct.2.2
                      rw [hdq] at hoc
                      unfold oct2 at hoc
                      dsimp only at hoc
                      simp only [Bool.and_eq_true, decide_eq_true_eq] at hoc
                      obtain ⟨⟨⟨q1, q2⟩, q3⟩, q4⟩ := hoc
                      obtain ⟨⟨q5, q6⟩, q7, _⟩ := hoct
                      have r1 : (48 : Int) ≤ (d.toNat : Int) := by omega
                      have r2 : (d.toNat : Int) ≤ 51 := by omega
                      have r3 : (48 : Int) ≤ (x2.toNat : Int) := by omega
                      have r4 : (x2.toNat : Int) ≤ 55 := by omega
                      have r5 : (48 : Int) ≤ (x3.toNat : Int) := by omega
                      have r6 : (x3.toNat : Int) ≤ 55 := by omega
                      obtain ⟨j2, hj2⟩ : ∃ j : Nat, j = i + 2 := ⟨_, rfl⟩
                      obtain ⟨j3, hj3⟩ : ∃ j : Nat, j = i + 3 := ⟨_, rfl⟩
                      have wr2 : IntKind.i64.wrap ((i : Int) + 1 + 1) = (j2 : Int) := by rw [IntWalk.i64_in _ (by omega)]; omega
                      have wr3 : IntKind.i64.wrap ((i : Int) + 1 + 2) = (j3 : Int) := by rw [IntWalk.i64_in _ (by omega)]; omega
                      have b1 : (0 : Int) ≤ (j2 : Int) := by omega
                      have b2 : (j2 : Int) < (s.size : Int) := by omega
                      have b3 : (0 : Int) ≤ (j3 : Int) := by omega
                      have b4 : (j3 : Int) < (s.size : Int) := by omega
                      have b5 : j2 < s.size := by omega
                      have b6 : j3 < s.size := by omega
                      have hy2 : s[j2]'b5 = x2 := by subst hj2; exact hx2
                      have hy3 : s[j3]'b6 = x3 := by subst hj3; exact hx3
                      have hval := or_oct d.toNat x2.toNat x3.toNat (by omega) (by omega) (by omega)
                      have hst : refD k k 1 (s.data.toList.drop 1) = (acc ++ [UInt8.ofNat (64 * (d.toNat - 48) + 8 * (x2.toNat - 48) + (x3.toNat - 48))]) ++ refD k k (i + 4) (s.data.toList.drop (i + 4)) := by
                        rw [HD2.out, HDB.out, HDD.out, refD_c4 k i b d _ hik c1 ⟨d1, d2⟩ (of_decide_eq_true HOB.out), hdq]; simp [oct2V]
                      have hbn : ((UInt8.ofNat (64 * (d.toNat - 48) + 8 * (x2.toNat - 48) + (x3.toNat - 48))).toNat : Int) = ((64 * (d.toNat - 48) + 8 * (x2.toNat - 48) + (x3.toNat - 48) : Nat) : Int) := u8n _ (by omega)
                      rw [← hbn] at hval
                      obtain ⟨vb, hvb⟩ : ∃ vb, UInt8.ofNat (64 * (d.toNat - 48) + 8 * (x2.toNat - 48) + (x3.toNat - 48)) = vb := ⟨_, rfl⟩
                      rw [hvb] at hval hst
                      have HVAL := Lib.hid hval
                      have HST := Lib.hid hst
                      clear hval hst hbn hvb c1 d1 d2
                      have HJ2 := Lib.hid hj2
                      have HJ3 := Lib.hid hj3
                      have HDQ := Lib.hid hdq
                      clear hj2 hj3 hx2 hx3 hdq
                      go_upto_region 30 with (fail)
                      go_region_law ((refine step_append_lies _ (by rfl) _ _ _ (by rfl) w.heap.size 5 i0 (.int .u8 0) 1 1 Tryd.underlying28 hi hz0 hz1 hz2 rfl (by decide) _ acc.length (Lib.byteCells acc) (by rfl) ((hrow.alloc _).drew) ⟨wc.heap.size, 0, none⟩ 1 1 [_] (by rfl) (by rfl) (World.news_of_block (cs := #[_]) (t := 5) (fr := (0, 0)) (heap_alloc_new wc _)) (by simp [Value.oneCell']) (by omega) (by unfold maxLen; omega) (by omega) (by have := hbw.size; simp; omega) (wc.heap.size + 1) (by simp) ?_; intro g cap w3 hown3 hgrow hat hlt3))
                      all_goals (
                        rw [HVAL.out] at hown3
                        have hrow3 := rowB_snoc (acc := acc) (c := vb) hown3
                        have hbw3 : Below w.heap.size w w3 := ((hbw.alloc (by have := hbw.size; omega) _).drew).grown hgrow (by have := hbw.size; simp; omega) (fun k hk => (hrow.lt k hk).1)
                        clear wr2 wr3
                        go_wp2
                        go_roundw
                        case rel => exact ⟨i + 4, acc ++ [vb], _, by omega, by omega, by go_num, rfl, by rw [List.length_append]; simp; omega, hrow3, hbw3, HST⟩
                        case measure => simp [intOf]; omega)
            · have e3 : ((b.toNat : Int) != 92) = true := by simp; omega
              have hst : refD k k 1 (s.data.toList.drop 1) = (acc ++ [b]) ++ refD k k (i + 1) (s.data.toList.drop (i + 1)) := by
                rw [HD2.out, HDB.out, refD_c1 k i b _ hik c1]; simp
              have HST := Lib.hid hst
              clear hst c1
              go_wp2_with (at_builtin; refine wpList_append_lies _ rfl _ _ 28 (by rfl) w.heap.size 5 i0 (.int .u8 0) 1 1 Tryd.underlying28 hi hz0 hz1 hz2 rfl (by decide) _ acc.length (Lib.byteCells acc) (by rfl) (hrow.alloc _) ⟨wr.heap.size, 0, none⟩ 1 1 [.int .u8 (b.toNat : Int)] (by rfl) (by rfl) (World.news_of_block (cs := #[.int .u8 (b.toNat : Int)]) (t := 5) (fr := (0, 0)) (heap_alloc_new wr _)) (by simp [Value.oneCell']) (by omega) (by unfold maxLen; omega) (by omega) (by have := hbw.size; simp; omega) (wr.heap.size + 1) (by simp) ?_)
              intro g cap w3 hown3 hgrow hat hlt3
              have hrow3 := rowB_snoc (acc := acc) (c := b) hown3
              have hbw3 : Below w.heap.size w w3 := (hbw.alloc (by have := hbw.size; omega) _).grown hgrow (by have := hbw.size; simp; omega) (fun k hk => (hrow.lt k hk).1)
              go_wp2
              go_roundw
              case rel => exact ⟨i + 1, acc ++ [b], _, by omega, by omega, by go_num, rfl, by rw [List.length_append]; simp; omega, hrow3, hbw3, HST⟩
              case measure => simp [intOf]; omega
          · have hfin : refD k k 1 (s.data.toList.drop 1) = acc := by rw [HD2.out, refD_done _ _ _ _ (by omega), List.append_nil]
            have hV2 : U = if quoteL acc = s.data.toList.take (k + 1) then (acc, ((k + 1 : Nat) : Int), 0) else ([], 0, 4) := by
              rw [HV.out]; unfold refC; rw [hfin]
            have hx : (s.extract 0 (k + 1)).toList = s.data.toList.take (k + 1) := by rw [toList_dl, Lib.extract_data]; simp
            have k0 : (0 : Int) ≤ (k : Int) := by omega
            have hwr : IntKind.i64.wrap ((k : Int) + 1) = ((k + 1 : Nat) : Int) := by
              rw [IntWalk.i64_in _ (by omega)]; omega
            have HW := Lib.hid hwr
            clear hwr hfin
            cases hq : (quoteL acc == (s.extract 0 (k + 1)).toList) with
            | false =>
              rw [if_neg (by rw [hx] at hq; simpa using hq)] at hV2
              have HV2 := Lib.hid hV2
              clear hV2 hx
              go_upto_region 32 with (fail)
              refine region_class (fun w' => RowB w.heap.size _ acc w' ∧ Below w.heap.size w w') ⟨hrow, hbw.drew⟩ (by kernel_rfl) (by kernel_rfl) ?_
              refine wpQuiet_step (fun K hK => ?_)
              go_simp
              refine ⟨_, fun _ _ _ => rfl, hK _ ?_⟩
              refine wpQuiet_step (fun K hK => ?_)
              go_simp
              refine ⟨.string ⟨acc.toArray⟩, fun w4 hr4 _ => (by rw [Tryd.conv_row hr4]; exact ⟨rfl, rfl⟩), hK _ ?_⟩
              clear hK K
              repeat ((try rw [HW.out]); refine wpQuiet_step (fun K hK => ?_); go_simp; first | (refine hK _ ?_; clear hK K) | (refine ⟨_, fun _ _ _ => (by rw [if_pos (by omega)]; exact ⟨rfl, rfl⟩), hK _ ?_⟩; clear hK K) | (refine ⟨_, fun _ _ _ => rfl, hK _ ?_⟩; clear hK K) | (apply Exists.intro; refine ⟨fun _ hC1 hC2 => ?_, hK _ ?_⟩; (go_at_call 24; exact (Tryd.rQuoteB acc _ (by omega)).mono fun _ _ h => ⟨h.1, RowB.below hC1 h.2, hC2.trans (h.2.mono hC2.size)⟩); clear hK K))
              refine wpQuiet_nil ?_
              rintro w2 ⟨hr2, hb2⟩
              have hcv := Tryd.conv_row hr2
              go_wp2
              go_ret3
              exact ⟨by rw [HV2.out]; rfl, hb2⟩
            | true =>
              rw [if_pos (by rw [hx] at hq; simpa using hq)] at hV2
              have HV2 := Lib.hid hV2
              clear hV2 hx
              go_upto_region 32 with (fail)
              refine region_class (fun w' => RowB w.heap.size _ acc w' ∧ Below w.heap.size w w') ⟨hrow, hbw.drew⟩ (by kernel_rfl) (by kernel_rfl) ?_
              refine wpQuiet_step (fun K hK => ?_)
              go_simp
              refine ⟨_, fun _ _ _ => rfl, hK _ ?_⟩
              refine wpQuiet_step (fun K hK => ?_)
              go_simp
              refine ⟨.string ⟨acc.toArray⟩, fun w4 hr4 _ => (by rw [Tryd.conv_row hr4]; exact ⟨rfl, rfl⟩), hK _ ?_⟩
              clear hK K
              repeat ((try rw [HW.out]); refine wpQuiet_step (fun K hK => ?_); go_simp; first | (refine hK _ ?_; clear hK K) | (refine ⟨_, fun _ _ _ => (by rw [if_pos (by omega)]; exact ⟨rfl, rfl⟩), hK _ ?_⟩; clear hK K) | (refine ⟨_, fun _ _ _ => rfl, hK _ ?_⟩; clear hK K) | (apply Exists.intro; refine ⟨fun _ hC1 hC2 => ?_, hK _ ?_⟩; (go_at_call 24; exact (Tryd.rQuoteB acc _ (by omega)).mono fun _ _ h => ⟨h.1, RowB.below hC1 h.2, hC2.trans (h.2.mono hC2.size)⟩); clear hK K))
              refine wpQuiet_nil ?_
              rintro w2 ⟨hr2, hb2⟩
              have hcv := Tryd.conv_row hr2
              go_wp2
              go_ret3
              exact ⟨by rw [HV2.out]; rfl, hb2⟩
      · by_cases hB : c.toNat = 92
        · have e1 : ((c.toNat : Int) != 34) = true := by simp; omega
          have e2 : ((c.toNat : Int) == 92) = true := beqI_t (by omega)
          have hn : endL (s.data.toList.drop (k + 2)) (k + 2) = R := by
            have h2 := HE.out
            rw [HD.out] at h2
            rw [← h2]
            cases hq : s.data.toList.drop (k + 1) with
            | nil =>
              have : s.data.toList.drop (k + 2) = [] := by
                rw [show k + 2 = (k + 1) + 1 from rfl, ← List.drop_drop, hq]; rfl
              rw [this]; unfold endL; rw [if_neg hA]
            | cons d r =>
              have : s.data.toList.drop (k + 2) = r := by
                rw [show k + 2 = (k + 1) + 1 from rfl, ← List.drop_drop, hq]; rfl
              rw [this]; conv => rhs; unfold endL
              rw [if_neg hA, if_pos hB]
          have HN := Lib.hid hn
          clear hn hA hB
          go_wp2
          go_round
          case rel => exact ⟨k + 2, by omega, by omega, by go_num, HN⟩
          case measure => simp [intOf]; omega
        · have e1 : ((c.toNat : Int) != 34) = true := by simp; omega
          have e2 : ((c.toNat : Int) == 92) = false := beqI_f (by omega)
          have hn : endL (s.data.toList.drop (k + 1)) (k + 1) = R := by
            have h2 := HE.out
            rw [HD.out] at h2
            rw [← h2]
            cases hq : s.data.toList.drop (k + 1) with
            | nil => unfold endL; rw [if_neg hA]
            | cons d r =>
              conv => rhs; unfold endL
              rw [if_neg hA, if_neg hB]
          have HN := Lib.hid hn
          clear hn hA hB
          go_wp2
          go_round
          case rel => exact ⟨k + 1, by omega, by omega, by go_num, HN⟩
          case measure => simp [intOf]; omega
    · have hv : U = ([], 0, 3) := by
        have h2 := HE.out
        have : s.data.toList.drop k = [] := List.drop_eq_nil_of_le (by rw [← size_dl]; omega)
        rw [this] at h2
        have : R = none := by rw [← h2]; unfold endL; rfl
        rw [HU.out, this]; rfl
      have HVV := Lib.hid hv
      clear hv
      go_wp2
      go_ret3
      exact ⟨by rw [HVV.out]; rfl, Below.refl _ _⟩

/-- What the reference's Unquote answers: the same. -/
theorem Tryd.rUnquote (s : ByteArray) (w : World) (hs : s.size ≤ 1000000000) :
    Calls Tryd.prog 22 #[.string s] w fun e w' => e = .returned (.tuple #[.string ⟨(unqR s.data.toList).1.toArray⟩, .int .i64 (unqR s.data.toList).2.1, .int .i64 (unqR s.data.toList).2.2]) ∧ Below w.heap.size w w' := by
  by_cases h : s.data.toList.head? = some 34
  · exact Tryd.rUnquote_quoted s w hs h
  · exact Tryd.rUnquote_plain s w hs h
end Go.Proofs.YtlhbbpagjkjplaaDoor
