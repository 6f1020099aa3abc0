/- Contracts and plain laws for the proofs of this seat: numbers and zones as text. Conditions: those written at each theorem. -/
import Derived.Test.YtlhbbpagjkjplaaDoorIdB
import Derived.Lib.AppendIntMem
import Derived.Lib.ItoaLen
set_option linter.unusedVariables false
set_option linter.unusedSimpArgs false
namespace Go.Proofs.YtlhbbpagjkjplaaDoor
open Go.RowKit Go.Proofs

theorem cat_by (a b : By) : (⟨a.toArray⟩ : ByteArray) ++ (⟨b.toArray⟩ : ByteArray) = ⟨(a ++ b).toArray⟩ := by
  apply ByteArray.ext; simp [ByteArray.data_append]

set_option maxHeartbeats 1000000 in
theorem Tryd.Number (v : Int) (w : World) (hr : Tryd.RdyN w) (hv : i64R v) :
    Calls Tryd.prog 93 #[.int .i64 v] w fun e w' => e = .returned (.string ⟨(Lib.itoa v).toArray⟩) ∧ Below w.heap.size w w' := by
  have HR := Lib.hid hr
  have HV := Lib.hid hv
  clear hr hv
  go_enter Tryd.func93, Tryd.ntmps93
  go_wp2_with fail
  refine (Tryd.strconv_FormatInt_10 v HV.out.1 HV.out.2 _ HR.out.2.1).mono ?_
  rintro e w1 ⟨rfl, k, os, rfl⟩
  go_wp2
  go_ret
  exact ⟨rfl, Lib.below_grow _ _ (Nat.le_refl _) _ _⟩

set_option maxHeartbeats 2000000 in
set_option maxRecDepth 100000 in
theorem Tryd.itwo (n : Int) (w : World) (h0 : 0 ≤ n) (h1 : n ≤ 99) :
    Calls Tryd.prog 129 #[.int .i64 n] w fun e w' => e = .returned (.string ⟨(twoL n.toNat).toArray⟩) ∧ Below w.heap.size w w' := by
  obtain ⟨x, rfl⟩ := Int.eq_ofNat_of_zero_le h0
  rw [Int.toNat_natCast]
  have hb : 2 = (twoL x).length ∧ (#[Value.int .u8 (48 + (x : Int) / 10 % 10), Value.int .u8 (48 + (x : Int) % 10)] : Array Value) = ((twoL x).map fun c => Value.int .u8 (c.toNat : Int)).toArray := by
    refine ⟨rfl, ?_⟩
    unfold twoL
    simp only [List.map_cons, List.map_nil]
    rw [u8d _ (by omega), u8d _ (by omega)]
    simp
  obtain ⟨l, hl⟩ : ∃ l, twoL x = l := ⟨_, rfl⟩
  rw [hl] at hb
  rw [hl]
  clear hl
  have HB := Lib.hid hb
  clear hb
  go_enter Tryd.func129, Tryd.ntmps129
  go_wp2
  refine upon_conv_lit w l Tryd.underlying28 Tryd.underlying5 Tryd.underlying9 HB.out.1 HB.out.2 ?_
  go_wp2
  go_ret
  exact ⟨rfl, (Below.refl _ w).alloc (Nat.le_refl _) _⟩

set_option maxHeartbeats 2000000 in
set_option maxRecDepth 100000 in
theorem Tryd.izone (z : Int) (w : World) (h0 : -840 ≤ z) (h1 : z ≤ 840) :
    Calls Tryd.prog 90 #[.int .i64 z] w fun e w' => e = .returned (.string ⟨(zoneL z).toArray⟩) ∧ Below w.heap.size w w' := by
  obtain ⟨q, hq⟩ : ∃ q : Nat, z.natAbs = q := ⟨_, rfl⟩
  have hzl : zoneL z = (if z < 0 then 45 else 43) :: (twoL (q / 60) ++ twoL (q % 60)) := by unfold zoneL; rw [hq]
  rw [hzl]
  clear hzl
  by_cases hn : z < 0
  · have hz : z = -(q : Int) := by omega
    rw [if_pos hn]
    subst hz
    clear hq
    have e1 : -(q : Int) < 0 := hn
    go_enter Tryd.func90, Tryd.ntmps90
    go_wp2_with fail
    refine (Tryd.itwo ((q : Int) / 60) _ (by omega) (by omega)).mono ?_
    rintro e w1 ⟨rfl, hb1⟩
    go_wp2_with fail
    refine (Tryd.itwo ((q : Int) % 60) _ (by omega) (by omega)).mono ?_
    rintro e w2 ⟨rfl, hb2⟩
    go_wp2
    go_ret
    refine ⟨?_, hb1.trans (hb2.mono hb1.size)⟩
    exact congrArg (fun z => Ending.returned (.string z)) (by rw [show (⟨#[45]⟩ : ByteArray) = ⟨([45] : By).toArray⟩ from rfl, cat_by, cat_by]; rfl)
  · have hz : z = (q : Int) := by omega
    rw [if_neg hn]
    subst hz
    clear hq
    have e1 : ¬ (q : Int) < 0 := hn
    go_enter Tryd.func90, Tryd.ntmps90
    go_wp2_with fail
    refine (Tryd.itwo ((q : Int) / 60) _ (by omega) (by omega)).mono ?_
    rintro e w1 ⟨rfl, hb1⟩
    go_wp2_with fail
    refine (Tryd.itwo ((q : Int) % 60) _ (by omega) (by omega)).mono ?_
    rintro e w2 ⟨rfl, hb2⟩
    go_wp2
    go_ret
    refine ⟨?_, hb1.trans (hb2.mono hb1.size)⟩
    exact congrArg (fun z => Ending.returned (.string z)) (by rw [show (⟨#[43]⟩ : ByteArray) = ⟨([43] : By).toArray⟩ from rfl, cat_by, cat_by]; rfl)

theorem size_pos_of (s : ByteArray) (h : s.data.toList ≠ []) : 0 < s.size := by
  rw [size_dl]; exact List.length_pos_iff.2 h

/-- strconv.ParseInt at a text that is no numeral. -/
theorem Tryd.ParseInt_none (s : ByteArray) (hlim : s.size ≤ 281474976710656) (h : (∀ v, Lib.parseIntB 64 s.data.toList ≠ .ok v) ∧ Lib.parseIntB 64 s.data.toList ≠ .range) (ev : Value) (w : World) (hv : w.cell? ⟨6, 0, none⟩ = some ev) (hev : ev = .nilIface ∨ ∃ te pe, ev = .iface te pe) :
    Calls Tryd.prog 127 #[.string s, .int .i64 10, .int .i64 64] w fun e w' => ∃ N, e = .returned (.tuple #[.int .i64 0, .iface 185 (.pointer (some ⟨N, 0, none⟩))]) ∧ w.heap.size ≤ N ∧ w'.heap[N]? = some (.cells #[.string ⟨#[80, 97, 114, 115, 101, 73, 110, 116]⟩, .string s, ev] 205 (0, 0)) ∧ Below w.heap.size w w' := by
  rcases hp : Lib.parseIntB 64 s.data.toList with v | _ | _
  · exact absurd hp (h.1 v)
  · exact Any.strconv_ParseInt_10_at64_syntax Tryd.laysC174 s hlim hp ev w hv hev
  · exact absurd hp h.2

set_option maxHeartbeats 2000000 in
set_option maxRecDepth 100000 in
theorem Tryd.TakeNumber (s : ByteArray) (w : World) (hr : Tryd.RdyN w) (hs : s.size ≤ 1000000000) :
    Calls Tryd.prog 86 #[.string s] w fun e w' => e = .returned (.tuple #[.int .i64 (takeN s.data.toList).1, .int .i64 (takeN s.data.toList).2]) ∧ Below w.heap.size w w' := by
  obtain ⟨R1, R2, hR⟩ : ∃ R1 R2, takeN s.data.toList = (R1, R2) := ⟨_, _, rfl⟩
  rw [hR]
  have HRR := Lib.hid hR
  have HR := Lib.hid hr
  clear hr hR
  by_cases h0 : s.data.toList = []
  · have hv : R1 = 0 ∧ R2 = 3 := by
      have := HRR.out
      unfold takeN at this
      rw [if_pos h0] at this
      injection this with a b
      exact ⟨a.symm, b.symm⟩
    have HV := Lib.hid hv
    have h1 : s.toList = [] := by rw [toList_dl]; exact h0
    clear hv h0
    go_enter Tryd.func86, Tryd.ntmps86
    go_wp2
    go_ret2
    exact ⟨by rw [HV.out.1, HV.out.2]; rfl, Below.refl _ _⟩
  · obtain ⟨g1, g2⟩ := ne_nil s (size_pos_of s h0)
    have H0 := Lib.hid h0
    clear h0
    rcases hp : Lib.parseIntB 64 s.data.toList with v | _ | _
    · have HP := Lib.hid hp
      clear hp
      go_enter Tryd.func86, Tryd.ntmps86
      go_wp2_with fail
      refine (Tryd.strconv_ParseInt_10_at64_ok s (by omega) v HP.out _).mono ?_
      rintro e w1 ⟨rfl, hw⟩
      have hb1 : Below w.heap.size w w1 := by
        rcases hw with rfl | ⟨t, rfl⟩
        · exact Below.refl _ _
        · exact Lib.bytesWorld_below _ _ _
      clear hw
      go_wp2_with fail
      refine (Tryd.Number v _ (HR.out.below hb1) (parseIntB_range _ _ HP.out)).mono ?_
      rintro e w2 ⟨rfl, hb2⟩
      by_cases he : Lib.itoa v = s.data.toList
      · have hv : R1 = v ∧ R2 = 0 := by
          have := HRR.out
          unfold takeN at this
          rw [if_neg H0.out, HP.out] at this
          simp only at this
          rw [if_pos he] at this
          injection this with a b
          exact ⟨a.symm, b.symm⟩
        have HV := Lib.hid hv
        clear hv
        go_wp2
        go_ret2
        exact ⟨by rw [HV.out.1, HV.out.2]; rfl, hb1.trans (hb2.mono hb1.size)⟩
      · have hv : R1 = 0 ∧ R2 = 4 := by
          have := HRR.out
          unfold takeN at this
          rw [if_neg H0.out, HP.out] at this
          simp only at this
          rw [if_neg he] at this
          injection this with a b
          exact ⟨a.symm, b.symm⟩
        have HV := Lib.hid hv
        have he' : (Lib.itoa v == s.toList) = false := by rw [toList_dl]; simpa using he
        clear hv he
        go_wp2
        go_ret2
        exact ⟨by rw [HV.out.1, HV.out.2]; rfl, hb1.trans (hb2.mono hb1.size)⟩
    · have hv : R1 = 0 ∧ R2 = 4 := by
        have := HRR.out
        unfold takeN at this
        rw [if_neg H0.out, hp] at this
        injection this with a b
        exact ⟨a.symm, b.symm⟩
      have HV := Lib.hid hv
      have HP := Lib.hid (show (∀ v, Lib.parseIntB 64 s.data.toList ≠ .ok v) ∧ Lib.parseIntB 64 s.data.toList ≠ .range by rw [hp]; exact ⟨(fun v h => by cases h), (fun h => by cases h)⟩)
      obtain ⟨ev, hc, hev⟩ := HR.out.2.2.1
      have HC := Lib.hid hc
      have HE := Lib.hid hev
      clear hp hv hc hev
      go_enter Tryd.func86, Tryd.ntmps86
      go_wp2_with fail
      refine (Tryd.ParseInt_none s (by omega) HP.out ev _ HC.out HE.out).mono ?_
      rintro e w1 ⟨N, rfl, hN, hN2, hb1⟩
      clear hN hN2
      go_wp2
      go_ret2
      exact ⟨by rw [HV.out.1, HV.out.2]; rfl, hb1⟩
    · have hv : R1 = 0 ∧ R2 = 4 := by
        have := HRR.out
        unfold takeN at this
        rw [if_neg H0.out, hp] at this
        injection this with a b
        exact ⟨a.symm, b.symm⟩
      have HV := Lib.hid hv
      have HP := Lib.hid hp
      obtain ⟨ev, hc, hev⟩ := HR.out.2.2.2
      have HC := Lib.hid hc
      have HE := Lib.hid hev
      clear hp hv hc hev
      go_enter Tryd.func86, Tryd.ntmps86
      go_wp2_with fail
      refine (Tryd.strconv_ParseInt_10_at64_range s (by omega) HP.out ev _ HC.out HE.out).mono ?_
      rintro e w1 ⟨N, rfl, hN, hN2, hb1⟩
      clear hN hN2
      go_wp2
      go_ret2
      exact ⟨by rw [HV.out.1, HV.out.2]; rfl, hb1⟩

set_option maxHeartbeats 4000000 in
set_option maxRecDepth 100000 in
theorem Tryd.iPrint (i : Idn) (w : World) (hr : Tryd.RdyN w) (h1 : i.nm.length ≤ 1000000000) (h2 : i.em.length ≤ 1000000000) :
    Calls Tryd.prog 44 #[idnV i] w fun e w' => e = .returned (.string ⟨(idnPrint i).toArray⟩) ∧ Below w.heap.size w w' := by
  obtain ⟨R, hR⟩ : ∃ R, idnPrint i = R := ⟨_, rfl⟩
  rw [hR]
  have HRR := Lib.hid hR
  have HR := Lib.hid hr
  clear hr hR
  obtain ⟨v, hv⟩ : ∃ v, idnOk i = v := ⟨_, rfl⟩
  have HV := Lib.hid hv
  clear hv
  have hb0 : Below w.heap.size w (w.alloc (.cells #[.string ⟨i.nm.toArray⟩, .string ⟨i.em.toArray⟩, .int .i64 i.wh, .int .i64 i.zn] 50)) := (Below.refl _ w).alloc (Nat.le_refl _) _
  have hk0 := heap_alloc_new w (.cells #[.string ⟨i.nm.toArray⟩, .string ⟨i.em.toArray⟩, .int .i64 i.wh, .int .i64 i.zn] 50 (0, 0))
  have HK0 := Lib.hid hk0
  have HLEN := Lib.hid (And.intro h1 h2)
  clear hk0 h1 h2
  go_enter Tryd.func44, Tryd.ntmps44
  go_wp2_with fail
  refine (Tryd.iRight i _ (HR.out.below hb0).1 HLEN.out.1 HLEN.out.2).mono ?_
  rintro e w1 ⟨rfl, hb1⟩
  rw [HV.out]
  cases v with
  | false =>
    go_wp2
    go_ret
    exact ⟨ret_str (by rw [← HRR.out]; unfold idnPrint; rw [HV.out]; rfl), hb0.trans (hb1.mono hb0.size)⟩
  | true =>
    have hk1 := (hb1.block w.heap.size (by simp)).trans HK0.out
    have hb1' := hb0.trans (hb1.mono hb0.size)
    obtain ⟨nm, em, wh, zn⟩ := i
    obtain ⟨p1, p2, p3, p4, p5⟩ := idn_parts _ HV.out
    dsimp only at p1 p2 p3 p4 p5
    have hz : -840 ≤ zn ∧ zn ≤ 840 := by unfold zonedB at p5; simpa using p5
    have hl1 := called_len _ p1
    have hl2 := called_len _ p2
    have c0 : w1.cell? ⟨w.heap.size, 0, none⟩ = some (.string ⟨nm.toArray⟩) := blk_cell hk1 0
    have c1 : w1.cell? ⟨w.heap.size, 1, none⟩ = some (.string ⟨em.toArray⟩) := blk_cell hk1 1
    have c2 : w1.cell? ⟨w.heap.size, 2, none⟩ = some (.int .i64 wh) := blk_cell hk1 2
    have c3 : w1.cell? ⟨w.heap.size, 3, none⟩ = some (.int .i64 zn) := blk_cell hk1 3
    have HK1 := Lib.hid hk1
    clear hk1 p1 p2 p5
    go_wp2
    refine region_below (by kernel_rfl) (by kernel_rfl) ?_
    have hcel : ∀ W, Below w1.heap.size w1 W → ∀ k, W.cell? ⟨w.heap.size, k, none⟩ = (#[.string ⟨nm.toArray⟩, .string ⟨em.toArray⟩, .int .i64 wh, .int .i64 zn] : Array Value)[k]? := fun W hW k => blk_cell ((hW.block _ (by have := hb1.size; simp at this; omega)).trans HK1.out) k
    have HC := Lib.hid hcel
    have hzl : (zoneL zn).length ≤ 5 := by rw [zoneL_length]; exact Nat.le_refl _
    have hi := Lib.itoa_length_le wh (by omega) (by omega)
    clear HK0 HK1 hb0 HLEN hcel
    repeat (refine wpQuiet_step (fun K hK => ?_); go_simp; first | (refine hK _ ?_; clear hK K) | (refine ⟨_, fun _ _ => rfl, hK _ ?_⟩; clear hK K) | (apply Exists.intro; refine ⟨fun W hW => ?_, hK _ ?_⟩; (rw [HC.out W hW]; exact ⟨rfl, rfl⟩); clear hK K) | (apply Exists.intro; refine ⟨fun W hW => ?_, hK _ ?_⟩; (rw [if_neg (by omega)]; exact ⟨rfl, rfl⟩); clear hK K) | (apply Exists.intro; refine ⟨fun _ hbq => ?_, hK _ ?_⟩; (go_at_call 93; exact below_step hbq (Tryd.Number _ _ ((HR.out.below hb1').below hbq) ⟨by omega, by omega⟩)); clear hK K) | (apply Exists.intro; refine ⟨fun _ hbq => ?_, hK _ ?_⟩; (go_at_call 90; exact below_step hbq (Tryd.izone _ _ (by omega) (by omega))); clear hK K))
    refine wpQuiet_nil ?_
    intro w2 hb2
    have hk2 := fun k => HC.out w2 hb2 k
    have d0 : w2.cell? ⟨w.heap.size, 0, none⟩ = some (.string ⟨nm.toArray⟩) := hk2 0
    clear hk2 c0 c1 c2 c3
    have hbF := hb1'.trans (hb2.mono hb1'.size)
    have hfin : (nm = [] → ((⟨#[60]⟩ : ByteArray) ++ ⟨em.toArray⟩ ++ ⟨#[62, 32]⟩ ++ ⟨(Lib.itoa wh).toArray⟩ ++ ⟨#[32]⟩ ++ ⟨(zoneL zn).toArray⟩) = ⟨R.toArray⟩) ∧
        (nm ≠ [] → (⟨nm.toArray⟩ : ByteArray) ++ ⟨#[32]⟩ ++ ((⟨#[60]⟩ : ByteArray) ++ ⟨em.toArray⟩ ++ ⟨#[62, 32]⟩ ++ ⟨(Lib.itoa wh).toArray⟩ ++ ⟨#[32]⟩ ++ ⟨(zoneL zn).toArray⟩) = ⟨R.toArray⟩) := by
      rw [← HRR.out]
      unfold idnPrint
      rw [HV.out, if_pos rfl]
      unfold idnL
      rw [show (⟨#[60]⟩ : ByteArray) = ⟨([60] : By).toArray⟩ from rfl, show (⟨#[62, 32]⟩ : ByteArray) = ⟨([62, 32] : By).toArray⟩ from rfl, show (⟨#[32]⟩ : ByteArray) = ⟨([32] : By).toArray⟩ from rfl]
      simp only [cat_by]
      refine ⟨fun h => ?_, fun h => ?_⟩
      · rw [if_pos h]; simp
      · rw [if_neg h]
    have HF := Lib.hid hfin
    clear hfin hb1' hb1 hb2 HC
    by_cases hn : nm = []
    · subst hn
      go_wp2
      go_ret
      exact ⟨congrArg (fun z => Ending.returned (.string z)) (HF.out.1 (by simp)), hbF⟩
    · have hn1 : nm.isEmpty = false := by simpa using hn
      go_wp2
      go_ret
      exact ⟨congrArg (fun z => Ending.returned (.string z)) (HF.out.2 hn), hbF⟩
end Go.Proofs.YtlhbbpagjkjplaaDoor
