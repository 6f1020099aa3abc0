/- Contracts and plain laws for the proofs of this seat. Conditions: those written at each theorem. -/
import Derived.Test.YtlhbbpagjkjplaaDoorStr
import Derived.Laws.Runes
import Derived.Lib.RuneCountTail
import Derived.Lib.QuoteLoop
set_option linter.unusedVariables false
set_option linter.unusedSimpArgs false
/-! strings.IndexRune, IndexAny at sets of ASCII signs, whatever the text. -/
namespace Go.Proofs.YtlhbbpagjkjplaaDoor
open Go.RowKit Go.Proofs

theorem quiet_add_same {P : Program} {f : FuncId} {args : Array Value} {w : World} {a n : Nat} {v : Value}
    (h : Calls P f args (w.drewN (a + n)) fun e w' => e = .returned v ∧ w' = w.drewN (a + n)) :
    Calls P f args (w.drewN (a + n)) fun e w'' => e = .returned v ∧ ∃ m, w'' = w.drewN (a + m) :=
  h.mono fun _ _ ⟨he, hm⟩ => ⟨he, n, hm⟩

theorem belowN {B : Nat} {a w : World} (h : Below B a w) (n : Nat) : Below B a (w.drewN n) := ⟨h.os, h.tape, h.output, h.size, h.block⟩

def asciiL (l : By) : Prop := ∀ (j : Nat) (b : UInt8), l[j]? = some b → b.toNat < 128

set_option maxHeartbeats 4000000 in
set_option maxRecDepth 100000 in
theorem Tryd.IndexRune_err (s : ByteArray) (w : World) (hs : s.size ≤ 1000000) (ha : asciiL s.data.toList) :
    Calls Tryd.prog 143 #[.string s, .int .i32 65533] w fun e w' => e = .returned (.int .i64 (-1)) ∧ Below w.heap.size w w' := by
  go_enter Tryd.func143, Tryd.ntmps143
  go_wp2
  go_loopw [] (fun wr => ∃ pos : Nat, pos ≤ s.size ∧ wr.heap[w.heap.size]? = some (.stringIter s pos) ∧ Below w.heap.size w wr) (fun wr => s.size - wr.iterPos w.heap.size)
  case atStart =>
    refine ⟨0, by omega, ?_, (Below.refl _ w).alloc (Nat.le_refl _) _⟩
    have := World.iter_heap w s 0
    simpa using this
  case round =>
    obtain ⟨pos, hpos, hit, hbw⟩ := hrel
    have hsz : w.heap.size < wr.heap.size := (Array.getElem?_eq_some_iff.1 hit).1
    by_cases hp : pos < s.size
    · obtain ⟨c, hc⟩ : ∃ c : UInt8, s[pos]'hp = c := ⟨_, rfl⟩
      have hc2 : c.toNat < 128 := ha pos c (by rw [← hc, get_dl]; exact List.getElem?_eq_getElem _)
      have hnx : ∀ ty, (Instr.next (.pointer (some ⟨w.heap.size, 0, none⟩)) true ty).run Tryd.prog wr = _ := fun ty => (Lib.run_next_ascii_at wr w.heap.size s pos ty hit hp (by rw [hc]; exact hc2))
      have e1 : ((c.toNat : Int) == 65533) = false := beqI_f (by omega)
      go_wp2
      go_roundw
      case rel => exact ⟨pos + 1, by omega, Lib.iterAt_heap _ _ _ _ _ hit, Lib.below_iterAt hbw (Nat.le_refl _) _ _⟩
      case measure => simp only [World.iterPos, Lib.iterAt_heap wr w.heap.size s pos (pos + 1) hit, hit]; omega
    · have hnx : ∀ ty, (Instr.next (.pointer (some ⟨w.heap.size, 0, none⟩)) true ty).run Tryd.prog wr = _ := fun ty => Lib.run_next_end_at wr w.heap.size s pos ty hit hp
      go_wp2
      go_ret
      exact ⟨rfl, hbw⟩

theorem indexByte_none (l : By) (x : UInt8) (h : ∀ b ∈ l, b ≠ x) : Lib.indexByte l x = -1 := by
  induction l with
  | nil => rfl
  | cons a l ih =>
    unfold Lib.indexByte
    have h1 : (a == x) = false := by simpa using h a (by simp)
    rw [h1, ih fun b hb => h b (by simp [hb])]
    rfl

set_option maxHeartbeats 4000000 in
set_option maxRecDepth 1000000 in
theorem Tryd.IndexRune_valid (s : ByteArray) (r : Nat) (w : World) (hs : s.size ≤ 1000000) (ha : asciiL s.data.toList) (hr : 128 ≤ r) (hr1 : r ≤ 1114111) (hr2 : r ≠ 65533) (hv : Utf8.valid (r : Int) = true) :
    Calls Tryd.prog 143 #[.string s, .int .i32 (r : Int)] w fun e w' => e = .returned (.int .i64 (-1)) ∧ Below w.heap.size w w' := by
  obtain ⟨h1, h2, h3⟩ := encode_facts (r : Int) hv (by omega)
  obtain ⟨rs, hrs⟩ : ∃ rs, Utf8.encode (r : Int) = rs := ⟨_, rfl⟩
  rw [hrs] at h1 h2 h3
  obtain ⟨k, hk⟩ : ∃ k, rs.size = k + 1 := ⟨rs.size - 1, by omega⟩
  have hkl : k < rs.size := by omega
  obtain ⟨y, hy⟩ : ∃ y : UInt8, rs[k]'hkl = y := ⟨_, rfl⟩
  have hy2 : 128 ≤ y.toNat := by
    have : rs.size - 1 = k := by omega
    rw [← hy]; simp only [this] at h3; exact h3 hkl
  have hkk : k ≤ 3 := by omega
  have HS := Lib.hid hs
  have HA := Lib.hid ha
  clear h3 h1 h2
  have e1 : ((r : Int) == 65533) = false := beqI_f (by omega)
  have e2 : (128 : Int) ≤ (r : Int) := by omega
  have e3 : decide ((r : Int) < 128) = false := by simp; omega
  have HV := Lib.hid hv
  clear hv
  go_enter Tryd.func143, Tryd.ntmps143
  go_wp2_with fail
  refine (Tryd.utf8_ValidRune _ _).mono ?_
  rintro e w' ⟨rfl, rfl⟩
  rw [show Lib.validRune (r : Int) = true by
    unfold Lib.validRune; unfold Utf8.valid at HV; have := HV.out; simp at this ⊢; omega]
  go_wp2
  go_step3
  go_wp2
  go_loop [9] (fun i => i = .int .i64 (k : Int)) (fun _ => 0)
  case atStart => rfl
  case round =>
    obtain rfl := hrel
    by_cases hlt : k < s.size
    · obtain ⟨x, hx⟩ : ∃ x : UInt8, s[k]'hlt = x := ⟨_, rfl⟩
      have hx2 : x.toNat < 128 := HA.out k x (by rw [← hx, get_dl]; exact List.getElem?_eq_getElem _)
      have hne : ((x.toNat : Int) != (y.toNat : Int)) = true := by simp; omega
      have hib : ∀ W, Calls Tryd.prog 171 #[.string (s.extract (k + 1) s.size), .int .u8 (y.toNat : Int)] W fun e w' => e = .returned (.int .i64 (-1)) ∧ w' = W := fun W => by
        refine (Tryd.strings_IndexByte _ _ W).mono ?_
        rintro e w' ⟨rfl, rfl⟩
        refine ⟨?_, rfl⟩
        rw [indexByte_none]
        intro b hb e
        rw [Lib.extract_data] at hb
        have hb' := List.mem_of_mem_drop (List.mem_of_mem_take hb)
        obtain ⟨j, hj, hjb⟩ := List.getElem_of_mem hb'
        have := HA.out j b (by rw [← hjb]; exact List.getElem?_eq_getElem _)
        rw [e, Int.toNat_natCast] at this
        simp at this
        omega
      have HIB := Lib.hid hib
      clear hib
      go_wp2
      go_step3
      go_wp2
      go_quiet (fail)
      go_wp2
      go_quiet ((go_at_call 171; exact quiet_add_same (HIB.out _)))
      go_wp2
      rw [Exit.noGoto_ret]
      simp +zetaDelta only [Exit.then, Exit.inBlock, Exit.noGoto_ret]
      go_ret
      exact ⟨rfl, belowN (Below.refl _ _) _⟩
    · go_wp2
      go_ret
      exact ⟨rfl, Below.refl _ _⟩

/-- IndexRune, in a text of ASCII signs, of a rune that is none. -/
theorem Tryd.IndexRune_high (s : ByteArray) (r : Nat) (w : World) (hs : s.size ≤ 1000000) (ha : asciiL s.data.toList) (hr : 128 ≤ r) (hr1 : r ≤ 1114111) (hv : Utf8.valid (r : Int) = true) :
    Calls Tryd.prog 143 #[.string s, .int .i32 (r : Int)] w fun e w' => e = .returned (.int .i64 (-1)) ∧ Below w.heap.size w w' := by
  by_cases h : r = 65533
  · subst h; exact Tryd.IndexRune_err s w hs ha
  · exact Tryd.IndexRune_valid s r w hs ha hr hr1 h hv

/-- The decoder's runes are valid. -/
theorem dec_valid (s : ByteArray) (pos : Nat) : Utf8.valid ((Utf8.decode s pos).1 : Int) = true := by
  have h := Lib.rune_valid (s.extract pos s.size)
  rw [Lib.tail_decode, Nat.add_zero] at h
  unfold Lib.validRune at h
  unfold Utf8.valid
  simp at h ⊢
  omega

theorem zeroValue_asciiSet (w : World) : (zeroValue 159).run Tryd.prog w = .ok (.agg (Array.replicate 256 (.bool false))) w := by kernel_rfl

theorem noAny_high {l cs : By} {pos n : Nat} (h : Lib.NoAny l cs pos) (hc : asciiL cs) (hh : ∀ j (hj : j < l.length), pos ≤ j → j < pos + n → 128 ≤ (l[j]'hj).toNat) : Lib.NoAny l cs (pos + n) := by
  intro j b hb hj
  by_cases hp : j < pos
  · exact h j b hp hj
  · obtain ⟨hlt, he⟩ := List.getElem?_eq_some_iff.1 hj
    have h1 := hh j hlt (by omega) hb
    rw [he] at h1
    cases hq : cs.contains b with
    | false => rfl
    | true =>
      rw [List.contains_iff_mem] at hq
      obtain ⟨i, hi, hib⟩ := List.getElem_of_mem hq
      have := hc i b (by rw [← hib]; exact List.getElem?_eq_getElem _)
      omega

set_option maxHeartbeats 4000000 in
set_option maxRecDepth 100000 in
/-- IndexAny at a short text, whatever its bytes. -/
theorem Tryd.IndexAny_short (s cs : ByteArray) (w : World) (h2 : 2 ≤ cs.size) (hcs : cs.size ≤ 1000000) (h8 : s.size ≤ 8) (ha : asciiL cs.data.toList) :
    Calls Tryd.prog 107 #[.string s, .string cs] w fun e w' => e = .returned (.int .i64 (Lib.indexAny s.data.toList cs.data.toList)) ∧ Below w.heap.size w w' := by
  have e1 : ((cs.size : Int) == 1) = false := beqI_f (by omega)
  obtain ⟨e2, e3⟩ := ne_nil cs (by omega)
  have HA := Lib.hid ha
  clear ha
  go_enter Tryd.func107, Tryd.ntmps107
  go_wp2_with fail
  refine (Tryd.strings_shouldUseASCIISet _ _).mono ?_
  rintro e w' ⟨rfl, rfl⟩
  have e4 : decide ((8 : Int) < (s.size : Int)) = false := by simp; omega
  rw [e4]
  go_wp2
  go_loopw [] (fun wr => ∃ pos : Nat, pos ≤ s.size ∧ wr.heap[w'.heap.size]? = some (.stringIter s pos) ∧ Below w'.heap.size w' wr ∧ Hid (Lib.NoAny s.data.toList cs.data.toList pos)) (fun wr => s.size - wr.iterPos w'.heap.size)
  case atStart =>
    refine ⟨0, by omega, ?_, (Below.refl _ w').alloc (Nat.le_refl _) _, Lib.NoAny.zero _ _⟩
    have := World.iter_heap w' s 0
    simpa using this
  case round =>
    obtain ⟨pos, hpos, hit, hbw, hna⟩ := hrel
    have hsz : w'.heap.size < wr.heap.size := (Array.getElem?_eq_some_iff.1 hit).1
    have hsz0 := hbw.size
    by_cases hp : pos < s.size
    · have hitn := fun p => Lib.iterAt_heap wr w'.heap.size s pos p hit
      have hbn := fun p => Lib.below_iterAt hbw (k := w'.heap.size) (Nat.le_refl _) s p
      have hszn : ∀ p, w'.heap.size ≤ (wr.iterAt w'.heap.size s p).heap.size := fun p => by rw [Lib.iterAt_size]; omega
      obtain ⟨c, hc⟩ : ∃ c : UInt8, s[pos]'hp = c := ⟨_, rfl⟩
      by_cases ha : c.toNat < 128
      · have hnx : ∀ ty, (Instr.next (.pointer (some ⟨w'.heap.size, 0, none⟩)) true ty).run Tryd.prog wr = _ := fun ty => (Lib.run_next_any_at wr w'.heap.size s pos ty hit hp).trans (by rw [dec_ascii s pos hp c hc ha])
        have hcl : s.data.toList[pos]? = some c := by rw [← hc, get_dl]; exact List.getElem?_eq_getElem _
        have HCL := Lib.hid hcl
        clear hcl
        go_wp2_with fail
        refine (Tryd.strings_IndexRune_ascii cs _ _ (by omega) (by omega)).mono ?_
        rintro e w2 ⟨rfl, rfl⟩
        have hcn : (Int.toNat (c.toNat : Int)).toUInt8 = c := by rw [Int.toNat_natCast]; simp
        rw [hcn]
        cases hq : cs.data.toList.contains c with
        | true =>
          have hr : Lib.indexAny s.data.toList cs.data.toList = pos := Lib.indexAny_hit hna.out HCL.out hq
          have HR := Lib.hid hr
          rw [Lib.contains_iff_indexByte] at hq
          have hge : (0 : Int) ≤ Lib.indexByte cs.data.toList c := of_decide_eq_true hq
          obtain ⟨v, hv⟩ : ∃ v, Lib.indexByte cs.data.toList c = v := ⟨_, rfl⟩
          rw [hv] at hge
          rw [hv]
          clear hr hq hv
          go_wp2
          go_ret
          exact ⟨ret_i64 HR.out.symm, hbn _⟩
        | false =>
          have hna2 := Lib.hid (hna.out.succ HCL.out hq)
          rw [Lib.contains_iff_indexByte] at hq
          have hge : ¬ (0 : Int) ≤ Lib.indexByte cs.data.toList c := of_decide_eq_false hq
          obtain ⟨v, hv⟩ : ∃ v, Lib.indexByte cs.data.toList c = v := ⟨_, rfl⟩
          rw [hv] at hge
          rw [hv]
          clear hq hv
          go_wp2
          go_roundw
          case rel => exact ⟨pos + 1, by omega, hitn _, hbn _, hna2⟩
          case measure => simp only [World.iterPos, hitn, hit]; omega
      · obtain ⟨hr0, hn1, hpn, hall⟩ := dec_high s pos hp (by rw [hc]; omega)
        have hv := dec_valid s pos
        have hle := Lib.rune_le s pos
        obtain ⟨r, n, hdec⟩ : ∃ r n : Nat, Utf8.decode s pos = (r, n) := ⟨_, _, rfl⟩
        rw [hdec] at hr0 hn1 hpn hall hv hle
        dsimp only at hr0 hn1 hpn hall hv hle
        have hna2 := Lib.hid (noAny_high hna.out HA.out (fun j hj h1 h2 => hall j hj h1 h2) (n := n))
        have hnx : ∀ ty, (Instr.next (.pointer (some ⟨w'.heap.size, 0, none⟩)) true ty).run Tryd.prog wr = _ := fun ty => (Lib.run_next_any_at wr w'.heap.size s pos ty hit hp).trans (by rw [hdec])
        have HV := Lib.hid hv
        clear hdec hall hv
        go_wp2_with fail
        refine (Tryd.IndexRune_high cs r _ hcs HA.out hr0 hle HV.out).mono ?_
        rintro e w2 ⟨rfl, hb2⟩
        go_wp2
        go_roundw
        case rel => exact ⟨pos + n, by omega, iter_below hb2 (hitn _), (hbn _).trans (hb2.mono (hszn _)), hna2⟩
        case measure => simp only [World.iterPos, iter_below hb2 (hitn _), hit]; omega
    · have hnx : ∀ ty, (Instr.next (.pointer (some ⟨w'.heap.size, 0, none⟩)) true ty).run Tryd.prog wr = _ := fun ty => Lib.run_next_end_at wr w'.heap.size s pos ty hit hp
      have hle : pos = s.data.toList.length := by rw [← size_dl]; omega
      have hr : Lib.indexAny s.data.toList cs.data.toList = -1 := Lib.indexAny_none (by rw [← hle]; exact hna.out)
      have HR := Lib.hid hr
      clear hr hle
      go_wp2
      go_ret
      exact ⟨ret_i64 HR.out.symm, hbw⟩

/-- IndexAny at two ASCII signs or more. -/
theorem Tryd.IndexAny (s cs : ByteArray) (w : World) (h2 : 2 ≤ cs.size) (hcs : cs.size ≤ 1000000) (hs : s.size ≤ 1000000000) (ha : asciiL cs.data.toList) :
    Calls Tryd.prog 107 #[.string s, .string cs] w fun e w' => e = .returned (.int .i64 (Lib.indexAny s.data.toList cs.data.toList)) ∧ Below w.heap.size w w' := by
  by_cases h8 : s.size ≤ 8
  · exact Tryd.IndexAny_short s cs w h2 hcs h8 ha
  · refine (Tryd.strings_IndexAny_long (zeroValue_asciiSet) s cs w h2 (by omega) (by omega) (by omega) ha).mono ?_
    rintro e w' ⟨rfl, rfl⟩
    exact ⟨rfl, ((Below.refl _ w).alloc (Nat.le_refl _) _).alloc (by simp) _⟩
end Go.Proofs.YtlhbbpagjkjplaaDoor
