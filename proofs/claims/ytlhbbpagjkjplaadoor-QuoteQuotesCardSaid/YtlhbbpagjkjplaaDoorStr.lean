/- Contracts and plain laws for the proofs of this seat. Conditions: those written at each theorem. -/
import Derived.Test.YtlhbbpagjkjplaaDoorHex
import Derived.Test.YtlhbbpagjkjplaaDoorRune
import Derived.Laws.IdiomStrings
import Derived.Lib.RuneCountTail
set_option linter.unusedVariables false
set_option linter.unusedSimpArgs false
/-! Small laws for the walks: strings made of bytes; results. -/
namespace Go.Proofs.YtlhbbpagjkjplaaDoor
open Go.RowKit Go.Proofs

theorem ret_bool {a b : Bool} (h : a = b) : Ending.returned (.bool a) = .returned (.bool b) := by rw [h]
theorem ret_str {a b : By} (h : a = b) : Ending.returned (.string ⟨a.toArray⟩) = .returned (.string ⟨b.toArray⟩) := by rw [h]
theorem ret_i64 {a b : Int} (h : a = b) : Ending.returned (.int .i64 a) = .returned (.int .i64 b) := by rw [h]
theorem beqI_t {a b : Int} (h : a = b) : (a == b) = true := by simp [h]
theorem beqI_f {a b : Int} (h : a ≠ b) : (a == b) = false := by simp [h]
theorem toList_dl (s : ByteArray) : s.toList = s.data.toList := by
  have : ∀ (n i : Nat) (r : List UInt8), n = s.size - i → ByteArray.toList.loop s i r = r.reverse ++ s.data.toList.drop i := by
    intro n
    induction n with
    | zero =>
      intro i r h
      rw [ByteArray.toList.loop]
      rw [if_neg (by omega), List.drop_eq_nil_of_le (by show s.size ≤ i; omega)]; simp
    | succ n ih =>
      intro i r h
      rw [ByteArray.toList.loop]
      rw [if_pos (by omega), ih (i + 1) _ (by omega)]
      have hlt : i < s.data.toList.length := by show i < s.size; omega
      rw [List.drop_eq_getElem_cons hlt]
      have : s.get! i = s.data.toList[i] := by
        rw [← Go.Lib.getD_get!']; simp [List.getD, List.getElem?_eq_getElem hlt]
      simp [this]
  have := this s.size 0 [] (by omega)
  simpa [ByteArray.toList] using this
theorem ne_nil (s : ByteArray) (h : 0 < s.size) : (¬ s.toList = []) ∧ s.toList.isEmpty = false := by
  have : ¬ s.toList = [] := by
    rw [toList_dl]; intro e
    have h2 : s.size = s.data.toList.length := rfl
    rw [h2, e] at h; simp at h
  exact ⟨this, by simpa using this⟩
theorem is_nil (s : ByteArray) (h : s.size = 0) : s.toList = [] ∧ s.data.toList = [] := by
  have : s.data.toList = [] := List.eq_nil_of_length_eq_zero h
  exact ⟨by rw [toList_dl]; exact this, this⟩
theorem size_dl (s : ByteArray) : s.size = s.data.toList.length := rfl
theorem get_dl (s : ByteArray) (k : Nat) (h : k < s.size) : s[k]'h = s.data.toList[k]'h := rfl
theorem all_take_succ (s : ByteArray) (k : Nat) (h : k < s.size) (p : UInt8 → Bool) : (s.data.toList.take (k + 1)).all p = ((s.data.toList.take k).all p && p (s[k]'h)) := by
  rw [List.take_succ_eq_append_getElem (show k < s.data.toList.length from h), List.all_append]; simp [get_dl]
theorem all_of_take_false (l : By) (k : Nat) (p : UInt8 → Bool) (h : (l.take k).all p = false) : l.all p = false := by
  rw [← List.take_append_drop k l, List.all_append, h]; rfl
theorem beq_u8 (c d : UInt8) : (c == d) = (c.toNat == d.toNat) := by
  rw [Bool.eq_iff_iff, beq_iff_eq, beq_iff_eq]; exact ⟨fun h => by rw [h], fun h => UInt8.toNat_inj.1 h⟩
theorem u8n (n : Nat) (h : n < 256) : ((UInt8.ofNat n).toNat : Int) = (n : Int) := by
  rw [UInt8.toNat_ofNat_of_lt' (by simpa using h)]

/-- The decoder, at a place. -/
theorem dec_ascii (s : ByteArray) (pos : Nat) (h : pos < s.size) (c : UInt8) (hc : s[pos]'h = c) (ha : c.toNat < 128) : Utf8.decode s pos = (c.toNat, 1) := by
  subst hc; exact decode_ascii s pos h ha
theorem dec_high (s : ByteArray) (pos : Nat) (h : pos < s.size) (ha : 128 ≤ (s[pos]'h).toNat) :
    128 ≤ (Utf8.decode s pos).1 ∧ 1 ≤ (Utf8.decode s pos).2 ∧ pos + (Utf8.decode s pos).2 ≤ s.size ∧ ∀ j (hj : j < s.size), pos ≤ j → j < pos + (Utf8.decode s pos).2 → 128 ≤ (s[j]'hj).toNat := by
  have he : s.data.toList.drop pos = s[pos]'h :: s.data.toList.drop (pos + 1) := List.drop_eq_getElem_cons (show pos < s.data.toList.length from h)
  obtain ⟨h1, h2, h3, h4⟩ := decL_high (s[pos]'h) (s.data.toList.drop (pos + 1)) ha
  rw [← he, Lib.decodeL_drop] at h1 h2 h3 h4
  rw [List.length_drop] at h3
  have hsz : s.data.toList.length = s.size := rfl
  refine ⟨h1, h2, by omega, fun j hj hp hjd => ?_⟩
  have hmem : s[j]'hj ∈ (s.data.toList.drop pos).take (Utf8.decode s pos).2 := by
    rw [List.mem_iff_getElem]
    refine ⟨j - pos, by rw [List.length_take, List.length_drop]; omega, ?_⟩
    rw [List.getElem_take, List.getElem_drop, get_dl]
    congr 1; omega
  exact h4 _ hmem

/-- 'string([]byte{..})' right behind the literal's block. -/
theorem conv_lit {P : Program} (w : World) (src dst e : TypeId) (cs : Array Value) (l : By) (n m : Nat) (hs : P.underlying src = some (.slice e)) (he : P.underlying e = some (.int .u8)) (hd : P.underlying dst = some .string)
    (hn : n = l.length) (hcs : cs = (l.map fun c => Value.int .u8 (c.toNat : Int)).toArray) :
    (convert src dst (.slice (some ⟨w.heap.size, 0, none⟩) n m)).run P (w.alloc (.cells cs e)) = .ok (.string ⟨l.toArray⟩) (w.alloc (.cells cs e)) := by
  subst hn
  refine run_convert_bytes_back (P := P) _ src dst e ⟨w.heap.size, 0, none⟩ m l hs he hd fun j hj => ?_
  have h1 : (w.alloc (.cells cs e)).heap[w.heap.size]? = some (.cells cs e (0, 0)) := heap_alloc_new w _
  have hadd : (⟨w.heap.size, 0, none⟩ : Addr).add j = ⟨w.heap.size, j, none⟩ := by unfold Addr.add; split <;> simp_all
  rw [hadd, cell_of_row _ _ j cs e (0, 0) h1, hcs]
  simp [hj]

theorem upon_conv_lit {P : Program} {o : Oper} {a : Act} {K : Act → World → Prop} {Q : Exit → Act → World → Prop} (w : World) (l : By) {src dst e : TypeId} {cs : Array Value} {n m : Nat} (hs : P.underlying src = some (.slice e)) (he : P.underlying e = some (.int .u8)) (hd : P.underlying dst = some .string)
    (hn : n = l.length) (hcs : cs = (l.map fun c => Value.int .u8 (c.toNat : Int)).toArray) (hK : K (a.put o.dst (.string ⟨l.toArray⟩)) (w.alloc (.cells cs e))) :
    o.upon P a K Q (((convert src dst (.slice (some ⟨w.heap.size, 0, none⟩) n m)).run P (w.alloc (.cells cs e))).andThen fun v w' => Result.ok (Next.value v) w') := by
  rw [conv_lit w src dst e cs l n m hs he hd hn hcs]
  exact hK

/-- A region that draws its order, whose operations read no memory that is new and whose calls only make memory: one walk of the text's order serves. -/
theorem region_below {P : Program} {id : Nat} {Q : Exit → Act → World → Prop} {a : Act} {w : World} {l : List Oper} (hm : P.follows .mixedOrders = true) (hB : Region.lexB .any l.toArray = true)
    (h : wpQuiet P l.toArray (fun w' => Below w.heap.size w w') (fun a' => ∀ w', Below w.heap.size w w' → Q .normal a' w') l a) : (Code.region id l.toArray true).wp P Q a w :=
  wp_region_quiet (C := fun w' => Below w.heap.size w w') hm hB (Below.refl _ w).drew (by simpa using h)

/-- The step at a call. -/
theorem below_step {P : Program} {f : FuncId} {args : Array Value} {w W : World} {v : Value} (hb : Below w.heap.size w W) (h : Calls P f args W fun e w' => e = .returned v ∧ Below W.heap.size W w') :
    Calls P f args W fun e w' => e = .returned v ∧ Below w.heap.size w w' :=
  h.mono fun _ _ ⟨he, h2⟩ => ⟨he, hb.trans (h2.mono hb.size)⟩
theorem below_step_same {P : Program} {f : FuncId} {args : Array Value} {w W : World} {v : Value} (hb : Below w.heap.size w W) (h : Calls P f args W fun e w' => e = .returned v ∧ w' = W) :
    Calls P f args W fun e w' => e = .returned v ∧ Below w.heap.size w w' :=
  h.mono fun _ _ ⟨he, h2⟩ => ⟨he, h2 ▸ hb⟩

/-- The same at whatever class of worlds. -/
theorem region_class {P : Program} {id : Nat} {Q : Exit → Act → World → Prop} {a : Act} {w : World} {l : List Oper} (C : World → Prop) (hC : C w.drew) (hm : P.follows .mixedOrders = true) (hB : Region.lexB .any l.toArray = true)
    (h : wpQuiet P l.toArray C (fun a' => ∀ w', C w' → Q .normal a' w') l a) : (Code.region id l.toArray true).wp P Q a w :=
  wp_region_quiet (C := C) hm hB hC (by simpa using h)
def strSize : Value → Nat
  | .string s => s.size
  | _ => 0
end Go.Proofs.YtlhbbpagjkjplaaDoor
