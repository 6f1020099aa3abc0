/- Contracts and plain laws for the proofs of this seat. Conditions: those written at each theorem. -/
import Derived.Test.YtlhbbpagjkjplaaDoorBld
namespace Go.Proofs.YtlhbbpagjkjplaaDoor
open Go.RowKit Go.Proofs

/-- A slice value that reads as bytes, below block B. -/
def RdB (w : World) (B : Nat) (v : Value) (l : List UInt8) : Prop :=
  ∃ A c, v = .slice A l.length c ∧ (l ≠ [] → ∃ ad : Addr, A = some ad ∧ ad.block < B ∧ ∀ j (h : j < l.length), w.cell? (ad.add j) = some (.int .u8 ((l[j]'h).toNat : Int)))

theorem addr_block_add (a : Addr) (n : Nat) : (a.add n).block = a.block := by unfold Addr.add; split <;> rfl

def hexD (n : Nat) : UInt8 := if n < 10 then UInt8.ofNat (48 + n) else UInt8.ofNat (87 + n)
def hexL (l : List UInt8) : List UInt8 := l.flatMap fun c => [hexD (c.toNat / 16), hexD (c.toNat % 16)]

theorem digits_at (n : Nat) (h : n < 16) : (⟨#[48, 49, 50, 51, 52, 53, 54, 55, 56, 57, 97, 98, 99, 100, 101, 102]⟩ : ByteArray)[n]'h = hexD n := by
  have hall : ∀ i : Fin 16, (⟨#[48, 49, 50, 51, 52, 53, 54, 55, 56, 57, 97, 98, 99, 100, 101, 102]⟩ : ByteArray)[i.val]'(i.isLt) = hexD i.val := by decide
  exact hall ⟨n, h⟩
theorem hexL_length (l : List UInt8) : (hexL l).length = 2 * l.length := by
  induction l with
  | nil => rfl
  | cons a l ih => simp only [hexL, List.flatMap_cons, List.length_append, List.length_cons, List.length_nil] at *; omega
theorem hexL_append (a b : List UInt8) : hexL (a ++ b) = hexL a ++ hexL b := by simp [hexL]
theorem hexL_snoc (l : List UInt8) (k : Nat) (x : UInt8) (h : k < l.length) (hx : l[k]'h = x) : hexL (l.take (k + 1)) = hexL (l.take k) ++ [hexD (x.toNat / 16)] ++ [hexD (x.toNat % 16)] := by
  rw [List.take_succ_eq_append_getElem h, hx, hexL_append]; simp [hexL]

set_option maxHeartbeats 4000000 in
set_option maxRecDepth 100000 in
theorem Tryd.Hex (v : Value) (l : List UInt8) (w : World) (hr : RdB w w.heap.size v l) (hl : l.length ≤ 1000000000) :
    Calls Tryd.prog 72 #[v] w fun e w' => e = .returned (.string ⟨(hexL l).toArray⟩) ∧ Below w.heap.size w w' := by
  obtain ⟨A, c, rfl, hA⟩ := hr
  go_enter Tryd.func72, Tryd.ntmps72
  go_wp2
  go_loopw [8] (fun i wr => ∃ k : Nat, k ≤ l.length ∧ i = .int .i64 k ∧ Tryd.IsB w.heap.size w.heap.size (hexL (l.take k)) wr ∧ Below w.heap.size w wr) (fun i _ => l.length - (intOf i).toNat)
  case atStart =>
    exact ⟨0, by omega, rfl, Lib.IsBuilderF.of (Lib.fresh_isBuilder 92 5 w), (Below.refl _ w).alloc (Nat.le_refl _) _⟩
  case round =>
    obtain ⟨k, hk, rfl, hI, hbw⟩ := hrel
    by_cases hlt : k < l.length
    · obtain ⟨ad, rfl, hadB, hcell⟩ := hA (by intro e; simp [e] at hlt)
      have hc : wr.cell? (ad.add k) = some (.int .u8 ((l[k]'hlt).toNat : Int)) := by
        rw [hbw.cell (by rw [addr_block_add]; exact hadB)]; exact hcell k hlt
      obtain ⟨x, hx⟩ : ∃ x : UInt8, l[k]'hlt = x := ⟨_, rfl⟩
      rw [hx] at hc
      have hx2 : x.toNat < 256 := x.toNat_lt
      have hd1 : 0 ≤ (x.toNat : Int) / 16 ∧ (x.toNat : Int) / 16 < 16 := by omega
      have hs1 := hexL_snoc l k x hlt hx
      have HS := Lib.hid hs1
      clear hs1 hA hcell
      go_wp2_with fail
      refine (Tryd.WriteByte _ _ _ _ _ hI ?_ ?_).mono ?_
      · rw [hexL_length, List.length_take]; omega
      · exact hbw.size
      rintro e w1 ⟨rfl, hI1, hb1, ho1⟩
      go_wp2_with fail
      refine (Tryd.WriteByte _ _ _ _ _ hI1 ?_ ?_).mono ?_
      · rw [List.length_append, hexL_length, List.length_take]; simp; omega
      · have := hbw.size; have := hb1.size; omega
      rintro e w2 ⟨rfl, hI2, hb2, ho2⟩
      go_wp2
      go_roundw
      case rel =>
        refine ⟨k + 1, by omega, by go_num, ?_, (hbw.trans hb1).trans hb2⟩
        rw [HS.out, ← digits_at _ (by omega), ← digits_at _ (by omega)]
        exact hI2
      case measure => simp [intOf]; omega
    · obtain rfl : k = l.length := by omega
      rw [List.take_length] at hI
      go_wp2_with fail
      refine (Tryd.BString _ _ _ _ hI hbw.size).mono ?_
      rintro e w1 ⟨rfl, hI1, hb1, ho1⟩
      go_wp2
      go_ret
      exact ⟨rfl, hbw.trans hb1⟩
end Go.Proofs.YtlhbbpagjkjplaaDoor
