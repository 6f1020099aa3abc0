/- Contracts and plain laws for the proofs of this seat: the reference's numbers. Conditions: those written at each theorem. -/
import Derived.Test.YtlhbbpagjkjplaaDoorIdC
import Derived.Test.YtlhbbpagjkjplaaDoorIdR
import Derived.Deep.RegionWith
set_option linter.unusedVariables false
set_option linter.unusedSimpArgs false
namespace Go.Proofs.YtlhbbpagjkjplaaDoor
open Go.RowKit Go.Proofs

/-- 'string(b)' of bytes that lie in a known block. -/
theorem upon_conv_blk {P : Program} {o : Oper} {a : Act} {K : Act → World → Prop} {Q : Exit → Act → World → Prop} (w : World) (b : Nat) (l : By) {src dst e T : TypeId} {cs : Array Value} {n m : Nat} {mk : Nat × Nat} (hs : P.underlying src = some (.slice e)) (he : P.underlying e = some (.int .u8)) (hd : P.underlying dst = some .string)
    (hn : n = l.length) (hcs : cs = (l.map fun c => Value.int .u8 (c.toNat : Int)).toArray) (hK : K (a.put o.dst (.string ⟨l.toArray⟩)) w) (hblk : w.heap[b]? = some (.cells cs T mk)) :
    o.upon P a K Q (((convert src dst (.slice (some ⟨b, 0, none⟩) n m)).run P w).andThen fun v w' => Result.ok (Next.value v) w') := by
  subst hn
  rw [run_convert_bytes_back (P := P) _ src dst e ⟨b, 0, none⟩ m l hs he hd fun j hj => ?_]
  · exact hK
  · have hadd : (⟨b, 0, none⟩ : Addr).add j = ⟨b, j, none⟩ := by unfold Addr.add; split <;> simp_all
    rw [hadd, cell_of_row _ _ j cs T mk hblk, hcs]
    simp [hj]

theorem conv_blk {P : Program} (w : World) (b : Nat) (l : By) {src dst e T : TypeId} {cs : Array Value} {n m : Nat} {mk : Nat × Nat} (hs : P.underlying src = some (.slice e)) (he : P.underlying e = some (.int .u8)) (hd : P.underlying dst = some .string)
    (hn : n = l.length) (hcs : cs = (l.map fun c => Value.int .u8 (c.toNat : Int)).toArray) (hblk : w.heap[b]? = some (.cells cs T mk)) :
    (convert src dst (.slice (some ⟨b, 0, none⟩) n m)).run P w = .ok (.string ⟨l.toArray⟩) w := by
  subst hn
  rw [run_convert_bytes_back (P := P) _ src dst e ⟨b, 0, none⟩ m l hs he hd fun j hj => ?_]
  have hadd : (⟨b, 0, none⟩ : Addr).add j = ⟨b, j, none⟩ := by unfold Addr.add; split <;> simp_all
  rw [hadd, cell_of_row _ _ j cs T mk hblk, hcs]
  simp [hj]

set_option maxHeartbeats 4000000 in
set_option maxRecDepth 100000 in
theorem Tryd.rdigits : ∀ (v : Nat) (w : World), v ≤ 1000000000000000 →
    Calls Tryd.prog 133 #[.int .u64 (v : Int)] w fun e w' => e = .returned (.string ⟨(Lib.decDigits v).toArray⟩) ∧ Below w.heap.size w w' := by
  intro v
  induction v using Nat.strongRecOn with
  | _ v ih =>
    intro w hv
    have IH := Lib.hid ih
    clear ih
    by_cases h10 : v < 10
    · have e1 : (v : Int) < 10 := by omega
      have hb : 1 = ([UInt8.ofNat (48 + v)] : By).length ∧ (#[Value.int .u8 (48 + (v : Int))] : Array Value) = (([UInt8.ofNat (48 + v)] : By).map fun c => Value.int .u8 (c.toNat : Int)).toArray := by
        refine ⟨rfl, ?_⟩
        simp only [List.map_cons, List.map_nil]
        rw [u8d _ h10]; simp
      rw [Lib.decDigits_one h10]
      obtain ⟨l, hl⟩ : ∃ l, ([UInt8.ofNat (48 + v)] : By) = l := ⟨_, rfl⟩
      rw [hl] at hb
      rw [hl]
      have HB := Lib.hid hb
      clear hb hl h10
      go_enter Tryd.func133, Tryd.ntmps133
      go_wp2
      refine upon_conv_lit w l Tryd.underlying28 Tryd.underlying5 Tryd.underlying9 HB.out.1 HB.out.2 ?_
      go_wp2
      go_ret
      exact ⟨rfl, (Below.refl _ w).alloc (Nat.le_refl _) _⟩
    · have e1 : ¬ (v : Int) < 10 := by omega
      have hx : v % 10 < 10 := Nat.mod_lt _ (by omega)
      have hb : 1 = ([UInt8.ofNat (48 + v % 10)] : By).length ∧ (#[Value.int .u8 (48 + (v : Int) % 10)] : Array Value) = (([UInt8.ofNat (48 + v % 10)] : By).map fun c => Value.int .u8 (c.toNat : Int)).toArray := by
        refine ⟨rfl, ?_⟩
        simp only [List.map_cons, List.map_nil]
        rw [u8d _ hx]; simp
      have hd : Lib.decDigits v = Lib.decDigits (v / 10) ++ [UInt8.ofNat (48 + v % 10)] := by rw [Lib.decDigits, dif_neg h10]
      rw [hd]
      have hc0 := fun W => IH.out (v / 10) (by omega) W (by omega)
      rw [show (((v / 10 : Nat)) : Int) = (v : Int) / 10 by omega] at hc0
      have HC := Lib.hid hc0
      clear hc0
      obtain ⟨l, hl⟩ : ∃ l, ([UInt8.ofNat (48 + v % 10)] : By) = l := ⟨_, rfl⟩
      obtain ⟨dl, hdl⟩ : ∃ dl, Lib.decDigits (v / 10) = dl := ⟨_, rfl⟩
      have hll : l.length ≤ 1 := by rw [← hl]; exact Nat.le_refl _
      have hdll : dl.length ≤ 20 := by
        rw [← hdl]
        have := nDigits_le19 (v / 10) (by omega)
        omega
      rw [hl] at hb
      rw [hl, hdl]
      rw [hdl] at HC
      have HB := Lib.hid hb
      clear hb hl h10 hd IH hdl hx
      have hi1 : IntKind.u64.wrap ((v : Int) / 10) = (v : Int) / 10 := IntWalk.u64_in _ ⟨by omega, by omega⟩
      have hi2 : (v : Int).tmod 10 = (v : Int) % 10 := IntWalk.rem_in _ _ (by omega)
      have hi3 : IntKind.u64.wrap (48 + (v : Int) % 10) = 48 + (v : Int) % 10 := IntWalk.u64_in _ ⟨by omega, by omega⟩
      have hi4 : IntKind.u8.wrap (48 + (v : Int) % 10) = 48 + (v : Int) % 10 := IntWalk.u8_in _ ⟨by omega, by omega⟩
      have hconv : ∀ (W : World) (b : Nat), W.heap[b]? = some (.cells #[.int .u8 (48 + (v : Int) % 10)] 5 (0, 0)) → (convert 28 9 (.slice (some ⟨b, 0, none⟩) 1 1)).run Tryd.prog W = .ok (.string ⟨l.toArray⟩) W := fun W b hb => conv_blk W b l Tryd.underlying28 Tryd.underlying5 Tryd.underlying9 HB.out.1 HB.out.2 hb
      have hconv1 : ∀ (W : World), (convert 28 9 (.slice (some ⟨W.heap.size, 0, none⟩) 1 1)).run Tryd.prog (W.alloc (.cells #[.int .u8 (48 + (v : Int) % 10)] 5)) = .ok (.string ⟨l.toArray⟩) (W.alloc (.cells #[.int .u8 (48 + (v : Int) % 10)] 5)) := fun W => hconv _ _ (heap_alloc_new W _)
      have hconv3 : ∀ (W : World), (convert 28 9 (.slice (some ⟨W.heap.size, 0, none⟩) 1 1)).run Tryd.prog (W.alloc (.cells #[.int .u8 (48 + (v : Int) % 10)] 5)).drew = .ok (.string ⟨l.toArray⟩) (W.alloc (.cells #[.int .u8 (48 + (v : Int) % 10)] 5)).drew := fun W => hconv (W.alloc (.cells #[.int .u8 (48 + (v : Int) % 10)] 5)).drew W.heap.size (heap_alloc_new W _)
      have HCONV := Lib.hid hconv
      clear hconv
      go_enter Tryd.func133, Tryd.ntmps133
      go_wp2_with fail
      go_region_with (first | (go_at_call 133; with_reducible refine (HC.out _).mono ?_; rintro e w' ⟨rfl, hbw⟩; try (have hblk : w'.heap[w.heap.size]? = some (.cells #[.int .u8 (48 + (v : Int) % 10)] 5 (0, 0)) := (hbw.block _ (by simp)).trans (heap_alloc_new _ _); have hc2 := HCONV.out w' _ hblk; clear hblk)) | fail)
      all_goals
        go_wp2
        go_ret
        refine ⟨congrArg (fun z => Ending.returned (.string z)) (cat_by dl l), ?_⟩
        first
          | exact (show Below w.heap.size w w' from ⟨hbw.os, hbw.tape, hbw.output, hbw.size, hbw.block⟩).alloc hbw.size _
          | exact (((Below.refl w.heap.size w).alloc (Nat.le_refl _) _).drew).trans (hbw.mono (by simp))
          | exact (((Below.refl w.heap.size w).alloc (Nat.le_refl _) _)).trans (hbw.mono (by simp))

set_option maxHeartbeats 2000000 in
set_option maxRecDepth 100000 in
theorem Tryd.rNumber (v : Int) (w : World) (h0 : -100000 ≤ v) (h1 : v ≤ 1000000000000000) :
    Calls Tryd.prog 94 #[.int .i64 v] w fun e w' => e = .returned (.string ⟨(Lib.itoa v).toArray⟩) ∧ Below w.heap.size w w' := by
  by_cases hn : v < 0
  · obtain ⟨n, hv⟩ : ∃ n : Nat, v.natAbs = n := ⟨_, rfl⟩
    have hvn : v = -(n : Int) := by omega
    subst hvn
    have hi : Lib.itoa (-(n : Int)) = 45 :: Lib.decDigits n := Lib.itoa_neg n (by omega)
    rw [hi]
    obtain ⟨dl, hdl⟩ : ∃ dl, Lib.decDigits n = dl := ⟨_, rfl⟩
    have hdll : dl.length ≤ 20 := by
      rw [← hdl]
      have := nDigits_le19 n (by omega)
      omega
    have HC := Lib.hid (fun W => Tryd.rdigits n W (by omega))
    rw [hdl] at HC ⊢
    clear hi hdl hv
    have hw1 : IntKind.i64.wrap (-(n : Int) + 1) = -(n : Int) + 1 := IntWalk.i64_in _ ⟨by omega, by omega⟩
    have hw2 : IntKind.i64.wrap (-(-(n : Int) + 1)) = (n : Int) - 1 := by rw [IntWalk.i64_in _ ⟨by omega, by omega⟩]; omega
    have hw3 : IntKind.u64.wrap ((n : Int) - 1) = (n : Int) - 1 := IntWalk.u64_in _ ⟨by omega, by omega⟩
    have hw4 : IntKind.u64.wrap ((n : Int) - 1 + 1) = (n : Int) := by rw [IntWalk.u64_in _ ⟨by omega, by omega⟩]; omega
    go_enter Tryd.func94, Tryd.ntmps94
    go_wp2_with fail
    with_reducible refine (HC.out _).mono ?_
    rintro e w1 ⟨rfl, hb1⟩
    go_wp2
    go_ret
    exact ⟨congrArg (fun z => Ending.returned (.string z)) (cat_by [45] dl), hb1⟩
  · obtain ⟨n, rfl⟩ := Int.eq_ofNat_of_zero_le (show 0 ≤ v by omega)
    rw [Lib.itoa_nonneg]
    have HC := Lib.hid (fun W => Tryd.rdigits n W (by omega))
    have hw3 : IntKind.u64.wrap (n : Int) = (n : Int) := IntWalk.u64_in _ ⟨by omega, by omega⟩
    have e1 : ¬ (n : Int) < 0 := hn
    go_enter Tryd.func94, Tryd.ntmps94
    go_wp2_with fail
    with_reducible refine (HC.out _).mono ?_
    rintro e w1 ⟨rfl, hb1⟩
    go_wp2
    go_ret
    exact ⟨rfl, hb1⟩
end Go.Proofs.YtlhbbpagjkjplaaDoor
