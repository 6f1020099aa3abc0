/- Contracts and plain laws for the proofs of this seat: the reference's print of an ident. Conditions: those written at each theorem. -/
import Derived.Test.YtlhbbpagjkjplaaDoorIdG
set_option linter.unusedVariables false
set_option linter.unusedSimpArgs false
namespace Go.Proofs.YtlhbbpagjkjplaaDoor
open Go.RowKit Go.Proofs

set_option maxHeartbeats 4000000 in
set_option maxRecDepth 100000 in
theorem Tryd.rPrint06 (i : Idn) (w : World) (hr : Tryd.Rdy w) (h1 : i.nm.length ≤ 1000000000) (h2 : i.em.length ≤ 1000000000) :
    Calls Tryd.prog 45 #[idnV i] w fun e w' => e = .returned (.string ⟨(idnPrint i).toArray⟩) ∧ Below w.heap.size w w' := by
  obtain ⟨R, hR⟩ : ∃ R, idnPrint i = R := ⟨_, rfl⟩
  rw [hR]
  have HRR := Lib.hid hR
  have HR := Lib.hid hr
  clear hr hR
  obtain ⟨v, hv⟩ : ∃ v, idnOk i = v := ⟨_, rfl⟩
  have HV := Lib.hid hv
  clear hv
  have hb0 : Below w.heap.size w (w.alloc (.cells #[.string ⟨i.nm.toArray⟩, .string ⟨i.em.toArray⟩, .int .i64 i.wh, .int .i64 i.zn] 50)) := (Below.refl _ w).alloc (Nat.le_refl _) _
  have HK0 := Lib.hid (heap_alloc_new w (.cells #[.string ⟨i.nm.toArray⟩, .string ⟨i.em.toArray⟩, .int .i64 i.wh, .int .i64 i.zn] 50 (0, 0)))
  have HLEN := Lib.hid (And.intro h1 h2)
  clear h1 h2
  go_enter Tryd.func45, Tryd.ntmps45
  go_wp2_with fail
  refine (Tryd.rRight06 i _ (HR.out.below hb0) HLEN.out.1 HLEN.out.2).mono ?_
  rintro e w1 ⟨rfl, hb1⟩
  rw [HV.out]
  cases v with
  | false =>
    go_wp2
    go_ret
    exact ⟨ret_str (by rw [← HRR.out]; unfold idnPrint; rw [HV.out]; rfl), hb0.trans (hb1.mono hb0.size)⟩
  | true =>
    have hk1 := (hb1.block w.heap.size (by simp)).trans HK0.out
    have hb1' := hb0.trans (hb1.mono hb0.size)
    obtain ⟨nm, em, wh, zn⟩ := i
    obtain ⟨p1, p2, p3, p4, p5⟩ := idn_parts _ HV.out
    dsimp only at p1 p2 p3 p4 p5
    have hz : -840 ≤ zn ∧ zn ≤ 840 := by unfold zonedB at p5; simpa using p5
    have hl1 := called_len _ p1
    have hl2 := called_len _ p2
    have c0 : w1.cell? ⟨w.heap.size, 0, none⟩ = some (.string ⟨nm.toArray⟩) := blk_cell hk1 0
    have hsz1 : w.heap.size < w1.heap.size := by have := hb1.size; simp at this; omega
    have hcel : ∀ W, Below w1.heap.size w1 W → ∀ k, W.cell? ⟨w.heap.size, k, none⟩ = (#[.string ⟨nm.toArray⟩, .string ⟨em.toArray⟩, .int .i64 wh, .int .i64 zn] : Array Value)[k]? := fun W hW k => blk_cell ((hW.block _ hsz1).trans hk1) k
    have HC := Lib.hid hcel
    have hi := Lib.itoa_length_le wh (by omega) (by omega)
    have htl : ∀ n, (twoL n).length = 2 := fun _ => rfl
    have hwb : -100000 ≤ wh ∧ wh ≤ 1000000000000000 := ⟨by omega, by omega⟩
    have HWB := Lib.hid hwb
    obtain ⟨q, hq⟩ : ∃ q : Nat, zn.natAbs = q := ⟨_, rfl⟩
    have hq2 : q ≤ 840 := by omega
    have g1 : IntKind.i64.wrap ((q : Int) / 60) = (q : Int) / 60 := IntWalk.i64_in _ ⟨by omega, by omega⟩
    have g2 : (q : Int).tmod 60 = (q : Int) % 60 := IntWalk.rem_in _ _ (by omega)
    have g3 : (q : Int).tdiv 60 = (q : Int) / 60 := rfl
    have h60 : Hid (((q : Int) / 60).toNat = q / 60 ∧ ((q : Int) % 60).toNat = q % 60) := ⟨by omega, by omega⟩
    have hzl : zoneL zn = (if zn < 0 then 45 else 43) :: (twoL (q / 60) ++ twoL (q % 60)) := by unfold zoneL; rw [hq]
    have hfin : ∀ A : By, (if nm = [] then [] else nm ++ [32]) = A → ∀ sg : UInt8, (if zn < 0 then 45 else 43) = sg → ((⟨A.toArray⟩ : ByteArray) ++ ⟨#[60]⟩ ++ ⟨em.toArray⟩ ++ ⟨#[62, 32]⟩ ++ ⟨(Lib.itoa wh).toArray⟩ ++ ⟨#[32]⟩ ++ ⟨#[sg]⟩ ++ ⟨(twoL (q / 60)).toArray⟩ ++ ⟨(twoL (q % 60)).toArray⟩) = ⟨R.toArray⟩ := by
      intro A hA sg hsg
      rw [← HRR.out]
      unfold idnPrint
      rw [HV.out, if_pos rfl]
      unfold idnL
      rw [hA, hzl, hsg]
      rw [show (⟨#[60]⟩ : ByteArray) = ⟨([60] : By).toArray⟩ from rfl, show (⟨#[62, 32]⟩ : ByteArray) = ⟨([62, 32] : By).toArray⟩ from rfl, show (⟨#[32]⟩ : ByteArray) = ⟨([32] : By).toArray⟩ from rfl, show (⟨#[sg]⟩ : ByteArray) = ⟨([sg] : By).toArray⟩ from rfl]
      simp only [cat_by]
      simp
    have HF := Lib.hid hfin
    have HB1' := Lib.hid hb1'
    clear HK0 hb0 HLEN hcel hk1 p1 p2 p5 hzl hfin hwb hb1 hb1' HRR HV
    by_cases hn : nm = []
    · have HN := Lib.hid hn
      have hn0 : nm.isEmpty = true := by simp [hn]
      by_cases hneg : zn < 0
      · have hzq : zn = -(q : Int) := by omega
        have HZ := Lib.hid hneg
        have e1 : -(q : Int) < 0 := by omega
        subst hzq
        clear hneg hq
        go_upto_region 6 with (fail)
        refine region_below (by kernel_rfl) (by kernel_rfl) ?_
        repeat (refine wpQuiet_step (fun K hK => ?_); go_simp; first | (refine hK _ ?_; clear hK K) | (refine ⟨_, fun _ _ => rfl, hK _ ?_⟩; clear hK K) | (apply Exists.intro; refine ⟨fun W hW => ?_, hK _ ?_⟩; (rw [HC.out W hW]; exact ⟨rfl, rfl⟩); clear hK K) | (apply Exists.intro; refine ⟨fun W hW => ?_, hK _ ?_⟩; (rw [if_neg (by omega)]; exact ⟨rfl, rfl⟩); clear hK K))
        refine wpQuiet_nil ?_
        intro w2 hb2
        have HB2 := Lib.hid hb2
        have hsz2 := hb2.size
        clear hb2
        go_upto_region 9 with (fail)
        refine region_below (by kernel_rfl) (by kernel_rfl) ?_
        repeat (refine wpQuiet_step (fun K hK => ?_); go_simp; first | (refine hK _ ?_; clear hK K) | (refine ⟨_, fun _ _ => rfl, hK _ ?_⟩; clear hK K) | (apply Exists.intro; refine ⟨fun W hW => ?_, hK _ ?_⟩; (rw [HC.out W (HB2.out.trans (hW.mono HB2.out.size))]; exact ⟨rfl, rfl⟩); clear hK K) | (apply Exists.intro; refine ⟨fun W hW => ?_, hK _ ?_⟩; (rw [if_neg (by omega)]; exact ⟨rfl, rfl⟩); clear hK K) | (apply Exists.intro; refine ⟨fun _ hbq => ?_, hK _ ?_⟩; (go_at_call 94; exact below_step hbq (Tryd.rNumber _ _ HWB.out.1 HWB.out.2)); clear hK K) | (apply Exists.intro; refine ⟨fun _ hbq => ?_, hK _ ?_⟩; (go_at_call 95; exact below_step hbq (Tryd.rtwo _ _ (by omega) (by omega))); clear hK K))
        refine wpQuiet_nil ?_
        intro w3 hb3
        have HB3 := Lib.hid (HB1'.out.trans ((HB2.out.trans (hb3.mono HB2.out.size)).mono HB1'.out.size))
        clear hb3
        go_wp2
        go_ret
        refine ⟨?_, HB3.out⟩
        exact congrArg (fun z => Ending.returned (.string z)) (Eq.trans (by apply ByteArray.ext; simp [ByteArray.data_append, h60.out.1, h60.out.2]) (HF.out [] (by rw [if_pos HN.out]) 45 (by rw [if_pos (by omega)])))
      · have hzq : zn = (q : Int) := by omega
        have HZ := Lib.hid hneg
        have e1 : ¬ (q : Int) < 0 := by omega
        subst hzq
        clear hneg hq
        go_upto_region 6 with (fail)
        refine region_below (by kernel_rfl) (by kernel_rfl) ?_
        repeat (refine wpQuiet_step (fun K hK => ?_); go_simp; first | (refine hK _ ?_; clear hK K) | (refine ⟨_, fun _ _ => rfl, hK _ ?_⟩; clear hK K) | (apply Exists.intro; refine ⟨fun W hW => ?_, hK _ ?_⟩; (rw [HC.out W hW]; exact ⟨rfl, rfl⟩); clear hK K) | (apply Exists.intro; refine ⟨fun W hW => ?_, hK _ ?_⟩; (rw [if_neg (by omega)]; exact ⟨rfl, rfl⟩); clear hK K))
        refine wpQuiet_nil ?_
        intro w2 hb2
        have HB2 := Lib.hid hb2
        have hsz2 := hb2.size
        clear hb2
        go_upto_region 9 with (fail)
        refine region_below (by kernel_rfl) (by kernel_rfl) ?_
        repeat (refine wpQuiet_step (fun K hK => ?_); go_simp; first | (refine hK _ ?_; clear hK K) | (refine ⟨_, fun _ _ => rfl, hK _ ?_⟩; clear hK K) | (apply Exists.intro; refine ⟨fun W hW => ?_, hK _ ?_⟩; (rw [HC.out W (HB2.out.trans (hW.mono HB2.out.size))]; exact ⟨rfl, rfl⟩); clear hK K) | (apply Exists.intro; refine ⟨fun W hW => ?_, hK _ ?_⟩; (rw [if_neg (by omega)]; exact ⟨rfl, rfl⟩); clear hK K) | (apply Exists.intro; refine ⟨fun _ hbq => ?_, hK _ ?_⟩; (go_at_call 94; exact below_step hbq (Tryd.rNumber _ _ HWB.out.1 HWB.out.2)); clear hK K) | (apply Exists.intro; refine ⟨fun _ hbq => ?_, hK _ ?_⟩; (go_at_call 95; exact below_step hbq (Tryd.rtwo _ _ (by omega) (by omega))); clear hK K))
        refine wpQuiet_nil ?_
        intro w3 hb3
        have HB3 := Lib.hid (HB1'.out.trans ((HB2.out.trans (hb3.mono HB2.out.size)).mono HB1'.out.size))
        clear hb3
        go_wp2
        go_ret
        refine ⟨?_, HB3.out⟩
        exact congrArg (fun z => Ending.returned (.string z)) (Eq.trans (by apply ByteArray.ext; simp [ByteArray.data_append, h60.out.1, h60.out.2]) (HF.out [] (by rw [if_pos HN.out]) 43 (by rw [if_neg (by omega)])))
    · have HN := Lib.hid hn
      have hn0 : nm.isEmpty = false := by simpa using hn
      by_cases hneg : zn < 0
      · have hzq : zn = -(q : Int) := by omega
        have HZ := Lib.hid hneg
        have e1 : -(q : Int) < 0 := by omega
        subst hzq
        clear hneg hq
        go_upto_region 6 with (fail)
        refine region_below (by kernel_rfl) (by kernel_rfl) ?_
        repeat (refine wpQuiet_step (fun K hK => ?_); go_simp; first | (refine hK _ ?_; clear hK K) | (refine ⟨_, fun _ _ => rfl, hK _ ?_⟩; clear hK K) | (apply Exists.intro; refine ⟨fun W hW => ?_, hK _ ?_⟩; (rw [HC.out W hW]; exact ⟨rfl, rfl⟩); clear hK K) | (apply Exists.intro; refine ⟨fun W hW => ?_, hK _ ?_⟩; (rw [if_neg (by omega)]; exact ⟨rfl, rfl⟩); clear hK K))
        refine wpQuiet_nil ?_
        intro w2 hb2
        have HB2 := Lib.hid hb2
        have hsz2 := hb2.size
        clear hb2
        go_upto_region 9 with (fail)
        refine region_below (by kernel_rfl) (by kernel_rfl) ?_
        repeat (refine wpQuiet_step (fun K hK => ?_); go_simp; first | (refine hK _ ?_; clear hK K) | (refine ⟨_, fun _ _ => rfl, hK _ ?_⟩; clear hK K) | (apply Exists.intro; refine ⟨fun W hW => ?_, hK _ ?_⟩; (rw [HC.out W (HB2.out.trans (hW.mono HB2.out.size))]; exact ⟨rfl, rfl⟩); clear hK K) | (apply Exists.intro; refine ⟨fun W hW => ?_, hK _ ?_⟩; (rw [if_neg (by omega)]; exact ⟨rfl, rfl⟩); clear hK K) | (apply Exists.intro; refine ⟨fun _ hbq => ?_, hK _ ?_⟩; (go_at_call 94; exact below_step hbq (Tryd.rNumber _ _ HWB.out.1 HWB.out.2)); clear hK K) | (apply Exists.intro; refine ⟨fun _ hbq => ?_, hK _ ?_⟩; (go_at_call 95; exact below_step hbq (Tryd.rtwo _ _ (by omega) (by omega))); clear hK K))
        refine wpQuiet_nil ?_
        intro w3 hb3
        have HB3 := Lib.hid (HB1'.out.trans ((HB2.out.trans (hb3.mono HB2.out.size)).mono HB1'.out.size))
        clear hb3
        go_wp2
        go_ret
        refine ⟨?_, HB3.out⟩
        exact congrArg (fun z => Ending.returned (.string z)) (Eq.trans (by apply ByteArray.ext; simp [ByteArray.data_append, h60.out.1, h60.out.2]) (HF.out (nm ++ [32]) (by rw [if_neg HN.out]) 45 (by rw [if_pos (by omega)])))
      · have hzq : zn = (q : Int) := by omega
        have HZ := Lib.hid hneg
        have e1 : ¬ (q : Int) < 0 := by omega
        subst hzq
        clear hneg hq
        go_upto_region 6 with (fail)
        refine region_below (by kernel_rfl) (by kernel_rfl) ?_
        repeat (refine wpQuiet_step (fun K hK => ?_); go_simp; first | (refine hK _ ?_; clear hK K) | (refine ⟨_, fun _ _ => rfl, hK _ ?_⟩; clear hK K) | (apply Exists.intro; refine ⟨fun W hW => ?_, hK _ ?_⟩; (rw [HC.out W hW]; exact ⟨rfl, rfl⟩); clear hK K) | (apply Exists.intro; refine ⟨fun W hW => ?_, hK _ ?_⟩; (rw [if_neg (by omega)]; exact ⟨rfl, rfl⟩); clear hK K))
        refine wpQuiet_nil ?_
        intro w2 hb2
        have HB2 := Lib.hid hb2
        have hsz2 := hb2.size
        clear hb2
        go_upto_region 9 with (fail)
        refine region_below (by kernel_rfl) (by kernel_rfl) ?_
        repeat (refine wpQuiet_step (fun K hK => ?_); go_simp; first | (refine hK _ ?_; clear hK K) | (refine ⟨_, fun _ _ => rfl, hK _ ?_⟩; clear hK K) | (apply Exists.intro; refine ⟨fun W hW => ?_, hK _ ?_⟩; (rw [HC.out W (HB2.out.trans (hW.mono HB2.out.size))]; exact ⟨rfl, rfl⟩); clear hK K) | (apply Exists.intro; refine ⟨fun W hW => ?_, hK _ ?_⟩; (rw [if_neg (by omega)]; exact ⟨rfl, rfl⟩); clear hK K) | (apply Exists.intro; refine ⟨fun _ hbq => ?_, hK _ ?_⟩; (go_at_call 94; exact below_step hbq (Tryd.rNumber _ _ HWB.out.1 HWB.out.2)); clear hK K) | (apply Exists.intro; refine ⟨fun _ hbq => ?_, hK _ ?_⟩; (go_at_call 95; exact below_step hbq (Tryd.rtwo _ _ (by omega) (by omega))); clear hK K))
        refine wpQuiet_nil ?_
        intro w3 hb3
        have HB3 := Lib.hid (HB1'.out.trans ((HB2.out.trans (hb3.mono HB2.out.size)).mono HB1'.out.size))
        clear hb3
        go_wp2
        go_ret
        refine ⟨?_, HB3.out⟩
        exact congrArg (fun z => Ending.returned (.string z)) (Eq.trans (by apply ByteArray.ext; simp [ByteArray.data_append, h60.out.1, h60.out.2]) (HF.out (nm ++ [32]) (by rw [if_neg HN.out]) 43 (by rw [if_neg (by omega)])))
end Go.Proofs.YtlhbbpagjkjplaaDoor
