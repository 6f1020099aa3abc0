/- For every input, the law IdentBack answers true: the given statement IdentBackCardSaid is proved here. Conditions: none but those which the statement itself bears. -/
import Derived.Test.YtlhbbpagjkjplaaDoorRowKitN
import Derived.Test.YtlhbbpagjkjplaaDoorIdN
set_option linter.unusedVariables false
namespace Go.Proofs.YtlhbbpagjkjplaaDoor.identBack
open Go Go.ChangeShapes Go.WideShapes Go.ChangeAt Go.RowKit Go.Proofs Go.Joins
open Go.ChangeMaps (open_string shut_string)

set_option maxRecDepth 100000 in
theorem lifted (os : Os) (started : os.Started) (H : Type) (enc : TypeId × Value → H) :
    ReturnsInHanded {} Tryd.checked os 12 .any (fun w args => (Rows.identBackSpec.pre enc Tryd.prog Tryd.f12 [] false w args ∧ laidMetH Tryd.prog Rows.identBackRow.laid w) ∧ sizedMet enc Tryd.prog Tryd.f12 (OpenSpec.ofChange Rows.identBackSpec) false w args)
      (Rows.identBackSpec.post enc Tryd.prog Tryd.f12 false true false false) := by
  refine handed (C := Tryd.checked) (X := fun w _ => laidMetH Tryd.prog Rows.identBackRow.laid w) (fun _ _ _ hh h => h.of_heap hh) own started (by kernel_rfl) Tryd.func12
    (ChangeSpec.witness_shaped (enc := enc) (C := Tryd.checked) (os := os) (X := fun w _ => laidMetH Tryd.prog Rows.identBackRow.laid w) false (World.laidAll Tryd.prog os Rows.identBackRow.laid) #[.agg #[.string ByteArray.empty, .string ByteArray.empty, .int .i64 0, .int .i64 0], .string ByteArray.empty] 8 (World.laidAll_os _ _ _)
      (World.shaped_of_ZipB (by kernel_rfl) (by kernel_rfl)) (by kernel_rfl) (by kernel_rfl) (by kernel_rfl)
      (by rw [MakeChecks.laidMetH_plain _ _ _ (by kernel_rfl)]; exact laidMet_laidAll _ (by kernel_rfl) (by kernel_rfl))) ?_
  intro W base args ds gs before hval0 hW _ hL hsh
  have hval : ∀ (j : Nat) t v, Tryd.f12.params[j]? = some t → args[j]? = some v → Value.okWide Tryd.prog W .any base t v := hval0
  have hW' := hW
  obtain ⟨p, q, hA0, hV, rfl, hfz, hnd⟩ := hW
  have hA : DataW.TrodAll enc Tryd.prog W 0 (fun _ => true) true Tryd.f12.params.toList args.toList ds p := hA0
  rw [Tryd.params12] at hA hval
  obtain ⟨v0, vs0, d0, ds0, p0, q0, hargs, rfl, rfl, h0, r0⟩ := trodAll_cons hA
  obtain ⟨v1, vs1, d1, ds1, p1, q1, rfl, rfl, rfl, h1, r1⟩ := trodAll_cons r0
  obtain ⟨rfl, rfl, rfl⟩ := trodAll_nil r1
  obtain rfl : args = #[v0, v1] := by cases args; simp_all
  obtain ⟨rfl, rfl⟩ := trodVars_none hV
  obtain ⟨c0, c1, c2, c3, y0, y1, y2, y3, m, rfl, rfl, rfl, hy0, hy1, hy2, hy3⟩ := open_agg4 Tryd.underlying50 (by kernel_rfl) Tryd.cellsIdent (hval 0 50 v0 rfl rfl) h0
  obtain ⟨n0, e0, rfl, x0⟩ := DataW.trod_string Tryd.underlying9 hy0
  obtain ⟨n1, e1, rfl, x1⟩ := DataW.trod_string Tryd.underlying9 hy1
  obtain ⟨n2, e2, rfl, x2⟩ := DataW.trod_int Tryd.underlying2 hy2
  obtain ⟨n3, e3, rfl, x3⟩ := DataW.trod_int Tryd.underlying3 hy3
  simp at e0 e1 e2 e3
  subst e0 e1 e2 e3
  obtain ⟨a1, rfl, rfl, rfl, w1⟩ := open_string Tryd.underlying9 (hval 1 9 v1 rfl rfl) h1
  clear hA0 hval0
  simp only [List.append_nil] at hW'
  rw [MakeChecks.laidMetH_plain _ _ _ (by kernel_rfl)] at hL
  have hrdy : Tryd.RdyN W := Tryd.rdyN_of hsh (Lib.laidMet.reads hL (by simp [Rows.identBackRow])) (Lib.laidMet.reads hL (by simp [Rows.identBackRow])) (Lib.laidMet.reads hL (by simp [Rows.identBackRow])) (Lib.laidMet.reads hL (by simp [Rows.identBackRow])) (Lib.laidMet.reads hL (by simp [Rows.identBackRow]))
  have structReads : ∀ (W' : World) (sp : Nat → Bool), DataW.Trod enc Tryd.prog W' 0 sp true 50 (.agg #[.string n0, .string n1, .int .i64 n2, .int .i64 n3]) (.agg [.lit (.string n0.data.toList), .lit (.string n1.data.toList), .lit (.int .i64 n2), .lit (.int .i64 n3)]) [] := fun W' sp =>
    shut_agg4 (y0 := (.lit (.string n0.data.toList), [])) (y1 := (.lit (.string n1.data.toList), [])) (y2 := (.lit (.int .i64 n2), [])) (y3 := (.lit (.int .i64 n3), [])) Tryd.underlying50 (by kernel_rfl) Tryd.cellsIdent ⟨1, by simp [DataW.trod, Tryd.underlying9, x0]⟩ ⟨1, by simp [DataW.trod, Tryd.underlying9, x1]⟩ ⟨1, by simp [DataW.trod, Tryd.underlying2, x2]⟩ ⟨1, by simp [DataW.trod, Tryd.underlying3, x3]⟩
  have hlaw := Tryd.IdentBack_law ⟨n0.data.toList, n1.data.toList, n2, n3⟩ a1 W hrdy
  rw [show idnV ⟨n0.data.toList, n1.data.toList, n2, n3⟩ = .agg #[.string n0, .string n1, .int .i64 n2, .int .i64 n3] by unfold idnV; rw [← str_eq n0, ← str_eq n1]] at hlaw
  refine hlaw.mono fun e W' ⟨he, hg⟩ => ?_
  subst he
  exact ⟨_, rfl, _, _, _, [], [], [], hW', (trodAll_cons_mk (shut_bool Tryd.underlying4 _) trodAll_mk0), (trodAll_cons_mk (structReads _ _) (trodAll_cons_mk (shut_string Tryd.underlying9 w1) trodAll_mk0)), rfl, hg.frame _, fun h => by cases h⟩

theorem holds : Rows.identBackRow.holds Tryd.pinned (OpenSpec.ofChange Rows.identBackSpec) :=
  OpenClaim.holds_of_wide 12 Tryd.f12 rfl rfl rfl rfl rfl rfl rfl ⟨rfl, rfl, rfl, rfl, rfl⟩ rfl rfl rfl rfl rfl (by kernel_rfl) Tryd.func12 (by kernel_rfl)
    (of_decide_eq_true (by kernel_rfl)) (by unfold Func.isWrapper; first | (rw [if_pos (by decide +kernel)]; kernel_rfl) | (rw [if_neg (by decide +kernel)]; exact ⟨rfl, rfl⟩))
    (fun os started H enc _ => lifted os started H enc)

theorem card_holds : Rows.IdentBackCardSaid :=
  Claim7.holds_tied_plain_at .later [] [.data, .data, .data, .data, .sentinel, .sentinel, .pinned] true (true, "dd61b9b98731cfc066c814fd095b7bf7fdc2b5c0e1be47cc1742da70fde4aca3") true holds (fun _ h => by cases h) (by kernel_rfl) (fun _ h => by cases h) identBack_row_tie rfl ⟨rfl, rfl⟩ (by kernel_rfl) rfl
    (fun f fn hf hfn => by
      obtain rfl : f = 12 := Option.some.inj ((show Tryd.prog.funcNamed "trestle/trestlelaw06.IdentBack" = some 12 by kernel_rfl).symm.trans hf) |>.symm
      obtain rfl : fn = Tryd.f12 := (Option.some.inj (Tryd.func12.symm.trans hfn)).symm
      exact ⟨by kernel_rfl, fun j t ht => by
        rw [Tryd.params12] at ht
        have hm : t ∈ [50, 9] := by simpa using Array.mem_of_getElem? ht
        have hall : ([50, 9].all fun u => !Tryd.prog.wantsStandIn u) = true := by kernel_rfl
        exact (show Tryd.prog.wantsStandIn t = false by simpa using List.all_eq_true.1 hall t hm)⟩)
    (by kernel_rfl)

end Go.Proofs.YtlhbbpagjkjplaaDoor.identBack
