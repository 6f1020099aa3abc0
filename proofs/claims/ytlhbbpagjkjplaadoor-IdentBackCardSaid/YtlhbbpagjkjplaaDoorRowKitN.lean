/- The rows' shared steps, with the tables of numbers. Conditions: those written at each theorem. -/
import Derived.Test.YtlhbbpagjkjplaaDoorRowKit
import Derived.Test.YtlhbbpagjkjplaaDoorIdB
import Derived.Lib.LaidTab
import Derived.Lib.SmallJoins
set_option linter.unusedVariables false
namespace Go.Proofs.YtlhbbpagjkjplaaDoor
open Go Go.ChangeShapes Go.WideShapes Go.ChangeAt Go.RowKit Go.Joins

theorem iface_cell {P : Program} {w : World} {H : Type} {enc : TypeId × Value → H} {base : Nat} {sp : Nat → Bool} {held : Bool} {fuel : Nat} {t : TypeId} {ms : Array (String × TypeId)} {cs : List Value} {x : DataW H × List MemPlace} (hi : P.underlying t = some (.interface ms))
    (h : DataW.trod enc P w base sp held fuel t cs = some x) : ∃ ev, cs = [ev] ∧ (ev = .nilIface ∨ ∃ te pe, ev = .iface te pe) := by
  cases fuel with
  | zero => simp [DataW.trod] at h
  | succ fuel =>
    simp only [DataW.trod, hi] at h
    split at h
    all_goals first
      | exact ⟨_, rfl, .inl rfl⟩
      | exact ⟨_, rfl, .inr ⟨_, _, rfl⟩⟩
      | (exfalso; simp_all; done)

theorem err_cell {W : World} {n : String} {d : DataW Unit} {g : Nat} (hg : Tryd.prog.globalNamed n = some g) (ht : (Tryd.prog.globals[g]?).map (·.type) = some 96) (h : Lib.VarReads Tryd.prog W n d) :
    ∃ ev, W.cell? ⟨g, 0, none⟩ = some ev ∧ (ev = .nilIface ∨ ∃ te pe, ev = .iface te pe) := by
  obtain ⟨g', t, cs, fuel, p, hg', ht', hvar, hd⟩ := h
  obtain rfl := Option.some.inj (hg.symm.trans hg')
  obtain rfl := Option.some.inj (ht.symm.trans ht')
  obtain ⟨ev, hcs, hev⟩ := iface_cell Tryd.underlying96 hd
  refine ⟨ev, ?_, hev⟩
  have h0 := World.var?_cell hg hvar 0
  have : cs[0]? = some ev := by
    obtain ⟨l⟩ := cs
    simp only at hcs
    subst hcs; rfl
  rw [h0, this]

theorem pow10_tab {W : World} (h : Lib.VarReads Tryd.prog W "internal/strconv.uint64pow10" Rows.laid_internal_strconv_uint64pow10) : Lib.TabIs Tryd.prog W "internal/strconv.uint64pow10" .u64 Lib.pow10Tab := by
  rw [show (Rows.laid_internal_strconv_uint64pow10 : DataW Unit) = Lib.tabData .u64 Lib.pow10Tab from by kernel_rfl] at h
  obtain ⟨g', t, cs, fuel, p, hg', ht', hvar, hd⟩ := h
  have hg : Tryd.prog.globalNamed "internal/strconv.uint64pow10" = some 8 := by kernel_rfl
  have ht : (Tryd.prog.globals[8]?).map (·.type) = some 208 := by kernel_rfl
  obtain rfl := Option.some.inj (hg.symm.trans hg')
  obtain rfl := Option.some.inj (ht.symm.trans ht')
  have hc := Lib.cells_of_tab Tryd.underlying208 Tryd.underlying143 (by kernel_rfl) (by kernel_rfl) hd
  unfold Lib.TabIs
  rw [hvar, ← hc]

theorem Tryd.rdyN_of {W : World} (hsh : W.ShapedOpen Tryd.prog) (h1 : Lib.VarReads Tryd.prog W "unicode/utf8.first" Rows.laid_unicode_utf8_first) (h2 : Lib.VarReads Tryd.prog W "unicode/utf8.acceptRanges" Rows.laid_unicode_utf8_acceptRanges)
    (h3 : Lib.VarReads Tryd.prog W "internal/strconv.uint64pow10" Rows.laid_internal_strconv_uint64pow10) (h4 : Lib.VarReads Tryd.prog W "strconv.ErrSyntax" Rows.laid_strconv_ErrSyntax) (h5 : Lib.VarReads Tryd.prog W "strconv.ErrRange" Rows.laid_strconv_ErrRange) : Tryd.RdyN W :=
  ⟨Tryd.rdy_of hsh h1 h2, pow10_tab h3, err_cell (by kernel_rfl) (by kernel_rfl) h4, err_cell (by kernel_rfl) (by kernel_rfl) h5⟩

theorem Tryd.cellsIdent : Tryd.prog.cellsOf 50 = 4 := by kernel_rfl
end Go.Proofs.YtlhbbpagjkjplaaDoor
