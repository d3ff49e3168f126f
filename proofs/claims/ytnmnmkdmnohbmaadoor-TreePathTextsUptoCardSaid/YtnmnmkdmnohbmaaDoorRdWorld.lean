/- What a row's list and the world's shape give for the reading of a path's text. Conditions: none. -/
import Derived.Test.YtnmnmkdmnohbmaaDoorPathRd
import Derived.Test.YtnmnmkdmnohbmaaDoorRows
import Derived.Lib.LaidU8
import Derived.Shelf.Vars
namespace Go.Proofs.YtnmnmkdmnohbmaaDoor
open Go.RowKit Go.ChangeShapes

theorem gPow : Tryd.prog.globalNamed "internal/strconv.uint64pow10" = some 4 := by kernel_rfl
theorem gPowType : (Tryd.prog.globals[4]?).map (·.type) = some 206 := by kernel_rfl
theorem gSyn : Tryd.prog.globalNamed "strconv.ErrSyntax" = some 5 := by kernel_rfl
theorem gSynType : (Tryd.prog.globals[5]?).map (·.type) = some 129 := by kernel_rfl
theorem gRan : Tryd.prog.globalNamed "strconv.ErrRange" = some 6 := by kernel_rfl
theorem gRanType : (Tryd.prog.globals[6]?).map (·.type) = some 129 := by kernel_rfl
theorem powData : Rows.laid_internal_strconv_uint64pow10 (H := Unit) = Lib.tabData .u64 Lib.pow10Tab := by rfl

theorem pow_of {W : World} (h : Lib.VarReads Tryd.prog W "internal/strconv.uint64pow10" Rows.laid_internal_strconv_uint64pow10) : Lib.TabIs Tryd.prog W "internal/strconv.uint64pow10" .u64 Lib.pow10Tab := by
  obtain ⟨g', t', cs, fuel, p, hg', ht', hvar, hd⟩ := h
  obtain rfl := Option.some.inj (gPow.symm.trans hg')
  obtain rfl := Option.some.inj (gPowType.symm.trans ht')
  rw [powData] at hd
  unfold Lib.TabIs
  rw [hvar, ← Lib.cells_of_tab Tryd.underlying206 Tryd.underlying171 (by kernel_rfl) (by kernel_rfl) hd]
theorem err_of {W : World} {n nm : String} {g : Nat} {d : DataW Unit} (hg : Tryd.prog.globalNamed n = some g) (ht : (Tryd.prog.globals[g]?).map (·.type) = some 129) (h : Lib.VarReads Tryd.prog W n (.iface nm d)) : ErrIn g W := by
  obtain ⟨g', t', cs, fuel, p, hg', ht', hvar, hd⟩ := h
  obtain rfl := Option.some.inj (hg.symm.trans hg')
  obtain rfl := Option.some.inj (ht.symm.trans ht')
  obtain ⟨_, u, v, hcs, _, _⟩ := iface_of_trod Tryd.underlying129 hd
  refine ⟨u, v, ?_⟩
  rw [World.var?_cell hg hvar 0, ← Array.getElem?_toList, hcs]
  rfl
theorem int_of {W : World} (h : W.ShapedOpen Tryd.prog) : IntIn 0 W :=
  cell_of_shapedOpen_int (zero := #[.int .i64 0]) (t := 3) h (of_decide_eq_true (by kernel_rfl)) (by kernel_rfl) rfl (by kernel_rfl) (by kernel_rfl) Tryd.underlying3
theorem rdw_of {W : World} {a b d g : String × DataW Unit} (h : laidMet Tryd.prog [a, b, ("internal/strconv.uint64pow10", Rows.laid_internal_strconv_uint64pow10), d, ("strconv.ErrRange", Rows.laid_strconv_ErrRange), ("strconv.ErrSyntax", Rows.laid_strconv_ErrSyntax), g] W) (hS : W.ShapedOpen Tryd.prog) : RdW W :=
  ⟨err_of gSyn gSynType (Lib.laidMet.reads h (.tail _ (.tail _ (.tail _ (.tail _ (.tail _ (.head _))))))), err_of gRan gRanType (Lib.laidMet.reads h (.tail _ (.tail _ (.tail _ (.tail _ (.head _)))))), int_of hS, pow_of (Lib.laidMet.reads h (.tail _ (.tail _ (.head _))))⟩
end Go.Proofs.YtnmnmkdmnohbmaaDoor
