/- Shell: what the rows' lists of package-level variables give; a world that meets them. -/
import Derived.Test.YtgpeieohdelniaaGreatDoorShPairs
import Derived.Test.YtgpeieohdelniaaGreatDoorAmRow
import Derived.Test.YtgpeieohdelniaaGreatDoorTie
import Derived.Test.YtgpeieohdelniaaGreatDoorCards
import Derived.ProofKit
import Derived.OpenShut
import Derived.Deep.DeepHandedRow
import Derived.Deep.DeepWitnessRowRef
import Derived.Lib.LaidTab
import Derived.Lib.SmallJoins
import Derived.Deep.SlicePairs
import Derived.Carry
namespace Go.Am.Sh
open Go Go.RowKit Go.Am Go.Proofs Go.Proofs.YtgpeieohdelniaaGreatDoor
open Go.ChangeShapes Go.WideShapes Go.ChangeAt
set_option maxRecDepth 100000

theorem own : ownKnob Tryz.prog.godebug = none := by kernel_rfl
theorem laidOut : laidOutB Tryz.prog = true := by kernel_rfl
/-- The five that the rows list. -/
def laidRow : List (String × DataW Unit) := [("math/bits.deBruijn32tab", Rows.laid_math_bits_deBruijn32tab), ("math/bits.deBruijn64tab", Rows.laid_math_bits_deBruijn64tab), ("internal/strconv.uint64pow10", Rows.laid_internal_strconv_uint64pow10), ("strconv.ErrRange", Rows.laid_strconv_ErrRange), ("strconv.ErrSyntax", Rows.laid_strconv_ErrSyntax)]
theorem laidVars_mem {P : Program} {w : World} : ∀ {l : List (String × DataW Unit)} {ps : List MemPlace}, DataW.LaidVars P w l ps → ∀ x ∈ l, ∃ g t cs fuel p, P.globalNamed x.1 = some g ∧ (P.globals[g]?).map (·.type) = some t ∧ w.var? P x.1 = some cs ∧
    DataW.trod (fun _ => ()) P w 0 (fun _ => true) false fuel t cs.toList = some (x.2, p) := by
  intro l
  induction l with
  | nil => intro ps _ x hx; simp at hx
  | cons y r ih =>
    intro ps h x hx
    obtain ⟨n, d⟩ := y
    obtain ⟨g, t, cs, fuel, p, q, h1, h2, h3, h4, h5, _⟩ := h
    rcases List.mem_cons.1 hx with rfl | hx
    · exact ⟨g, t, cs, fuel, p, h1, h2, h3, h4⟩
    · exact ih h5 x hx
theorem pow10_type : (Tryz.prog.globals[1]?).map (·.type) = some 181 := by kernel_rfl
theorem cells181 : Tryz.prog.cellsOf 181 = 20 := by kernel_rfl
theorem cells153 : Tryz.prog.cellsOf 153 = 1 := by kernel_rfl
theorem tab_of_laid {W : World} (h : laidMet Tryz.prog laidRow W) : Tab W := by
  obtain ⟨ps, hv, _⟩ := h
  obtain ⟨g, t, cs, fuel, p, h1, h2, h3, h4⟩ := laidVars_mem hv ("internal/strconv.uint64pow10", Rows.laid_internal_strconv_uint64pow10) (by simp [laidRow])
  simp only at h1 h2 h3 h4
  obtain rfl := Option.some.inj (pow10_global.symm.trans h1)
  obtain rfl := Option.some.inj (pow10_type.symm.trans h2)
  have := Lib.cells_of_tab (zs := Lib.pow10Tab) Tryz.underlying181 Tryz.underlying153 cells153 cells181 h4
  unfold Tab Lib.TabIs
  rw [h3, ← this]

/-! a world in which they lie so -/
noncomputable def low : Nat := (World.holding Tryz.prog default ⟨#[], #[], []⟩).heap.size
def put (g : Nat) (cs : Array Value) (heap : Array Obj) : Array Obj := heap.modify g fun
  | .cells _ t fr => .cells cs t fr
  | o => o
def tabCells : DataW Unit → Array Value
  | .agg l => (l.map fun | .lit (.int k n) => Value.int k n | _ => undef).toArray
  | _ => #[]
noncomputable def laidWorld (os : Os) : World :=
  let w0 := World.holding Tryz.prog os ⟨#[.cells #[.string ⟨#[118, 97, 108, 117, 101, 32, 111, 117, 116, 32, 111, 102, 32, 114, 97, 110, 103, 101]⟩] 320, .cells #[.string ⟨#[105, 110, 118, 97, 108, 105, 100, 32, 115, 121, 110, 116, 97, 120]⟩] 320], #[], []⟩
  { w0 with heap := put 1 (tabCells Rows.laid_internal_strconv_uint64pow10) (put 4 (tabCells Rows.laid_math_bits_deBruijn32tab) (put 5 (tabCells Rows.laid_math_bits_deBruijn64tab)
      (put 3 #[.iface 318 (.pointer (some ⟨low, 0, none⟩))] (put 2 #[.iface 318 (.pointer (some ⟨low + 1, 0, none⟩))] w0.heap)))) }
theorem laid_met (os : Os) (args : Array Value) : laidMet Tryz.prog laidRow ((laidWorld os).forCall (fun _ _ => 0) ⟨#[], args, []⟩).memory :=
  laidMet_of_run' 8 (by kernel_rfl) (by kernel_rfl)
end Go.Am.Sh
