/-
  hash.Text.
-/
import Derived.Test.YtlfcaagogeclpaaDoorE1
namespace Go.Proofs.YtlfcaagogeclpaaDoor
open Go.RowKit
theorem hashtext_any (c : Nat → BitVec 8) (w : World) : Calls Tryd.prog 36 #[.agg (Row 32 fun i => By (c i))] w fun e w' => e = .returned (.string (str 32 c)) ∧ Below w.heap.size w w' := by
  have hcut : ∀ W : World, ∀ L, (Instr.sliceAt 28 (.pointer (some ⟨L, 0, none⟩)) none none none).run Tryd.prog W = .ok (.slice (some ⟨L, 0, none⟩) 32 32) W := fun W L => run_cut_all 28 32 5 Tryd.underlying28 size5 L 0 W
  have hb := Blk.new w 28 (rfl : Row 32 (fun i => By (c i)) = Row 32 (fun i => By (c i)))
  have cv := run_str _ Tryd.underlying55 Tryd.underlying5 Tryd.underlying9 w.heap.size 0 32 32 c (fun i hi => by rw [Nat.zero_add, hb.cell hi])
  go_enter Tryd.func36, Tryd.ntmps36
  go_wp2_with fail
  go_ret
  exact ⟨rfl, below_of_only (only_alloc (only_refl _ _) _)⟩
end Go.Proofs.YtlfcaagogeclpaaDoor
