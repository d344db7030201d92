/-
  hash.New and the hasher's cells.
-/
import Derived.Test.YtlfcaagogeclpaaDoorB1
import Derived.Test.YtlfcaagogeclpaaDoorD1
namespace Go.Proofs.YtlfcaagogeclpaaDoor
open Go.RowKit
theorem hs_new (x : Nat → BitVec 32) : (#[U (x 0), U (x 1), U (x 2), U (x 3), U (x 4), U (x 5), U (x 6), U (x 7), Value.int .u8 0, Value.int .u8 0, Value.int .u8 0, Value.int .u8 0, Value.int .u8 0, Value.int .u8 0, Value.int .u8 0, Value.int .u8 0, Value.int .u8 0, Value.int .u8 0, Value.int .u8 0, Value.int .u8 0, Value.int .u8 0, Value.int .u8 0, Value.int .u8 0, Value.int .u8 0, Value.int .u8 0, Value.int .u8 0, Value.int .u8 0, Value.int .u8 0, Value.int .u8 0, Value.int .u8 0, Value.int .u8 0, Value.int .u8 0, Value.int .u8 0, Value.int .u8 0, Value.int .u8 0, Value.int .u8 0, Value.int .u8 0, Value.int .u8 0, Value.int .u8 0, Value.int .u8 0, Value.int .u8 0, Value.int .u8 0, Value.int .u8 0, Value.int .u8 0, Value.int .u8 0, Value.int .u8 0, Value.int .u8 0, Value.int .u8 0, Value.int .u8 0, Value.int .u8 0, Value.int .u8 0, Value.int .u8 0, Value.int .u8 0, Value.int .u8 0, Value.int .u8 0, Value.int .u8 0, Value.int .u8 0, Value.int .u8 0, Value.int .u8 0, Value.int .u8 0, Value.int .u8 0, Value.int .u8 0, Value.int .u8 0, Value.int .u8 0, Value.int .u8 0, Value.int .u8 0, Value.int .u8 0, Value.int .u8 0, Value.int .u8 0, Value.int .u8 0, Value.int .u8 0, Value.int .u8 0, Value.int .i64 0, Value.bool true] : Array Value) = Row 74 (hs x (fun _ => 0) 0) := by
  kernel_rfl

/-- hash.New. -/
theorem new_any (w : World) (hB : ∀ i, i < 8 → w.cell? ⟨0, i, none⟩ = some (U (Sha.X0 i))) :
    Calls Tryd.prog 44 #[] w fun e w' => e = .returned (.pointer (some ⟨w.heap.size, 0, none⟩)) ∧ w.grownBy w' none ∧ Blk w' w.heap.size 88 74 (hs Sha.X0 (fun _ => 0) 0) ∧ w'.heap.size = w.heap.size + 1 := by
  have h0 := hB 0 (by omega)
  have h1 := hB 1 (by omega)
  have h2 := hB 2 (by omega)
  have h3 := hB 3 (by omega)
  have h4 := hB 4 (by omega)
  have h5 := hB 5 (by omega)
  have h6 := hB 6 (by omega)
  have h7 := hB 7 (by omega)
  go_enter Tryd.func44, Tryd.ntmps44
  go_wp2
  go_ret
  exact ⟨rfl, only_alloc (only_refl _ _) _, Blk.new w 88 (hs_new _), by simp⟩
end Go.Proofs.YtlfcaagogeclpaaDoor
