/-
  hash.Of with two texts.
-/
import Derived.Test.YtlfcaagogeclpaaDoorF2
namespace Go.Proofs.YtlfcaagogeclpaaDoor
open Go.RowKit
set_option maxRecDepth 100000 in
set_option maxHeartbeats 1000000 in
theorem of2_any (a d : Nat → BitVec 8) (g : Nat) (w : World) (hg0 : w.cell? ⟨g, 0, none⟩ = some (.string (str 64 a))) (hg1 : w.cell? ⟨g, 1, none⟩ = some (.string (str 32 d))) (hz : 1 < w.heap.size)
    (hK : ∀ i, i < 64 → w.cell? ⟨1, i, none⟩ = some (U (Sha.K i))) (hB : ∀ i, i < 8 → w.cell? ⟨0, i, none⟩ = some (U (Sha.X0 i))) :
    Calls Tryd.prog 47 #[.slice (some ⟨g, 0, none⟩) 2 2] w fun e w' => e = .returned (.agg (Row 32 fun i => By (DG a 32 d i))) ∧ Below w.heap.size w w' := by
  have hw1 := only_alloc (only_refl w none) (.cells (Row 32 fun _ => By 0) 28)
  have hr1 := Blk.new w 28 zeros32b
  rw [← zeros32b] at hw1
  go_enter Tryd.func47, Tryd.ntmps47
  go_wp2_with fail
  generalize hW : World.alloc w _ = W at hw1 hr1 ⊢
  have hWz : W.heap.size = w.heap.size + 1 := by rw [← hW]; simp
  refine (new_any _ (fun i hi => only_cell hw1 (hB i hi))).mono ?_
  rintro e w1 ⟨rfl, ho1, hb1, hz1⟩
  have hw2 := only_trans hw1 ho1
  have hr2 := hr1.grown ho1 (by simp)
  clear hw1 hr1 ho1
  generalize hH : W.heap.size = H at *
  clear hH hz1
  have HZ := Lib.hid hWz
  clear hWz
  have hc0 : w1.cell? ⟨g, 0, none⟩ = some (.string (str 64 a)) := only_cell hw2 hg0
  go_wp2_with fail
  refine wp_loop_rounds 3 ?_
  rw [rounds_succ]
  go_wp2_with fail
  refine (write1 a H w1 hb1 (by have := HZ.out; omega) (fun i hi => only_cell hw2 (hK i hi))).mono ?_
  rintro e w3 ⟨rfl, ho3, hb3⟩
  have hw3 := only_then hw2 ho3 (by have := HZ.out; simp; omega)
  have hr3 := hr2.grown ho3 (by have := HZ.out; simp; omega)
  clear hb1 hr2 ho3 hw2 hc0
  have hc1 : w3.cell? ⟨g, 1, none⟩ = some (.string (str 32 d)) := only_cell hw3 hg1
  go_wp2_with fail
  rw [rounds_succ]
  go_wp2_with fail
  refine (write2 _ _ 32 d (by omega) (by omega) H w3 hb3 (by have := HZ.out; omega) (fun i hi => only_cell hw3 (hK i hi))).mono ?_
  rintro e w4 ⟨rfl, ho4, hb4⟩
  have hw4 := only_then hw3 ho4 (by have := HZ.out; simp; omega)
  have hr4 := hr3.grown ho4 (by have := HZ.out; simp; omega)
  clear hb3 hr3 ho4 hw3 hc1
  go_wp2_with fail
  rw [rounds_succ]
  go_wp2_with fail
  refine (sum_DG a _ 32 d (by omega) H w4 hb4 (by have := HZ.out; omega) (fun i hi => only_cell hw4 (hK i hi)) (fun i hi => only_cell hw4 (hB i hi))).mono ?_
  rintro e w5 ⟨rfl, hb5⟩
  have hw5 := only_next hw4 hb5
  have hr5 := hr4.below hb5 hr4.lt
  clear hb4 hr4 hb5 hw4
  go_wp2_with (first
    | (refine wpList_store_blk rfl 28 (.tmp 2) (.tmp 18) rfl w.heap.size 28 32 _ (fun i => By (DG a 32 d i)) _ rfl rfl rfl hr5 size28 (fun i _ => rfl) ?_))
  exact bodyPost_ret (results_blk rfl _ _ w.heap.size 28 32 _ rfl (hr5.setRow_ _) _ Tryd.underlying28 rfl size28) rfl ⟨rfl, below_of_only (only_setRow hw5 (.inr (Nat.le_refl _)) _)⟩
end Go.Proofs.YtlfcaagogeclpaaDoor
