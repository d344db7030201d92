/-
  client.Seal of the example's headers.
-/
import Derived.Test.YtlfcaagogeclpaaDoorG2
import Derived.Test.YtlfcaagogeclpaaDoorF6
namespace Go.Proofs.YtlfcaagogeclpaaDoor
open Go.RowKit
set_option maxRecDepth 100000 in
set_option maxHeartbeats 1000000 in
theorem clientseal_any (s : ByteArray) (hs : s.size ≤ 64) (rt : Nat → BitVec 8) (w : World) (hz : 1 < w.heap.size)
    (hK : ∀ i, i < 64 → w.cell? ⟨1, i, none⟩ = some (U (Sha.K i))) (hB : ∀ i, i < 8 → w.cell? ⟨0, i, none⟩ = some (U (Sha.X0 i))) :
    Calls Tryd.prog 15 #[.string s, .agg (Row 35 (hdf 2 rt))] w fun e w' => e = .returned (.agg (Row 32 fun i => By (SL (keyb s) 50 (hdb rt) i))) ∧ Below w.heap.size w w' := by
  have hr0 := Blk.new (w.alloc (.cells (Row 35 (hdf 2 rt)) 30)) 28 zeros32b
  have hh0 := (Blk.new w 30 (rfl : Row 35 (hdf 2 rt) = Row 35 (hdf 2 rt))).grown (only_alloc (only_refl _ none) (.cells (Row 32 fun _ => By 0) 28)) (by simp)
  have hw0 := only_alloc (only_alloc (only_refl w none) (.cells (Row 35 (hdf 2 rt)) 30)) (.cells (Row 32 fun _ => By 0) 28)
  rw [← zeros32b] at hh0 hw0
  rw [World.size_alloc] at hr0
  go_enter Tryd.func15, Tryd.ntmps15
  go_wp2_with (first
    | (refine wpList_load_blk rfl 30 (.tmp 3) rfl w.heap.size 30 35 _ rfl hh0 _ Tryd.underlying30 rfl size30 ?_))
  generalize World.alloc _ _ = W at hr0 hh0 hw0 ⊢
  refine (header_any rt W).mono ?_
  rintro e w2 ⟨rfl, hb2⟩
  have hw2 := only_next hw0 hb2
  have hr2 := hr0.below hb2 hr0.lt
  clear hw0 hr0 hb2 hh0
  go_wp2_with fail
  refine (sealof_any s hs 50 (hdb rt) (by omega) (by omega) w2 (by have := hw2.size; omega) (fun i hi => only_cell hw2 (hK i hi)) (fun i hi => only_cell hw2 (hB i hi))).mono ?_
  rintro e w4 ⟨rfl, hb4⟩
  have hw4 := only_next hw2 hb4
  have hr4 := hr2.below hb4 hr2.lt
  clear hw2 hr2 hb4
  go_wp2_with (first
    | (refine wpList_store_blk rfl 28 (.tmp 4) (.tmp 8) rfl (w.heap.size + 1) 28 32 _ (fun i => By (SL (keyb s) 50 (hdb rt) i)) _ rfl rfl rfl hr4 size28 (fun i _ => rfl) ?_))
  exact bodyPost_ret (results_blk rfl _ _ (w.heap.size + 1) 28 32 _ rfl (hr4.setRow_ _) _ Tryd.underlying28 rfl size28) rfl ⟨rfl, below_of_only (only_setRow hw4 (.inr (Nat.le_succ _)) _)⟩
end Go.Proofs.YtlfcaagogeclpaaDoor
