/-
  seal.Of.
-/
import Derived.Test.YtlfcaagogeclpaaDoorF5
namespace Go.Proofs.YtlfcaagogeclpaaDoor
open Go.RowKit
set_option maxRecDepth 100000 in
set_option maxHeartbeats 1000000 in
theorem sealof_any (s : ByteArray) (hs : s.size ≤ 64) (m : Nat) (d : Nat → BitVec 8) (hm0 : 0 < m) (hm : m < 56) (w : World) (hz : 1 < w.heap.size)
    (hK : ∀ i, i < 64 → w.cell? ⟨1, i, none⟩ = some (U (Sha.K i))) (hB : ∀ i, i < 8 → w.cell? ⟨0, i, none⟩ = some (U (Sha.X0 i))) :
    Calls Tryd.prog 22 #[.string s, .string (str m d)] w fun e w' => e = .returned (.agg (Row 32 fun i => By (SL (keyb s) m d i))) ∧ Below w.heap.size w w' := by
  have hr1 := Blk.new w 28 zeros32b
  have hw1 := only_alloc (only_refl w none) (.cells (Row 32 fun _ => By 0) 28)
  rw [← zeros32b] at hw1
  go_enter Tryd.func22, Tryd.ntmps22
  go_wp2_with fail
  generalize hW : World.alloc w _ = W at hw1 hr1 ⊢
  clear hW
  refine (sealnew_any s hs W).mono ?_
  rintro e w2 ⟨g, hg, rfl, hb2, hk2⟩
  have hw2 := only_next hw1 hb2
  have hr2 := hr1.below hb2 hr1.lt
  clear hw1 hr1 hb2 hg
  go_wp2_with fail
  have hw3 := only_alloc hw2 (.cells #[.string (str m d)] 9)
  have hr3 := hr2.alloc (.cells #[.string (str m d)] 9)
  have hk3 := hk2.alloc (.cells #[.string (str m d)] 9)
  refine (seal_any _ m d hm0 hm g w2.heap.size _ hk3 (by rw [World.cell?_alloc_at _ _ _ _ rfl]; rfl) (by have := hw3.size; omega) (fun i hi => only_cell hw3 (hK i hi)) (fun i hi => only_cell hw3 (hB i hi))).mono ?_
  rintro e w4 ⟨rfl, hb4⟩
  have hw4 := only_next hw3 hb4
  have hr4 := hr3.below hb4 hr3.lt
  clear hw3 hr3 hb4 hw2 hr2 hk2 hk3
  go_wp2_with (first
    | (refine wpList_store_blk rfl 28 (.tmp 4) (.tmp 9) rfl w.heap.size 28 32 _ (fun i => By (SL (keyb s) m d i)) _ rfl rfl rfl hr4 size28 (fun i _ => rfl) ?_))
  exact bodyPost_ret (results_blk rfl _ _ w.heap.size 28 32 _ rfl (hr4.setRow_ _) _ Tryd.underlying28 rfl size28) rfl ⟨rfl, below_of_only (only_setRow hw4 (.inr (Nat.le_refl _)) _)⟩
end Go.Proofs.YtlfcaagogeclpaaDoor
