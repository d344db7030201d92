/-
  twinspanref14.Header and Seal of the example's headers.
-/
import Derived.Test.YtlfcaagogeclpaaDoorI1
import Derived.Test.YtlfcaagogeclpaaDoorG2
import Derived.Test.YtlfcaagogeclpaaDoorH6
namespace Go.Proofs.YtlfcaagogeclpaaDoor
open Go.RowKit
theorem reftext_list (c : Nat → BitVec 8) (w : World) : Calls Tryd.prog 27 #[.agg (Row 32 fun i => By (c i)).toList.toArray] w fun e w' => e = .returned (.string (str 32 c)) ∧ Below w.heap.size w w' := by
  have h : (Row 32 fun i => By (c i)).toList.toArray = Row 32 fun i => By (c i) := Array.toArray_toList
  rw [h]; exact reftext_any c w
set_option maxRecDepth 100000 in
set_option maxHeartbeats 2000000 in
theorem refheader_any (rt : Nat → BitVec 8) (w : World) : Calls Tryd.prog 18 #[.agg (Row 35 (hdf 2 rt))] w fun e w' => e = .returned (.string (str 50 (hdb rt))) ∧ Below w.heap.size w w' := by
  have h0 : HB w.heap.size 2 rt w (w.alloc (.cells (Row 35 (hdf 2 rt)) 30)) := ⟨Blk.new w 30 rfl, only_alloc (only_refl _ _) _⟩
  have hu := Tryd.underlying28
  have hi28 : (Tryd.prog.info? 28).map (·.size) = some (Row 32 fun i => By (rt i)).toList.length := by rw [len32]; exact size28
  go_enter Tryd.func18, Tryd.ntmps18
  go_wp2_with fail
  generalize hW : World.alloc w _ = W at h0 ⊢
  clear hW
  generalize hG : w.heap.size = G at h0 ⊢
  go_region_held3 (fun W => W.cell? ⟨G, 0, none⟩ = some (.string ⟨#[97]⟩) ∧ W.cell? ⟨G, 1, none⟩ = some (.int .i64 2) ∧ W.cell? ⟨G, 2, none⟩ = some (.int .i64 0) ∧ W.rangeAt G 3 (Row 32 fun i => By (rt i)).toList ∧ HB G 2 rt w W)
    (first | exact HB.facts (HB.drew h0) | exact HB.facts (HB.next2 ‹Below _ _ _› (of5 (by assumption))))
    (first
     | (go_at_call 29; with_reducible refine (rtext_a _).mono ?_; rintro e w2 ⟨rfl, hb2⟩)
     | (go_at_call 29; with_reducible refine (rtext_r _ _).mono ?_; rintro e w2 ⟨rfl, hb2⟩)
     | (go_at_call 30; with_reducible refine (rint_h _).mono ?_; rintro e w2 ⟨rfl, hb2⟩)
     | (go_at_call 30; with_reducible refine (rint_t _).mono ?_; rintro e w2 ⟨rfl, hb2⟩)
     | (go_at_call 27; with_reducible refine (reftext_list _ _).mono ?_; rintro e w2 ⟨rfl, hb2⟩))
  all_goals
    go_wp2_with fail
    go_ret
    exact ⟨rfl, below_of_only (HB.only5 (by assumption))⟩
set_option maxRecDepth 100000 in
set_option maxHeartbeats 1000000 in
theorem refseal_any (rt : Nat → BitVec 8) (w : World) :
    Calls Tryd.prog 9 #[.string ⟨#[107]⟩, .agg (Row 35 (hdf 2 rt))] w fun e w' => e = .returned (.agg (Row 32 fun i => By (SL (keyb ⟨#[107]⟩) 50 (hdb rt) i))) ∧ Below w.heap.size w w' := by
  have hr0 := Blk.new (w.alloc (.cells (Row 35 (hdf 2 rt)) 30)) 28 zeros32b
  have hh0 := (Blk.new w 30 (rfl : Row 35 (hdf 2 rt) = Row 35 (hdf 2 rt))).grown (only_alloc (only_refl _ none) (.cells (Row 32 fun _ => By 0) 28)) (by simp)
  have hw0 := only_alloc (only_alloc (only_refl w none) (.cells (Row 35 (hdf 2 rt)) 30)) (.cells (Row 32 fun _ => By 0) 28)
  rw [← zeros32b] at hh0 hw0
  rw [World.size_alloc] at hr0
  go_enter Tryd.func9, Tryd.ntmps9
  go_wp2_with (first
    | (refine wpList_load_blk rfl 30 (.tmp 3) rfl w.heap.size 30 35 _ rfl hh0 _ Tryd.underlying30 rfl size30 ?_))
  generalize World.alloc _ _ = W at hr0 hh0 hw0 ⊢
  refine (refheader_any rt W).mono ?_
  rintro e w2 ⟨rfl, hb2⟩
  have hw2 := only_next hw0 hb2
  have hr2 := hr0.below hb2 hr0.lt
  clear hw0 hr0 hb2 hh0
  go_wp2_with fail
  refine (refof_any 50 (hdb rt) (by omega) (by omega) w2).mono ?_
  rintro e w4 ⟨rfl, hb4⟩
  have hw4 := only_next hw2 hb4
  have hr4 := hr2.below hb4 hr2.lt
  clear hw2 hr2 hb4
  go_wp2_with (first
    | (refine wpList_store_blk rfl 28 (.tmp 4) (.tmp 8) rfl (w.heap.size + 1) 28 32 _ (fun i => By (SL (keyb ⟨#[107]⟩) 50 (hdb rt) i)) _ rfl rfl rfl hr4 size28 (fun i _ => rfl) ?_))
  exact bodyPost_ret (results_blk rfl _ _ (w.heap.size + 1) 28 32 _ rfl (hr4.setRow_ _) _ Tryd.underlying28 rfl size28) rfl ⟨rfl, below_of_only (only_setRow hw4 (.inr (Nat.le_succ _)) _)⟩
end Go.Proofs.YtlfcaagogeclpaaDoor
