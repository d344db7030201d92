/-
  client.put of the example's, a state that is there already: the client is handed back.
-/
import Derived.Test.YtlfcaagogeclpaaDoorLL
set_option linter.unusedSimpArgs false
set_option linter.unusedVariables false
namespace Go.Proofs.YtlfcaagogeclpaaDoor
open Go.RowKit
set_option maxRecDepth 100000 in
set_option maxHeartbeats 4000000 in
theorem putsame_any (g cap : Nat) (w : World) (hs : SS w g 2) (hg : g < w.heap.size) : Calls Tryd.prog 16 #[cl false g 2 cap, .agg (Row 34 (sdf 2 (fun _ => 0)))] w fun e w' => e = .returned (cl false g 2 cap) ∧ Below w.heap.size w w' := by
  have h0 := PU.start w false g 2 cap (fun _ => 0) hs hg _ _ _ (cl_row false g 2 cap) rfl zcl_row
  have hd0 : ∀ r, (Row 34 (sdf 2 r))[0]? = some (Value.int .i64 2) := fun r => Row_get (by omega)
  have H0 := Lib.hid h0
  clear hs hg h0
  unfold cl
  go_enter Tryd.func16, Tryd.ntmps16
  go_wp2_with fail
  clear hd0
  generalize World.alloc (World.alloc (World.alloc w _) _) _ = W at H0 ⊢
  have h0 := H0.out
  clear H0
  have hat := aty_any g cap W h0.2.2.2.2.1 h0.lt
  generalize hB : w.heap.size = B at *
  have HB := Lib.hid hB
  clear hB
  unfold cl at hat
  refine hat.mono ?_
  rintro e w2 ⟨rfl, hb2⟩
  replace h0 := h0.below hb2
  clear hat hb2
  go_wp2_with fail
  refine wp_region_held_drew (S := fun W => W.cell? ⟨B, 4, none⟩ = some (.slice (some ⟨g, 0, none⟩) 2 cap) ∧ PU w false g 2 cap (fun _ => 0) W) (by kernel_rfl) (PU.sl HB (PU.next h0 (only_drew (only_refl _ _)))) (fun hHeld => ?_)
  refine wpAnyH_take (i := 0) (v := ?_) rfl (by kernel_rfl) (by kernel_rfl) (by kernel_rfl) (fun _ _ _ h => h) (Or.inl ⟨by kernel_rfl, ?_⟩) (by assumption) ?_
  rotate_left
  · intro w hSw; (try dsimp only at hSw); go_simp; try with_reducible rfl
  try simp only [Act.put, List.getElem_toArray, List.getElem_cons_succ, List.getElem_cons_zero, List.setIfInBounds_toArray, List.set_cons_zero, List.set_cons_succ]
  refine wpAnyH_take (i := 1) (v := ?_) rfl (by kernel_rfl) (by kernel_rfl) (by kernel_rfl) (fun _ _ _ h => h) (Or.inl ⟨by kernel_rfl, ?_⟩) (by assumption) ?_
  rotate_left
  · intro w hSw; (try dsimp only at hSw); go_simp; try with_reducible rfl
  try simp only [Act.put, List.getElem_toArray, List.getElem_cons_succ, List.getElem_cons_zero, List.setIfInBounds_toArray, List.set_cons_zero, List.set_cons_succ]
  refine wpAnyH_take (i := 2) (v := ?_) rfl (by kernel_rfl) (by kernel_rfl) (by kernel_rfl) (fun _ _ _ h => h) (Or.inl ⟨by kernel_rfl, ?_⟩) (by assumption) ?_
  rotate_left
  · intro w hSw; (try dsimp only at hSw); go_simp; try with_reducible rfl
  try simp only [Act.put, List.getElem_toArray, List.getElem_cons_succ, List.getElem_cons_zero, List.setIfInBounds_toArray, List.set_cons_zero, List.set_cons_succ]
  refine wpAnyH_take (i := 3) (v := ?_) rfl (by kernel_rfl) (by kernel_rfl) (by kernel_rfl) (fun _ _ _ h => h) (Or.inl ⟨by kernel_rfl, ?_⟩) (by assumption) ?_
  rotate_left
  · intro w hSw; (try dsimp only at hSw); go_simp; try with_reducible rfl
  try simp only [Act.put, List.getElem_toArray, List.getElem_cons_succ, List.getElem_cons_zero, List.setIfInBounds_toArray, List.set_cons_zero, List.set_cons_succ]
  refine wpAnyH_take (i := 4) (v := ?_) rfl (by kernel_rfl) (by kernel_rfl) (by kernel_rfl) (fun _ _ _ h => h) (Or.inl ⟨by kernel_rfl, ?_⟩) (by assumption) ?_
  rotate_left
  · intro w hSw; (try dsimp only at hSw); go_simp; try with_reducible rfl
  try simp only [Act.put, List.getElem_toArray, List.getElem_cons_succ, List.getElem_cons_zero, List.setIfInBounds_toArray, List.set_cons_zero, List.set_cons_succ]
  refine wpAnyH_take (i := 5) (v := ?_) rfl (by kernel_rfl) (by kernel_rfl) (by kernel_rfl) (fun _ _ _ h => h) (Or.inl ⟨by kernel_rfl, ?_⟩) (by assumption) ?_
  rotate_left
  · intro w hSw; (try dsimp only at hSw); go_simp; try with_reducible rfl
  try simp only [Act.put, List.getElem_toArray, List.getElem_cons_succ, List.getElem_cons_zero, List.setIfInBounds_toArray, List.set_cons_zero, List.set_cons_succ]
  refine wpAnyH_take (i := 6) rfl (by kernel_rfl) (by kernel_rfl) (by kernel_rfl) (fun _ _ _ h => h) (yields_row (by kernel_rfl) 37 (.tmp 20) rfl g 34 34 (sdf 2 fun _ => 0) rfl _ (fun W h => h.2.2.2.2.2.1 1 (by omega)) Tryd.underlying37 rfl size37) (by assumption) ?_
  try simp only [Act.put, List.getElem_toArray, List.getElem_cons_succ, List.getElem_cons_zero, List.setIfInBounds_toArray, List.set_cons_zero, List.set_cons_succ]
  refine wpAnyH_take (i := 7) rfl (by kernel_rfl) (by kernel_rfl) (by kernel_rfl) (fun _ _ _ h => h) (yields_row (by kernel_rfl) 37 (.tmp 3) rfl (B + 1) 0 34 (sdf 2 fun _ => 0) rfl _ (fun W h => HB.out ▸ h.2.2.2.1.range) Tryd.underlying37 rfl size37) (by assumption) ?_
  try simp only [Act.put, List.getElem_toArray, List.getElem_cons_succ, List.getElem_cons_zero, List.setIfInBounds_toArray, List.set_cons_zero, List.set_cons_succ]
  refine wpAnyH_take (i := 8) rfl (by kernel_rfl) (by kernel_rfl) (by kernel_rfl) (fun _ _ _ h => h) (yields_agg_bin (by kernel_rfl) .eql 37 37 _ _ rfl _ _ rfl rfl guard37 (.bool true) (fun W => eql_sdf 2 _ _ true (by decide) W)) (by assumption) ?_
  try simp only [Act.put, List.getElem_toArray, List.getElem_cons_succ, List.getElem_cons_zero, List.setIfInBounds_toArray, List.set_cons_zero, List.set_cons_succ]
  refine wpAnyH_take (i := 9) (v := ?_) rfl (by kernel_rfl) (by kernel_rfl) (by kernel_rfl) (fun _ _ _ h => h) (Or.inl ⟨by kernel_rfl, ?_⟩) (by assumption) ?_
  rotate_left
  · intro w hSw; (try dsimp only at hSw); go_simp; try with_reducible rfl
  try simp only [Act.put, List.getElem_toArray, List.getElem_cons_succ, List.getElem_cons_zero, List.setIfInBounds_toArray, List.set_cons_zero, List.set_cons_succ]
  refine wpAnyH_take (i := 10) (v := ?_) rfl (by kernel_rfl) (by kernel_rfl) (by kernel_rfl) (fun _ _ _ h => h) (Or.inl ⟨by kernel_rfl, ?_⟩) (by assumption) ?_
  rotate_left
  · intro w hSw; (try dsimp only at hSw); go_simp; try with_reducible rfl
  try simp only [Act.put, List.getElem_toArray, List.getElem_cons_succ, List.getElem_cons_zero, List.setIfInBounds_toArray, List.set_cons_zero, List.set_cons_succ]
  refine wpAnyH_done (by kernel_rfl) ?_ _
  clear h0
  have h0 := hHeld.2
  clear hHeld
  have hc := HB.out ▸ h0.2.1
  have hz := (HB.out ▸ h0.2.2.2.1 : Blk _ (B + 2) 24 5 zcl)
  go_wp2_with (first
    | (refine wpList_load_blk rfl 24 (.tmp 2) rfl B 24 5 (clf false g 2 cap) rfl hc _ Tryd.underlying24 rfl size24 ?_)
    | (refine wpList_store_blk rfl 24 (.tmp 4) (.tmp 25) rfl (B + 2) 24 5 zcl (clf false g 2 cap) _ rfl rfl rfl hz size24 (fun i _ => clf_one _ _ _ _ i) ?_))
  refine bodyPost_ret (results_blk rfl _ _ (B + 2) 24 5 (clf false g 2 cap) rfl (hz.setRow_ _) _ Tryd.underlying24 rfl size24) rfl ⟨by rw [← cl_row], ?_⟩
  rw [← HB.out]
  exact below_of_only (only_setRow h0.1 (.inr (by omega)) _)
  
end Go.Proofs.YtlfcaagogeclpaaDoor
