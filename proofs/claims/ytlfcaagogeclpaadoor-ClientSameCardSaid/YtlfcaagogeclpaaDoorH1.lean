/-
  twinspanref02.Text.
-/
import Derived.Test.YtlfcaagogeclpaaDoorH0
import Derived.Lib.AppendZeros
namespace Go.Proofs.YtlfcaagogeclpaaDoor
open Go.RowKit
set_option maxRecDepth 100000 in
set_option maxHeartbeats 1000000 in
theorem reftext_any (c : Nat → BitVec 8) (w : World) : Calls Tryd.prog 27 #[.agg (Row 32 fun i => By (c i))] w fun e w' => e = .returned (.string (str 32 c)) ∧ Below w.heap.size w w' := by
  have hr0 := Blk.new w 28 (rfl : Row 32 (fun i => By (c i)) = Row 32 (fun i => By (c i)))
  have hw0 := below_of_only (only_alloc (only_refl w none) (.cells (Row 32 fun i => By (c i)) 28))
  go_enter Tryd.func27, Tryd.ntmps27
  go_wp2_with fail
  go_loopw [3, 4] (fun v i wr => ∃ k : Nat, k ≤ 32 ∧ i = .int .i64 k ∧ BS (w.heap.size + 1) wr v k c ∧ Below w.heap.size w wr ∧ Blk wr w.heap.size 28 32 (fun i => By (c i)) ∧ w.heap.size + 1 ≤ wr.heap.size) (fun _ i _ => 32 - (intOf i).toNat)
  case atStart => exact ⟨0, by omega, rfl, BS.nil _ _ _, hw0, hr0, by simp⟩
  case round =>
    obtain ⟨k, hk, rfl, hv, hw, hr, hz⟩ := hrel
    by_cases hkt : k < 32
    · have hc0 := hr.cell hkt
      have hbs : Blk (wr.alloc (.cells #[By (c k)] 5)) wr.heap.size 5 1 (fun _ => By (c k)) := Blk.new wr 5 rfl
      obtain ⟨v', w', hrun, hv', hw'⟩ := (hv.next (only_alloc (only_refl _ _) (.cells #[By (c k)] 5))).append 55 (by simp; omega) wr.heap.size (c k) (hbs.cell (by omega)) (by omega)
      go_wp2_with (first | (at_builtin; refine Lib.wpList_append_run _ rfl (.tmp 9) (.tmp 13) 55 55 rfl _ _ rfl rfl _ _ hrun ?_))
      go_roundw
      case rel => exact ⟨k + 1, by omega, by go_num, hv'.congr fun i _ => by unfold upd; split <;> simp_all, (below_of_only (only_alloc (only_of_below hw none) _)).trans (hw'.mono (by omega)), (hr.alloc _).below hw' (by omega), by have := hw'.size; simp at this; omega⟩
      case measure => simp [intOf]; omega
    · obtain rfl : k = 32 := by omega
      have hcv := hv.text
      go_wp2_with fail
      go_ret
      exact ⟨rfl, hw⟩
end Go.Proofs.YtlfcaagogeclpaaDoor
