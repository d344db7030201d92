/-
  client.header, Check, follows, last, Latest, Active of the example's.
-/
import Derived.Test.YtlfcaagogeclpaaDoorJ1
import Derived.Test.YtlfcaagogeclpaaDoorH0
import Derived.Deep.RegionWith
namespace Go.Proofs.YtlfcaagogeclpaaDoor
open Go.RowKit
set_option maxRecDepth 100000 in
set_option maxHeartbeats 400000 in
theorem header19_any (ht : Int) (rt : Nat → BitVec 8) (w : World) : Calls Tryd.prog 19 #[.string ⟨#[97]⟩, .agg (Row 34 (sdf ht rt))] w fun e w' => e = .returned (.agg (Row 35 (hdf ht rt))) ∧ Below w.heap.size w w' := by
  obtain ⟨hw, hb, hz⟩ := two_more w _ _ 37 30 34 35 _ _ (rfl : Row 34 (sdf ht rt) = Row 34 (sdf ht rt)) zeros35
  have hb0 : Blk (w.alloc (.cells (Row 34 (sdf ht rt)) 37)) w.heap.size 37 34 (sdf ht rt) := Blk.new w 37 rfl
  have c1 : ∀ o : Obj, ((w.alloc (.cells (Row 34 (sdf ht rt)) 37)).alloc o).cell? ⟨w.heap.size, 0, none⟩ = some (.int .i64 ht) := fun o => (hb0.alloc o).cell (by omega)
  have c2 : ∀ o : Obj, ((w.alloc (.cells (Row 34 (sdf ht rt)) 37)).alloc o).cell? ⟨w.heap.size, 1, none⟩ = some (.int .i64 0) := fun o => (hb0.alloc o).cell (by omega)
  have RG := Lib.hid (sdf_range (o := 0) (ht := ht) (rt := rt) hb (by omega) (fun i _ => by rw [Nat.zero_add]))
  have HZ := Lib.hid (And.intro hw hz)
  clear hb hw hz hb0
  go_enter Tryd.func19, Tryd.ntmps19
  go_wp2_with (first
    | (refine wpList_load_range rfl 28 (.tmp 10) rfl w.heap.size 2 32 (fun i => By (rt i)) rfl RG.out _ Tryd.underlying28 rfl size28 ?_)
    | (refine wpList_build_all rfl 30 #[(0, .tmp 5), (1, .tmp 7), (2, .tmp 9), (3, .tmp 11)] rfl [(0, .string ⟨#[97]⟩), (1, .int .i64 ht), (2, .int .i64 0), (3, .agg (Row 32 fun i => By (rt i)))] rfl _ (built30 ht rt) ?_)
    | (refine wpList_store_blk rfl 30 (.tmp 4) (.tmp 12) rfl (w.heap.size + 1) 30 35 _ (hdf ht rt) _ rfl rfl rfl HZ.out.2 size30 (fun i _ => hdf_one ht rt i) ?_))
  exact bodyPost_ret (results_blk rfl _ _ (w.heap.size + 1) 30 35 _ rfl (HZ.out.2.setRow_ _) _ Tryd.underlying30 rfl size30) rfl ⟨rfl, below_of_only (only_setRow HZ.out.1 (.inr (Nat.le_succ _)) _)⟩
set_option maxRecDepth 100000 in
set_option maxHeartbeats 1000000 in
theorem check_any (ht : Int) (h1 : 1 ≤ ht) (h2 : ht ≤ 1000) (rt : Nat → BitVec 8) (w : World) : Calls Tryd.prog 14 #[.agg (Row 35 (hdf ht rt))] w fun e w' => e = .returned (.bool true) ∧ Below w.heap.size w w' := by
  have hb0 : Blk (w.alloc (.cells (Row 35 (hdf ht rt)) 30)) w.heap.size 30 35 (hdf ht rt) := Blk.new w 30 rfl
  have c0 : (w.alloc (.cells (Row 35 (hdf ht rt)) 30)).cell? ⟨w.heap.size, 0, none⟩ = some (.string ⟨#[97]⟩) := hb0.cell (by omega)
  have c1 : (w.alloc (.cells (Row 35 (hdf ht rt)) 30)).cell? ⟨w.heap.size, 1, none⟩ = some (.int .i64 ht) := hb0.cell (by omega)
  have c2 : (w.alloc (.cells (Row 35 (hdf ht rt)) 30)).cell? ⟨w.heap.size, 2, none⟩ = some (.int .i64 0) := hb0.cell (by omega)
  have m1 : max ht 0 = ht := by omega
  have m2 : ht ≤ 1099511627776 := by omega
  have HF := Lib.hid (below_of_only (only_alloc (only_refl w none) (.cells (Row 35 (hdf ht rt)) 30)))
  clear hb0
  go_enter Tryd.func14, Tryd.ntmps14
  go_wp2_with fail
  go_ret
  exact ⟨rfl, HF.out⟩
set_option maxRecDepth 100000 in
set_option maxHeartbeats 1000000 in
theorem follows_any (h1 h2 : Int) (r1 r2 : Nat → BitVec 8) (hlt : h1 < h2) (w : World) : Calls Tryd.prog 20 #[.agg (Row 34 (sdf h1 r1)), .agg (Row 34 (sdf h2 r2))] w fun e w' => e = .returned (.bool true) ∧ Below w.heap.size w w' := by
  obtain ⟨hw, hb, hz⟩ := two_more w _ _ 37 37 34 34 _ _ (rfl : Row 34 (sdf h1 r1) = Row 34 (sdf h1 r1)) (rfl : Row 34 (sdf h2 r2) = Row 34 (sdf h2 r2))
  have c1 : ((w.alloc (.cells (Row 34 (sdf h1 r1)) 37)).alloc (.cells (Row 34 (sdf h2 r2)) 37)).cell? ⟨w.heap.size, 0, none⟩ = some (.int .i64 h1) := hb.cell (by omega)
  have c2 : ((w.alloc (.cells (Row 34 (sdf h1 r1)) 37)).alloc (.cells (Row 34 (sdf h2 r2)) 37)).cell? ⟨w.heap.size, 1, none⟩ = some (.int .i64 0) := hb.cell (by omega)
  have c3 : ((w.alloc (.cells (Row 34 (sdf h1 r1)) 37)).alloc (.cells (Row 34 (sdf h2 r2)) 37)).cell? ⟨w.heap.size + 1, 0, none⟩ = some (.int .i64 h2) := hz.cell (by omega)
  have c4 : ((w.alloc (.cells (Row 34 (sdf h1 r1)) 37)).alloc (.cells (Row 34 (sdf h2 r2)) 37)).cell? ⟨w.heap.size + 1, 1, none⟩ = some (.int .i64 0) := hz.cell (by omega)
  have HF := Lib.hid (below_of_only hw)
  clear hb hz hw
  go_enter Tryd.func20, Tryd.ntmps20
  go_wp2_with fail
  go_ret
  exact ⟨rfl, HF.out⟩
/-- n states in block g: heights 1, 2, ..; times and roots nought. -/
def SS (w : World) (g n : Nat) : Prop := ∀ j, j < n → w.rangeAt g (34 * j) (Row 34 (sdf ((j : Int) + 1) fun _ => 0)).toList
theorem SS.next {w w' : World} {g n : Nat} (h : SS w g n) (hg : g < w.heap.size) (hb : w.grownBy w' none) : SS w' g n := fun j hj i v hv => by
  rw [cell_of_heap (hb.block g hg (by simp))]; exact h j hj i v hv
/-- The last of n such states. -/
def lst (n : Nat) : Nat → Value := sdf (((n - 1 : Nat) : Int) + 1) fun _ => 0
set_option maxRecDepth 100000 in
set_option maxHeartbeats 1000000 in
theorem last_any (g n cap : Nat) (hn : n = 1 ∨ n = 2) (w : World) (hs : SS w g n) (hg : g < w.heap.size) : Calls Tryd.prog 31 #[.slice (some ⟨g, 0, none⟩) n cap] w fun e w' => e = .returned (.agg (Row 34 (lst n))) ∧ Below w.heap.size w w' := by
  obtain ⟨hw, hb, hz⟩ := two_more w _ _ 37 37 34 34 _ _ zeros34 zeros34
  have hs' := hs.next hg hw
  rcases hn with rfl | rfl
  · have RG := Lib.hid (hs' 0 (by omega))
    have HZ := Lib.hid (And.intro hw hb)
    clear hs hs' hb hz hw
    go_enter Tryd.func31, Tryd.ntmps31
    go_wp2_with (first
      | (refine wpList_load_range rfl 37 (.tmp 12) rfl g 0 34 (lst 1) rfl RG.out _ Tryd.underlying37 rfl size37 ?_)
      | (refine wpList_store_blk rfl 37 (.tmp 2) (.tmp 13) rfl w.heap.size 37 34 _ (lst 1) _ rfl rfl rfl HZ.out.2 size37 (fun i _ => sdf_one _ _ i) ?_))
    exact bodyPost_ret (results_blk rfl _ _ w.heap.size 37 34 _ rfl (HZ.out.2.setRow_ _) _ Tryd.underlying37 rfl size37) rfl ⟨rfl, below_of_only (only_setRow HZ.out.1 (.inr (Nat.le_refl _)) _)⟩
  · have RG := Lib.hid (hs' 1 (by omega))
    have HZ := Lib.hid (And.intro hw hb)
    clear hs hs' hb hz hw
    go_enter Tryd.func31, Tryd.ntmps31
    go_wp2_with (first
      | (refine wpList_load_range rfl 37 (.tmp 12) rfl g 34 34 (lst 2) rfl RG.out _ Tryd.underlying37 rfl size37 ?_)
      | (refine wpList_store_blk rfl 37 (.tmp 2) (.tmp 13) rfl w.heap.size 37 34 _ (lst 2) _ rfl rfl rfl HZ.out.2 size37 (fun i _ => sdf_one _ _ i) ?_))
    exact bodyPost_ret (results_blk rfl _ _ w.heap.size 37 34 _ rfl (HZ.out.2.setRow_ _) _ Tryd.underlying37 rfl size37) rfl ⟨rfl, below_of_only (only_setRow HZ.out.1 (.inr (Nat.le_refl _)) _)⟩
/-- A client's value. -/
def cl (fz : Bool) (g n cap : Nat) : Value := .agg #[.string ⟨#[97]⟩, .string ⟨#[107]⟩, .int .i64 10, .bool fz, .slice (some ⟨g, 0, none⟩) n cap]
def clf (fz : Bool) (g n cap : Nat) : Nat → Value
  | 0 => .string ⟨#[97]⟩
  | 1 => .string ⟨#[107]⟩
  | 2 => .int .i64 10
  | 3 => .bool fz
  | _ => .slice (some ⟨g, 0, none⟩) n cap
theorem clf_one (fz : Bool) (g n cap i : Nat) : (clf fz g n cap i).oneCell' = true := by
  unfold clf
  split <;> rfl
theorem cl_row (fz : Bool) (g n cap : Nat) : #[Value.string ⟨#[97]⟩, Value.string ⟨#[107]⟩, Value.int .i64 10, Value.bool fz, Value.slice (some ⟨g, 0, none⟩) n cap] = Row 5 (clf fz g n cap) := by kernel_rfl
set_option maxRecDepth 100000 in
set_option maxHeartbeats 1000000 in
theorem latest_any (fz : Bool) (g n cap : Nat) (hn : n = 1 ∨ n = 2) (w : World) (hs : SS w g n) (hg : g < w.heap.size) : Calls Tryd.prog 21 #[cl fz g n cap] w fun e w' => e = .returned (.agg (Row 34 (lst n))) ∧ Below w.heap.size w w' := by
  obtain ⟨hw, hb, hz⟩ := two_more w _ _ 24 37 5 34 _ _ (cl_row fz g n cap) zeros34
  have hs' := hs.next hg hw
  have hg' : g < w.heap.size + 2 := by omega
  unfold cl
  have HZ := Lib.hid (And.intro hw (And.intro hs' hz))
  clear hs hs' hb hz hw
  go_enter Tryd.func21, Tryd.ntmps21
  go_wp2_with fail
  refine (last_any g n cap hn _ HZ.out.2.1 (by simp; omega)).mono ?_
  rintro e w2 ⟨rfl, hb2⟩
  obtain ⟨hw, hs, hz⟩ := HZ.out
  have hw2 := only_next hw hb2
  have hz2 := hz.below hb2 hz.lt
  clear HZ hw hs hz hb2
  go_wp2_with (first
    | (refine wpList_store_blk rfl 37 (.tmp 2) (.tmp 5) rfl (w.heap.size + 1) 37 34 _ (lst n) _ rfl rfl rfl hz2 size37 (fun i _ => sdf_one _ _ i) ?_))
  exact bodyPost_ret (results_blk rfl _ _ (w.heap.size + 1) 37 34 _ rfl (hz2.setRow_ _) _ Tryd.underlying37 rfl size37) rfl ⟨rfl, below_of_only (only_setRow hw2 (.inr (Nat.le_succ _)) _)⟩
end Go.Proofs.YtlfcaagogeclpaaDoor
