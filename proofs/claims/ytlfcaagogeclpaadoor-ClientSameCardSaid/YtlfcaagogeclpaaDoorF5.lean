/-
  (*seal.Sealer).Seal with one text; seal.Of.
-/
import Derived.Test.YtlfcaagogeclpaaDoorF4
import Derived.Test.YtlfcaagogeclpaaDoorF3
import Derived.Test.YtlfcaagogeclpaaDoorF0
namespace Go.Proofs.YtlfcaagogeclpaaDoor
open Go.RowKit
/-- The seal by a block of 64 bytes of m bytes. -/
def SL (kb : Nat → BitVec 8) (m : Nat) (d : Nat → BitVec 8) : Nat → BitVec 8 := DG (fun i => kb i ^^^ 92) 32 (DG (fun i => kb i ^^^ 54) m d)
theorem put54 (c : Nat → BitVec 8) (w : World) : Calls Tryd.prog 46 #[.agg (Row 64 fun i => By (c i)), .int .u8 54] w fun e w' => e = .returned (.string (str 64 fun i => c i ^^^ 54)) ∧ Below w.heap.size w w' := sealput_any c 54 w
theorem put92 (c : Nat → BitVec 8) (w : World) : Calls Tryd.prog 46 #[.agg (Row 64 fun i => By (c i)), .int .u8 92] w fun e w' => e = .returned (.string (str 64 fun i => c i ^^^ 92)) ∧ Below w.heap.size w w' := sealput_any c 92 w
theorem two_new (w : World) (Z1 Z2 : Array Value) (h1 : Z1 = Row 32 fun _ => By 0) (h2 : Z2 = Row 64 fun _ => By 0) :
    w.grownBy ((w.alloc (.cells Z1 28)).alloc (.cells Z2 71)) none ∧ Blk ((w.alloc (.cells Z1 28)).alloc (.cells Z2 71)) w.heap.size 28 32 (fun _ => By 0) ∧ Blk ((w.alloc (.cells Z1 28)).alloc (.cells Z2 71)) (w.heap.size + 1) 71 64 (fun _ => By 0) := by
  refine ⟨only_alloc (only_alloc (only_refl w none) _) _, (Blk.new w 28 h1).alloc _, ?_⟩
  have := Blk.new (w.alloc (.cells Z1 28)) 71 h2
  rw [World.size_alloc] at this
  exact this
set_option maxRecDepth 100000 in
set_option maxHeartbeats 2000000 in
theorem seal_any (kb : Nat → BitVec 8) (m : Nat) (d : Nat → BitVec 8) (hm0 : 0 < m) (hm : m < 56) (g q : Nat) (w : World) (hg : Blk w g 74 64 (fun i => By (kb i))) (hq : w.cell? ⟨q, 0, none⟩ = some (.string (str m d))) (hz : 1 < w.heap.size)
    (hK : ∀ i, i < 64 → w.cell? ⟨1, i, none⟩ = some (U (Sha.K i))) (hB : ∀ i, i < 8 → w.cell? ⟨0, i, none⟩ = some (U (Sha.X0 i))) :
    Calls Tryd.prog 33 #[.pointer (some ⟨g, 0, none⟩), .slice (some ⟨q, 0, none⟩) 1 1] w fun e w' => e = .returned (.agg (Row 32 fun i => By (SL kb m d i))) ∧ Below w.heap.size w w' := by
  obtain ⟨hw1, hr1, hs1⟩ := two_new w _ _ zeros32b zeros64b
  have hg1 := hg.grown hw1 (by simp)
  go_enter Tryd.func33, Tryd.ntmps33
  go_wp2_with (first
    | (refine wpList_load_blk rfl 71 (.tmp 13) rfl g 74 64 _ rfl hg1 _ Tryd.underlying71 rfl size71 ?_)
    | (refine wpList_store_blk rfl 71 (.tmp 5) (.tmp 14) rfl (w.heap.size + 1) 71 64 _ (fun i => By (kb i)) _ rfl rfl rfl hs1 size71 (fun i _ => rfl) ?_))
  have hw2 := only_setRow hw1 (.inr (Nat.le_succ _)) (Row 64 fun i => By (kb i))
  have hr2 := hr1.setRow_far (Nat.ne_of_lt (Nat.lt_succ_self _)) (Row 64 fun i => By (kb i))
  have hs2 := hs1.setRow_ (n' := 64) (fun i => By (kb i))
  clear hw1 hr1 hs1 hg1 hg
  generalize hW : World.setRow _ _ _ = W at hw2 hr2 hs2 ⊢
  clear hW
  generalize hS : w.heap.size + 1 = S at hs2 ⊢
  have hSz : S < W.heap.size := hs2.lt
  refine (new_any W (fun i hi => only_cell hw2 (hB i hi))).mono ?_
  rintro e w1 ⟨rfl, ho1, hb1, -⟩
  have hw3 := only_trans hw2 ho1
  have hr3 := hr2.grown ho1 (by simp)
  have hs3 := hs2.grown ho1 (by simp)
  clear hw2 hr2 hs2 ho1
  generalize W.heap.size = H at *
  have HS := Lib.hid (And.intro hS hSz)
  clear hS hSz
  have hq3 : w1.cell? ⟨q, 0, none⟩ = some (.string (str m d)) := only_cell hw3 hq
  go_wp2_with (first
    | (refine wpList_load_blk rfl 71 (.tmp 5) rfl S 71 64 _ rfl hs3 _ Tryd.underlying71 rfl size71 ?_))
  refine (put54 kb w1).mono ?_
  rintro e w4 ⟨rfl, hb4⟩
  have hw4 := only_next hw3 hb4
  have hr4 := hr3.below hb4 hr3.lt
  have hs4 := hs3.below hb4 hs3.lt
  have hh4 := hb1.below hb4 hb1.lt
  clear hw3 hr3 hs3 hb1 hb4 hq3
  go_wp2_with fail
  refine (write1 _ H w4 hh4 (by have := HS.out; omega) (fun i hi => only_cell hw4 (hK i hi))).mono ?_
  rintro e w5 ⟨rfl, ho5, hh5⟩
  have hw5 := only_then hw4 ho5 (by have := HS.out; simp; omega)
  have hr5 := hr4.grown ho5 (by have := HS.out; simp; omega)
  have hs5 := hs4.grown ho5 (by have := HS.out; simp; omega)
  clear hw4 hr4 hs4 hh4 ho5
  have hq5 : w5.cell? ⟨q, 0, none⟩ = some (.string (str m d)) := only_cell hw5 hq
  go_wp2_with fail
  refine wp_loop_rounds 2 ?_
  rw [rounds_succ]
  go_wp2_with fail
  refine (write2 _ _ m d hm0 hm H w5 hh5 (by have := HS.out; omega) (fun i hi => only_cell hw5 (hK i hi))).mono ?_
  rintro e w6 ⟨rfl, ho6, hh6⟩
  have hw6 := only_then hw5 ho6 (by have := HS.out; simp; omega)
  have hr6 := hr5.grown ho6 (by have := HS.out; simp; omega)
  have hs6 := hs5.grown ho6 (by have := HS.out; simp; omega)
  clear hw5 hr5 hs5 hh5 ho6 hq5
  go_wp2_with fail
  rw [rounds_succ]
  go_wp2_with (first
    | (refine wpList_load_blk rfl 71 (.tmp 5) rfl S 71 64 _ rfl hs6 _ Tryd.underlying71 rfl size71 ?_))
  refine (put92 kb w6).mono ?_
  rintro e w7 ⟨rfl, hb7⟩
  have hw7 := only_next hw6 hb7
  have hr7 := hr6.below hb7 hr6.lt
  have hh7 := hh6.below hb7 hh6.lt
  clear hw6 hr6 hs6 hh6 hb7
  go_wp2_with fail
  refine (sum_DG _ _ m d hm H w7 hh7 (by have := HS.out; omega) (fun i hi => only_cell hw7 (hK i hi)) (fun i hi => only_cell hw7 (hB i hi))).mono ?_
  rintro e w8 ⟨rfl, hb8⟩
  have hw8 := only_next hw7 hb8
  have hr8 := hr7.below hb8 hr7.lt
  clear hw7 hr7 hh7 hb8
  go_wp2_with fail
  refine (hashtext_any _ w8).mono ?_
  rintro e w9 ⟨rfl, hb9⟩
  have hw9 := only_next hw8 hb9
  have hr9 := hr8.below hb9 hr8.lt
  clear hw8 hr8 hb9
  go_wp2_with fail
  have hw10 := only_alloc hw9 (.cells #[.string (str 64 fun i => kb i ^^^ 92), .string (str 32 (DG (fun i => kb i ^^^ 54) m d))] 9)
  have hr10 := hr9.alloc (.cells #[.string (str 64 fun i => kb i ^^^ 92), .string (str 32 (DG (fun i => kb i ^^^ 54) m d))] 9)
  refine (of2_any _ _ w9.heap.size _ (by rw [World.cell?_alloc_at _ _ _ _ rfl]; rfl) (by rw [World.cell?_alloc_at _ _ _ _ rfl]; rfl) (by have := hw10.size; omega) (fun i hi => only_cell hw10 (hK i hi)) (fun i hi => only_cell hw10 (hB i hi))).mono ?_
  rintro e w11 ⟨rfl, hb11⟩
  have hw11 := only_next hw10 hb11
  have hr11 := hr10.below hb11 hr10.lt
  clear hw10 hr10 hb11 hw9 hr9
  go_wp2_with (first
    | (refine wpList_store_blk rfl 28 (.tmp 4) (.tmp 36) rfl w.heap.size 28 32 _ (fun i => By (SL kb m d i)) _ rfl rfl rfl hr11 size28 (fun i _ => rfl) ?_))
  exact bodyPost_ret (results_blk rfl _ _ w.heap.size 28 32 _ rfl (hr11.setRow_ _) _ Tryd.underlying28 rfl size28) rfl ⟨rfl, below_of_only (only_setRow hw11 (.inr (Nat.le_refl _)) _)⟩
end Go.Proofs.YtlfcaagogeclpaaDoor
