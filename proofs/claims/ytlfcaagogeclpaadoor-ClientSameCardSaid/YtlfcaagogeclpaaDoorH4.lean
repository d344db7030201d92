/-
  twinspanref02.Quick, where the message takes two blocks.
-/
import Derived.Test.YtlfcaagogeclpaaDoorH3
namespace Go.Proofs.YtlfcaagogeclpaaDoor
open Go.RowKit
theorem beginRow : (#[Value.int .u32 1779033703, Value.int .u32 3144134277, Value.int .u32 1013904242, Value.int .u32 2773480762, Value.int .u32 1359893119, Value.int .u32 2600822924, Value.int .u32 528734635, Value.int .u32 1541459225] : Array Value) = Row 8 (fun i => U (Sha.X0 i)) := by kernel_rfl
theorem facRow : (#[Value.int .u32 1116352408, Value.int .u32 1899447441, Value.int .u32 3049323471, Value.int .u32 3921009573, Value.int .u32 961987163, Value.int .u32 1508970993, Value.int .u32 2453635748, Value.int .u32 2870763221, Value.int .u32 3624381080, Value.int .u32 310598401, Value.int .u32 607225278, Value.int .u32 1426881987, Value.int .u32 1925078388, Value.int .u32 2162078206, Value.int .u32 2614888103, Value.int .u32 3248222580, Value.int .u32 3835390401, Value.int .u32 4022224774, Value.int .u32 264347078, Value.int .u32 604807628, Value.int .u32 770255983, Value.int .u32 1249150122, Value.int .u32 1555081692, Value.int .u32 1996064986, Value.int .u32 2554220882, Value.int .u32 2821834349, Value.int .u32 2952996808, Value.int .u32 3210313671, Value.int .u32 3336571891, Value.int .u32 3584528711, Value.int .u32 113926993, Value.int .u32 338241895, Value.int .u32 666307205, Value.int .u32 773529912, Value.int .u32 1294757372, Value.int .u32 1396182291, Value.int .u32 1695183700, Value.int .u32 1986661051, Value.int .u32 2177026350, Value.int .u32 2456956037, Value.int .u32 2730485921, Value.int .u32 2820302411, Value.int .u32 3259730800, Value.int .u32 3345764771, Value.int .u32 3516065817, Value.int .u32 3600352804, Value.int .u32 4094571909, Value.int .u32 275423344, Value.int .u32 430227734, Value.int .u32 506948616, Value.int .u32 659060556, Value.int .u32 883997877, Value.int .u32 958139571, Value.int .u32 1322822218, Value.int .u32 1537002063, Value.int .u32 1747873779, Value.int .u32 1955562222, Value.int .u32 2024104815, Value.int .u32 2227730452, Value.int .u32 2361852424, Value.int .u32 2428436474, Value.int .u32 2756734187, Value.int .u32 3204031479, Value.int .u32 3329325298] : Array Value) = Row 64 (fun i => U (Sha.K i)) := by kernel_rfl
theorem msg_DG (n z : Nat) (s : ByteArray) (hn : 64 < n) (hz : n + 1 + z = 120) : Sha.out (Sha.comp Sha.K (Sha.comp Sha.K Sha.X0 (msg n (sb s) z)) (fun i => msg n (sb s) z (64 + i))) = DG (sb s) (n - 64) (fun i => sb s (64 + i)) := by
  unfold DG
  rw [comp_congr (c := msg n (sb s) z) (d := sb s) fun i hi => by unfold msg; rw [if_pos (by omega)],
    comp_congr (d := padded (n - 64) (fun i => sb s (64 + i))) fun i hi => ?_]
  unfold msg padded
  by_cases h1 : i < n - 64
  · rw [if_pos (by omega), if_pos h1]
  · rw [if_neg (by omega), if_neg h1]
    by_cases h2 : i = n - 64
    · rw [if_pos (by omega), if_pos h2]
    · rw [if_neg (by omega), if_neg h2]
      by_cases h3 : i < 56
      · rw [if_pos (by omega), if_pos h3]
      · rw [if_neg (by omega), if_neg h3, show 64 + (n - 64) = n by omega, show 64 + i - (n + 1 + z) = i - 56 by omega]
theorem quick_world (w : World) (Z1 Z2 Z3 Z4 : Array Value) (h1 : Z1 = Row 32 fun _ => By 0) (h3 : Z3 = Row 8 (fun i => U (Sha.X0 i))) (h4 : Z4 = Row 64 (fun i => U (Sha.K i))) :
    w.grownBy ((((w.alloc (.cells Z1 28)).alloc (.cells Z2 67)).alloc (.cells Z3 68)).alloc (.cells Z4 68)) none ∧ Blk ((((w.alloc (.cells Z1 28)).alloc (.cells Z2 67)).alloc (.cells Z3 68)).alloc (.cells Z4 68)) w.heap.size 28 32 (fun _ => By 0) ∧
    (∀ i, i < 8 → ((((w.alloc (.cells Z1 28)).alloc (.cells Z2 67)).alloc (.cells Z3 68)).alloc (.cells Z4 68)).cell? ⟨w.heap.size + 1 + 1, i, none⟩ = some (U (Sha.X0 i))) ∧
    (∀ i, i < 64 → ((((w.alloc (.cells Z1 28)).alloc (.cells Z2 67)).alloc (.cells Z3 68)).alloc (.cells Z4 68)).cell? ⟨w.heap.size + 1 + 1 + 1, i, none⟩ = some (U (Sha.K i))) := by
  refine ⟨only_alloc (only_alloc (only_alloc (only_alloc (only_refl _ _) _) _) _) _, (((Blk.new w 28 h1).alloc _).alloc _).alloc _, fun i hi => ?_, fun i hi => ?_⟩
  · have h := (Blk.new ((w.alloc (.cells Z1 28)).alloc (.cells Z2 67)) 68 h3).alloc (.cells Z4 68)
    simp only [World.size_alloc] at h
    exact h.cell hi
  · have h := Blk.new (((w.alloc (.cells Z1 28)).alloc (.cells Z2 67)).alloc (.cells Z3 68)) 68 h4
    simp only [World.size_alloc] at h
    exact h.cell hi
set_option maxRecDepth 100000 in
set_option maxHeartbeats 4000000 in
theorem quick_any (n z : Nat) (s : ByteArray) (hs : s.size = n) (hn : 64 < n) (hz : n + 1 + z = 120) (w : World) : Calls Tryd.prog 28 #[.string s] w fun e w' => e = .returned (.agg (Row 32 fun i => By (DG (sb s) (n - 64) (fun i => sb s (64 + i)) i))) ∧ Below w.heap.size w w' := by
  obtain ⟨hw, hr, hb, hk⟩ := quick_world w _ #[.slice (some ⟨w.heap.size + 1 + 1, 0, none⟩) 8 8, .slice (some ⟨w.heap.size + 1 + 1 + 1, 0, none⟩) 64 64] _ _ zeros32b beginRow facRow
  have hsum := refsum_any (w.heap.size + 1 + 1) (w.heap.size + 1 + 1 + 1) n z s hs hn hz _ hb hk
  rw [msg_DG n z s hn hz] at hsum
  have HW := Lib.hid (And.intro hw hr)
  have HS := Lib.hid hsum
  clear hw hr hb hk hsum hs
  go_enter Tryd.func28, Tryd.ntmps28
  go_wp2_with fail
  refine HS.out.mono ?_
  rintro e w2 ⟨rfl, hb2⟩
  obtain ⟨hw, hr⟩ := HW.out
  have hw2 := only_next hw hb2
  have hr2 := hr.below hb2 hr.lt
  clear hb2 HS HW hw hr
  go_wp2_with (first
    | (refine wpList_store_blk rfl 28 (.tmp 2) (.tmp 10) rfl w.heap.size 28 32 _ (fun i => By (DG (sb s) (n - 64) (fun i => sb s (64 + i)) i)) _ rfl rfl rfl hr2 size28 (fun i _ => rfl) ?_))
  exact bodyPost_ret (results_blk rfl _ _ w.heap.size 28 32 _ rfl (hr2.setRow_ _) _ Tryd.underlying28 rfl size28) rfl ⟨rfl, below_of_only (only_setRow hw2 (.inr (Nat.le_refl _)) _)⟩
end Go.Proofs.YtlfcaagogeclpaaDoor
