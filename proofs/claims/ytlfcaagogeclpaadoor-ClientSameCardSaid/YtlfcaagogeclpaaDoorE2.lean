/-
  The walk of (*hash.Hasher).Sum.
-/
import Derived.Test.YtlfcaagogeclpaaDoorE1
import Derived.Deep.RegionWith
import Derived.Deep.DeepCutAuto
namespace Go.Proofs.YtlfcaagogeclpaaDoor
open Go.RowKit
set_option maxRecDepth 100000 in
set_option maxHeartbeats 4000000 in
theorem sum_any (b : Nat) (x : Nat → BitVec 32) (c : Nat → BitVec 8) (n : Nat) (w : World) (hb : Blk w b 88 74 (hs x c n)) (hb1 : 1 < b) (hK : ∀ i, i < 64 → w.cell? ⟨1, i, none⟩ = some (U (Sha.K i))) (hB : ∀ i, i < 8 → w.cell? ⟨0, i, none⟩ = some (U (Sha.X0 i)))
    (hn : n ≤ 1000) (hn2 : n % 64 < 56) :
    Calls Tryd.prog 48 #[.pointer (some ⟨b, 0, none⟩)] w fun e w' => e = .returned (.agg (Row 32 fun i => By (Sha.out (wx x c n (pad n)) i))) ∧ Below w.heap.size w w' := by
  have hbw : b < w.heap.size := hb.lt
  have hB' : ∀ i, i < 8 → (w.alloc (.cells #[Value.int .u8 0, Value.int .u8 0, Value.int .u8 0, Value.int .u8 0, Value.int .u8 0, Value.int .u8 0, Value.int .u8 0, Value.int .u8 0, Value.int .u8 0, Value.int .u8 0, Value.int .u8 0, Value.int .u8 0, Value.int .u8 0, Value.int .u8 0, Value.int .u8 0, Value.int .u8 0, Value.int .u8 0, Value.int .u8 0, Value.int .u8 0, Value.int .u8 0, Value.int .u8 0, Value.int .u8 0, Value.int .u8 0, Value.int .u8 0, Value.int .u8 0, Value.int .u8 0, Value.int .u8 0, Value.int .u8 0, Value.int .u8 0, Value.int .u8 0, Value.int .u8 0, Value.int .u8 0] 28)).cell? ⟨0, i, none⟩ = some (U (Sha.X0 i)) := fun i hi => only_cell (only_alloc (only_refl _ _) _) (hB i hi)
  go_enter Tryd.func48, Tryd.ntmps48
  go_wp2_with fail
  refine (new_any _ hB').mono ?_
  rintro e w1 ⟨rfl, ho1, hb2, hz1⟩
  simp only [World.size_alloc] at ho1 hb2 hz1
  have hb3 : Blk w1 b 88 74 (hs x c n) := (hb.alloc _).grown ho1 (by simp)
  have hm : w1.cell? ⟨b, 73, none⟩ = some (.bool true) := hb3.cell (by omega)
  have hL := L1.start (x := x) (c := c) (n := n) ho1 hb2 hz1
  go_wp2_with (first
    | (refine wpList_load_blk rfl 88 (.tmp 20) rfl b 88 74 _ rfl hb3 _ Tryd.underlying88 rfl size88 ?_)
    | (refine wpList_store_blk rfl 88 (.tmp 22) (.tmp 21) rfl (w.heap.size + 1) 88 74 _ (hs x c n) _ rfl rfl rfl hb2 size88 (fun i _ => hs_one x c n i) ?_))
  generalize hwl : World.alloc _ _ = wl
  have hL' : L1 w (w.heap.size + 1) (w.heap.size + 1 + 1) w.heap.size x c n 0 wl := by rw [← hwl]; exact hL
  clear hwl hL ho1 hb2 hz1 hb3 hm hB'
  generalize hEE : w.heap.size + 1 = E at *
  generalize hLL : E + 1 = L at *
  clear hEE hLL
  generalize hRR : w.heap.size = R at *
  have HR := Lib.hid hRR
  clear hRR
  go_loopw [23] (fun i wr => ∃ k : Nat, k ≤ 8 ∧ i = .int .i64 k ∧ L1 w E L R x c n k wr) (fun i _ => 8 - (intOf i).toNat)
  case atStart => exact ⟨0, by omega, rfl, hL'⟩
  case round =>
    clear hL'
    obtain ⟨k, hk, rfl, hr⟩ := hrel
    by_cases hkt : k < 8
    · have hnn : wr.cell? ⟨E, 72, none⟩ = some (.int .i64 (n : Int)) := hr.end_.cell (by omega)
      have hc0 : wr.cell? ⟨L, 7 - k, none⟩ = some (By 0) := by rw [hr.len.cell (by omega), if_neg (by omega)]
      have hf0 : wr.frozen? ⟨L, 7 - k, none⟩ = false := hr.len.free _
      have k1 := v64_conv n (by omega)
      have k2 := v64_mul n (by omega)
      have k3 := v64_shr (n * 8) (8 * k) .i64 (8 * (k : Int)) (by omega) (by omega)
      have k4 := v64_byte (n * 8 / 2 ^ (8 * k))
      go_wp2
      go_roundw
      case rel => exact ⟨k + 1, by omega, by go_num, hr.step hkt⟩
      case measure => simp [intOf]; omega
    · obtain rfl : k = 8 := by omega
      have hnn : wr.cell? ⟨E, 72, none⟩ = some (.int .i64 (n : Int)) := hr.end_.cell (by omega)
      have hnz : ((55 : Int) - (n : Int) % 64 + 64) % 64 = ((55 - n % 64 : Nat) : Int) := by omega
      rw [show ((8 : Nat) : Int) = 8 from rfl]
      go_wp2_with fail
      rw [hnz]
      clear hnz
      have hE := hr.end_
      have hLn : Blk wr L 90 8 (fun j => By (lenb n j)) := hr.len.congr fun i hi => by rw [if_pos (by omega)]
      have hRs := hr.res
      have hon := hr.only
      obtain ⟨o1, o2, o3⟩ := hr.ord
      clear hr hnn
      have cv1 : ∀ (W : World) (g : Nat), W.cell? ⟨g, 0, none⟩ = some (.int .u8 128) → (convert 55 9 (.slice (some ⟨g, 0, none⟩) 1 1)).run Tryd.prog W = .ok (.string (str 1 fun _ => 128)) W :=
        fun W g h => run_str W Tryd.underlying55 Tryd.underlying5 Tryd.underlying9 g 0 1 1 (fun _ => 128) (fun i hi => by match i, hi with | 0, _ => exact h)
      have cvL : ∀ (W : World), Blk W L 90 8 (fun j => By (lenb n j)) → (convert 55 9 (.slice (some ⟨L, 0, none⟩) 8 8)).run Tryd.prog W = .ok (.string (str 8 (lenb n))) W :=
        fun W h => run_str W Tryd.underlying55 Tryd.underlying5 Tryd.underlying9 L 0 8 8 (lenb n) (fun i hi => by rw [Nat.zero_add, h.cell hi])
      have cvA := cvL _ (hLn.alloc (.cells #[.int .u8 128] 5)).drew
      have cvB := cvL _ hLn.drew
      have CV := Lib.hid cvL
      clear cvL
      have le1 : 1 + (55 - n % 64) ≤ 9223372036854775807 := by omega
      have le2 : 1 + (55 - n % 64) + 8 ≤ 9223372036854775807 := by omega
      have cutL : ∀ W : World, (Instr.sliceAt 90 (.pointer (some ⟨L, 0, none⟩)) none none none).run Tryd.prog W = .ok (.slice (some ⟨L, 0, none⟩) 8 8) W := run_cut_all 90 8 5 Tryd.underlying90 size5 L 0
      have hE0 : ∀ (W w2 : World), Below W.heap.size W w2 → Blk W E 88 74 (hs x c n) → Blk w2 E 88 74 (hs x c n) := fun W w2 h1 h2 => h2.below h1 h2.lt
      go_cut [] (fun w' => L2 w E R (wx x c n (pad n)) w')
      case first =>
        go_region_with (first
          | (go_at_call 56; refine (repeat_any _ (by omega) _).mono ?_; rintro e w2 ⟨rfl, hb2⟩;
             have hon2 : w.grownBy w2 none := only_next (by first | exact only_drew hon | exact only_drew (only_alloc hon _)) hb2;
             have hE2 : Blk w2 E 88 74 (hs x c n) := hE0 _ _ hb2 (by first | exact hE | exact hE.alloc _);
             have hR2 : Blk w2 R 28 32 (fun _ => By 0) := (show Blk _ R 28 32 (fun _ => By 0) from (by first | exact hRs | exact hRs.alloc _)).below hb2 (by first | exact hRs.lt | exact (hRs.alloc _).lt);
             have hL2 : Blk w2 L 90 8 (fun j => By (lenb n j)) := (show Blk _ L 90 8 (fun j => By (lenb n j)) from (by first | exact hLn | exact hLn.alloc _)).below hb2 (by first | exact hLn.lt | exact (hLn.alloc _).lt);
             try (have cvE := cv1 w2 _ (mark_cell hb2));
             have cvC := CV.out _ hL2;
             have cvD := CV.out _ (hL2.alloc (.cells #[.int .u8 128] 5)))
          | (go_at_call 45; refine (write_any E x c n (pad n) _ (by first | exact hE2 | exact hE2.alloc _) (by omega) (by first | exact fun i hi => only_cell hon2 (hK i hi) | exact fun i hi => only_cell (only_alloc hon2 _) (hK i hi)) (by rw [pad_size hn2]; omega) (by rw [pad_size hn2]; omega) (by omega)).mono ?_; rintro e w3 ⟨rfl, ho3, hb3⟩;
             have hL3 : L2 w E R (wx x c n (pad n)) w3 := L2.of (by first | exact hon2 | exact only_alloc hon2 _) ⟨o1, o2⟩ (by first | exact hR2 | exact hR2.alloc _) ho3 hb3))
        all_goals (go_wp2_with fail; go_meet; exact hL3)
      case rest =>
        clear cvA cvB cutL hE0 cv1 CV le1 le2 hE hLn hRs hon o1 o2 o3
        have hs3 := L3.start hcut _ zeros32b
        go_wp2_with fail
        generalize hwn : World.alloc _ _ = wn at hs3 ⊢
        clear hwn
        generalize wc.heap.size = N at hs3 ⊢
        generalize hyy : wx x c n (pad n) = y at hs3 ⊢
        go_loopw [58] (fun i wr => ∃ k : Nat, k ≤ 32 ∧ i = .int .i64 k ∧ L3 w E R N y k wr) (fun i _ => 32 - (intOf i).toNat)
        case atStart => exact ⟨0, by omega, rfl, hs3⟩
        case round =>
          clear hs3 hcut
          obtain ⟨k, hk, rfl, hr⟩ := hrel
          obtain ⟨c3, n3, he3⟩ := hr.end_
          by_cases hkt : k < 32
          · have hx : wr.cell? ⟨E, k / 4, none⟩ = some (U (y (k / 4))) := by rw [he3.cell (by omega)]; unfold hs; rw [if_pos (by omega)]
            have hc0 : wr.cell? ⟨N, k, none⟩ = some (By 0) := by rw [hr.new.cell (by omega), if_neg (by omega)]
            have hf0 : wr.frozen? ⟨N, k, none⟩ = false := hr.new.free _
            have hs0 := run_shr_U (P := Tryd.prog) wr 68 (y (k / 4)) .i64 (24 - 8 * (k % 4)) (by omega)
            rw [show ((24 - 8 * (k % 4) : Nat) : Int) = 24 - 8 * ((k : Int) % 4) by omega] at hs0
            go_wp2
            go_roundw
            case rel => exact ⟨k + 1, by omega, by go_num, hr.step⟩
            case measure => simp [intOf]; omega
          · obtain rfl : k = 32 := by omega
            have hne := hr.new.congr (g' := fun j => By (Sha.out y j)) fun i hi => by rw [if_pos hi]
            go_wp2_with (first
              | (refine wpList_load_blk rfl 28 (.tmp 7) rfl N 28 32 _ rfl hne _ Tryd.underlying28 rfl size28 ?_)
              | (refine wpList_store_blk rfl 28 (.tmp 2) (.tmp 77) rfl R 28 32 _ (fun j => By (Sha.out y j)) _ rfl rfl rfl hr.res size28 (fun i _ => rfl) ?_))
            have hR : w.heap.size ≤ R := hr.ord.1
            subst hyy
            exact bodyPost_ret (results_blk rfl _ _ R 28 32 _ rfl (hr.res.setRow_ _) _ Tryd.underlying28 rfl size28) rfl ⟨rfl, below_of_only (only_setRow hr.only (.inr hR) _)⟩
end Go.Proofs.YtlfcaagogeclpaaDoor
