/-
  The walk of twinspanref02.Tables.Sum, where the message takes two blocks.
-/
import Derived.Test.YtlfcaagogeclpaaDoorH2
import Derived.Deep.RegionWith
import Derived.Deep.DeepCutAuto
namespace Go.Proofs.YtlfcaagogeclpaaDoor
open Go.RowKit
set_option maxRecDepth 100000 in
set_option maxHeartbeats 4000000 in
theorem refsum_any (b0 kb : Nat) (n z : Nat) (s : ByteArray) (hs : s.size = n) (hn : 64 < n) (hz : n + 1 + z = 120) (w : World) (hbeg : ∀ i, i < 8 → w.cell? ⟨b0, i, none⟩ = some (U (Sha.X0 i))) (hfac : ∀ i, i < 64 → w.cell? ⟨kb, i, none⟩ = some (U (Sha.K i))) :
    Calls Tryd.prog 41 #[.agg #[.slice (some ⟨b0, 0, none⟩) 8 8, .slice (some ⟨kb, 0, none⟩) 64 64], .string s] w fun e w' => e = .returned (.agg (Row 32 fun i => By (Sha.out (Sha.comp Sha.K (Sha.comp Sha.K Sha.X0 (msg n (sb s) z)) (fun i => msg n (sb s) z (64 + i))) i))) ∧ Below w.heap.size w w' := by
  have h0 : SI w b0 kb _ := SI.start (rfl : #[.slice (some ⟨b0, 0, none⟩) 8 8, .slice (some ⟨kb, 0, none⟩) 64 64] = Row 2 (tabs b0 kb)) zeros32b
  obtain ⟨v0, w0, hcv, hv0, hw0⟩ := BS.bytes (w.heap.size + 2) _ s h0.size (by omega)
  have hi0 := h0.next hw0
  rw [hs] at hv0
  obtain ⟨v1, w1, happ, hv1, hw1⟩ := (hv0.next (only_alloc (only_refl _ _) (.cells #[.int .u8 128] 5))).append 55 (by have := hi0.size; simp; omega) w0.heap.size 128 (byte_cell w0 _ 128 rfl) (by omega)
  have hi1 := (hi0.only (only_alloc (only_refl _ _) (.cells #[.int .u8 128] 5))).next hw1
  have hv1' := hv1.congr (d := msg n (sb s) 0) (msg_mark n s hs)
  clear hv0 hv1 hw0 hw1 h0 hi0
  go_enter Tryd.func41, Tryd.ntmps41
  go_wp2_with (first | (at_builtin; refine Lib.wpList_append_run _ rfl (.tmp 15) (.tmp 16) 55 55 rfl _ _ rfl rfl _ _ happ ?_))
  clear hcv happ
  go_loopw [5] (fun v wr => ∃ k : Nat, k ≤ z ∧ BS (w.heap.size + 2) wr v (n + 1 + k) (msg n (sb s) k) ∧ SI w b0 kb wr) (fun v _ => 120 - lenS v)
  case atStart => exact ⟨0, by omega, hv1', hi1⟩
  case round =>
    clear hv1' hi1
    obtain ⟨k, hk, hv, hi⟩ := hrel
    obtain ⟨g, cap, rfl, hcap, hg, hgl, hcells⟩ := hv.some (by omega)
    by_cases hkt : k < z
    · have hne : ((((n + 1 + k : Nat) : Int) % 64) != 56) = true := by rw [bne_iff_ne]; omega
      obtain ⟨v2, w2, happ, hv2, hw2⟩ := (hv.next (only_alloc (only_refl _ _) (.cells #[.int .u8 0] 5))).append 55 (by have := hi.size; simp; omega) wr.heap.size 0 (byte_cell wr _ 0 rfl) (by omega)
      have hi2 := (hi.only (only_alloc (only_refl _ _) (.cells #[.int .u8 0] 5))).next hw2
      have hv2' := hv2.congr (d := msg n (sb s) (k + 1)) (fun i hi => msg_zero n _ k i hi)
      go_wp2_with (first | (at_builtin; refine Lib.wpList_append_run _ rfl (.tmp 22) (.tmp 23) 55 55 rfl _ _ rfl rfl _ _ happ ?_))
      go_roundw
      case rel => exact ⟨k + 1, by omega, hv2', hi2⟩
      case measure =>
        obtain ⟨g', cap', rfl, _⟩ := hv2'.some (by omega)
        simp [lenS]; omega
    · obtain rfl : k = z := by omega
      have hne : ((((n + 1 + k : Nat) : Int) % 64) != 56) = false := by rw [bne_eq_false_iff_eq]; omega
      have k1 := v64_conv n (by omega)
      have k2 := v64_mul n (by omega)
      go_wp2_with fail
      clear k1 k2 hne hkt
      have HZ := Lib.hid hz
      clear hz
      go_loopw [5, 7] (fun v i wr => ∃ j : Nat, j ≤ 8 ∧ i = .int .i64 (7 - (j : Int)) ∧ BS (w.heap.size + 2) wr v (n + 1 + k + j) (msg n (sb s) k) ∧ SI w b0 kb wr) (fun _ i _ => (1 + intOf i).toNat)
      case atStart => exact ⟨0, by omega, rfl, hv, hi⟩
      case round =>
        clear hv hi hcells hg hgl hcap
        obtain ⟨j, hj, rfl, hv, hi⟩ := hrel
        by_cases hjt : j < 8
        · have k3 := v64_shr (n * 8) (8 * (7 - j)) .u64 (8 * (7 - (j : Int))) (by omega) (by omega)
          have k4 := v64_byte (n * 8 / 2 ^ (8 * (7 - j)))
          obtain ⟨v2, w2, happ, hv2, hw2⟩ := (hv.next (only_alloc (only_refl _ _) (.cells #[By (BitVec.ofNat 8 (n * 8 / 2 ^ (8 * (7 - j))))] 5))).append 55 (by have := hi.size; simp; omega) wr.heap.size _ (byte_cell wr _ _ rfl) (by have := HZ.out; omega)
          have hi2 := (hi.only (only_alloc (only_refl _ _) (.cells #[By (BitVec.ofNat 8 (n * 8 / 2 ^ (8 * (7 - j))))] 5))).next hw2
          have hv2' := hv2.congr (d := msg n (sb s) k) (fun i hi => msg_len n _ k j i hi)
          have hge : (0 : Int) ≤ 7 - (j : Int) := by omega
          go_wp2_with (first | (at_builtin; refine Lib.wpList_append_run _ rfl (.tmp 33) (.tmp 40) 55 55 rfl _ _ rfl rfl _ _ happ ?_))
          go_roundw
          case rel => exact ⟨j + 1, by omega, by go_num, hv2', hi2⟩
          case measure => simp [intOf]; omega
        · obtain rfl : j = 8 := by omega
          obtain ⟨g2, cap2, hv5, hcap2, hg2, hgl2, hcells2⟩ := hv.some (by omega)
          have e128 : n + 1 + k + 8 = 128 := by have := HZ.out; omega
          rw [e128] at hv5 hcap2 hcells2
          subst hv5
          have hs3 := S3.start hi zeros8 hcells2 hg2 hgl2
          go_wp2_with fail
          generalize hwx : World.alloc wr _ = wx at hs3 ⊢
          clear hwx hv hi
          generalize wr.heap.size = X at hs3 hgl2 ⊢
          go_loopw [9] (fun i wr => ∃ k9 : Nat, k9 ≤ 8 ∧ i = .int .i64 k9 ∧ S3 w b0 kb X g2 (msg n (sb s) k) (part k9) wr) (fun i _ => 8 - (intOf i).toNat)
          case atStart => exact ⟨0, by omega, rfl, hs3⟩
          case round =>
            clear hs3
            obtain ⟨q, hq, rfl, hr⟩ := hrel
            by_cases hqt : q < 8
            · have t0 : wr.cell? ⟨w.heap.size, 0, none⟩ = some (.slice (some ⟨b0, 0, none⟩) 8 8) := hr.si.tab.cell (by omega)
              have x0 : wr.cell? ⟨b0, q, none⟩ = some (U (Sha.X0 q)) := only_cell (only_of_below hr.si.below none) (hbeg q hqt)
              have c0 : wr.cell? ⟨X, q, none⟩ = some (U (part q q)) := hr.blk.cell (by omega)
              have f0 : wr.frozen? ⟨X, q, none⟩ = false := hr.blk.free _
              go_wp2
              go_roundw
              case rel => exact ⟨q + 1, by omega, by go_num, hr.step⟩
              case measure => simp [intOf]; omega
            · obtain rfl : q = 8 := by omega
              have h4 := hr.congr part8
              clear hr
              go_wp2_with fail
              refine wp_loop_rounds 3 ?_
              rw [rounds_succ]
              go_wp2_with fail
              obtain ⟨m, hm⟩ : ∃ m, m = msg n (sb s) k := ⟨_, rfl⟩
              obtain ⟨x1, hx1⟩ : ∃ x, x = Sha.comp Sha.K Sha.X0 m := ⟨_, rfl⟩
              obtain ⟨x2, hx2⟩ : ∃ x, x = Sha.comp Sha.K x1 (fun i => m (64 + i)) := ⟨_, rfl⟩
              rw [← hm] at h4
              obtain ⟨t0, t1, y0, y1, y2, y3, y4, y5, y6, y7, z0, z1, z2, z3, z4, z5, z6, z7⟩ := h4.facts
              clear z0 z1 z2 z3 z4 z5 z6 z7
              have sl0 := cut_b g2 cap2 0 0 64 rfl rfl (by omega)
              have sl1 := cut_b g2 cap2 64 64 128 rfl rfl (by omega)
              have wr64 : IntKind.i64.wrap 64 = 64 := by decide
              have wr128 : IntKind.i64.wrap 128 = 128 := by decide
              have b1 : (64 : Int) ≤ (cap2 : Int) := by omega
              have b2 : (128 : Int) ≤ (cap2 : Int) := by omega
              have b3 : ¬ cap2 = 0 := by omega
              have b4 : ¬ cap2 = 64 := by omega
              have HF := Lib.hid hfac
              have HBG := Lib.hid hbeg
              have H4 := Lib.hid h4
              clear hfac hbeg h4 hcells2
              have blk1 : ∀ cp, Calls Tryd.prog 52 #[.agg #[.slice (some ⟨b0, 0, none⟩) 8 8, .slice (some ⟨kb, 0, none⟩) 64 64], .agg #[U (Sha.X0 0), U (Sha.X0 1), U (Sha.X0 2), U (Sha.X0 3), U (Sha.X0 4), U (Sha.X0 5), U (Sha.X0 6), U (Sha.X0 7)], .slice (some ⟨g2, 0, none⟩) 64 cp] wr.drew fun e w' => e = .returned (.agg #[U (x1 0), U (x1 1), U (x1 2), U (x1 3), U (x1 4), U (x1 5), U (x1 6), U (x1 7)]) ∧ Below wr.drew.heap.size wr.drew w' := fun cp =>
                refblock_ex b0 kb Sha.X0 x1 m hx1 g2 0 cp wr.drew (fun i hi => only_cell (only_drew (only_of_below H4.out.si.below none)) (HF.out i hi)) (fun i hi => by rw [Nat.zero_add]; exact H4.out.cells i (by omega))
              have BLK2 := Lib.hid (show ∀ W : World, S3 w b0 kb X g2 m x1 W → ∀ cp, Calls Tryd.prog 52 #[.agg #[.slice (some ⟨b0, 0, none⟩) 8 8, .slice (some ⟨kb, 0, none⟩) 64 64], .agg #[U (x1 0), U (x1 1), U (x1 2), U (x1 3), U (x1 4), U (x1 5), U (x1 6), U (x1 7)], .slice (some ⟨g2, 64, none⟩) 64 cp] W.drew fun e w' => e = .returned (.agg #[U (x2 0), U (x2 1), U (x2 2), U (x2 3), U (x2 4), U (x2 5), U (x2 6), U (x2 7)]) ∧ Below W.drew.heap.size W.drew w' from fun W hW cp =>
                refblock_ex b0 kb x1 x2 (fun i => m (64 + i)) hx2 g2 64 cp W.drew (fun i hi => only_cell (only_drew (only_of_below hW.si.below none)) (HF.out i hi)) (fun i hi => hW.cells (64 + i) (by omega)))
              have HX := Lib.hid (And.intro hm (And.intro hx1 hx2))
              clear hm hx1 hx2
              go_region_with (first
                | (go_at_call 52; refine (blk1 _).mono ?_; rintro e w2 ⟨rfl, hb2⟩;
                   have h5 := H4.out.next (only_next (only_drew (only_refl wr none)) hb2); obtain ⟨q0, q1, a0, a1, a2, a3, a4, a5, a6, a7, f0, f1, f2, f3, f4, f5, f6, f7⟩ := h5.facts; have h6 := h5.put8 (y := x1)))
              all_goals
                clear t0 t1 y0 y1 y2 y3 y4 y5 y6 y7 blk1 H4 h5 q0 q1 a0 a1 a2 a3 a4 a5 a6 a7 f0 f1 f2 f3 f4 f5 f6 f7 hb2
                generalize World.setCell _ _ _ = w4 at h6 ⊢
                go_wp2_with fail
                rw [rounds_succ]
                go_wp2_with fail
                obtain ⟨t0, t1, y0, y1, y2, y3, y4, y5, y6, y7, z0, z1, z2, z3, z4, z5, z6, z7⟩ := h6.facts
                have blk2 := BLK2.out w4 h6
                clear z0 z1 z2 z3 z4 z5 z6 z7
                have H6 := Lib.hid h6
                clear h6
                go_region_with (first
                  | (go_at_call 52; refine (blk2 _).mono ?_; rintro e w2 ⟨rfl, hb2⟩;
                     have h5 := H6.out.next (only_next (only_drew (only_refl w4 none)) hb2); obtain ⟨q0, q1, a0, a1, a2, a3, a4, a5, a6, a7, f0, f1, f2, f3, f4, f5, f6, f7⟩ := h5.facts; have h6 := h5.put8 (y := x2)))
                all_goals
                  clear t0 t1 y0 y1 y2 y3 y4 y5 y6 y7 blk2 H6 h5 q0 q1 a0 a1 a2 a3 a4 a5 a6 a7 f0 f1 f2 f3 f4 f5 f6 f7 hb2
                  generalize World.setCell _ _ _ = w5 at h6 ⊢
                  go_wp2_with fail
                  rw [rounds_succ]
                  go_wp2_with fail
                  have hs5 := S5.start h6 zeros32b
                  clear h6
                  generalize World.alloc w5 _ = w6 at hs5 ⊢
                  generalize w5.heap.size = O at hs5 ⊢
                  go_loopw [12] (fun i wr => ∃ k5 : Nat, k5 ≤ 32 ∧ i = .int .i64 k5 ∧ S5 w b0 kb X O x2 k5 wr) (fun i _ => 32 - (intOf i).toNat)
                  case atStart => exact ⟨0, by omega, rfl, hs5⟩
                  case round =>
                    clear hs5
                    obtain ⟨r, hr0, rfl, hr⟩ := hrel
                    by_cases hrt : r < 32
                    · have hx : wr.cell? ⟨X, r / 4, none⟩ = some (U (x2 (r / 4))) := hr.blk.cell (by omega)
                      have hc0 : wr.cell? ⟨O, r, none⟩ = some (By 0) := by rw [hr.out.cell (by omega), if_neg (by omega)]
                      have hf0 : wr.frozen? ⟨O, r, none⟩ = false := hr.out.free _
                      have hs0 := run_shr_U (P := Tryd.prog) wr 68 (x2 (r / 4)) .u64 (24 - 8 * (r % 4)) (by omega)
                      rw [show ((24 - 8 * (r % 4) : Nat) : Int) = 24 - 8 * ((r : Int) % 4) by omega] at hs0
                      go_wp2
                      go_roundw
                      case rel => exact ⟨r + 1, by omega, by go_num, hr.step⟩
                      case measure => simp [intOf]; omega
                    · obtain rfl : r = 32 := by omega
                      have hne := hr.out.congr (g' := fun j => By (Sha.out x2 j)) fun i hi => by rw [if_pos hi]
                      have hres := hr.si.res
                      go_wp2_with (first
                        | (refine wpList_load_blk rfl 28 (.tmp 11) rfl O 28 32 _ rfl hne _ Tryd.underlying28 rfl size28 ?_)
                        | (refine wpList_store_blk rfl 28 (.tmp 4) (.tmp 84) rfl (w.heap.size + 1) 28 32 _ (fun j => By (Sha.out x2 j)) _ rfl rfl rfl hres size28 (fun i _ => rfl) ?_))
                      obtain ⟨hm, hx1, hx2⟩ := HX.out
                      subst hx2
                      subst hx1
                      subst hm
                      exact bodyPost_ret (results_blk rfl _ _ (w.heap.size + 1) 28 32 _ rfl (hres.setRow_ _) _ Tryd.underlying28 rfl size28) rfl ⟨rfl, below_of_only (only_setRow (only_of_below hr.si.below none) (.inr (Nat.le_succ _)) _)⟩
end Go.Proofs.YtlfcaagogeclpaaDoor
