/-
  The walk of (*hash.Hasher).block: the block's bytes go into the eight numbers, as Sha.comp says.
-/
import Derived.Test.YtlfcaagogeclpaaDoorB1
import Derived.Deep.QuietTactic
import Derived.BigQuiet
namespace Go.Proofs.YtlfcaagogeclpaaDoor
open Go.RowKit
set_option maxRecDepth 100000 in
set_option maxHeartbeats 400000 in
theorem block_any (b : Nat) (x : Nat → BitVec 32) (c : Nat → BitVec 8) (n : Nat) (w : World) (hb : Blk w b 88 74 (hs x c n)) (hK : ∀ i, i < 64 → w.cell? ⟨1, i, none⟩ = some (U (Sha.K i))) :
    Calls Tryd.prog 54 #[.pointer (some ⟨b, 0, none⟩)] w fun e w' => e = .returned (.tuple #[]) ∧ w.grownBy w' (some b) ∧ Blk w' b 88 74 (hs (Sha.comp Sha.K x c) c n) := by
  go_enter Tryd.func54, Tryd.ntmps54
  go_wp2
  generalize hw1 : w.alloc _ = w1
  have h1 : R1 w c 0 w1 := by
    subst hw1
    exact ⟨only_alloc (only_refl _ _) _, (Blk.new w 93 zeros64).congr fun i _ => by simp⟩
  clear hw1
  go_loopw [22] (fun i wr => ∃ k : Nat, k ≤ 16 ∧ i = .int .i64 k ∧ R1 w c k wr) (fun i _ => 16 - (intOf i).toNat)
  case atStart => exact ⟨0, by omega, rfl, h1⟩
  case round =>
    obtain ⟨k, hk, rfl, hr⟩ := hrel
    by_cases hlt : k < 16
    · have hcut := fun w => run_cut (P := Tryd.prog) 71 64 5 Tryd.underlying71 size5 b 8 (4 * k) (4 * k + 4) (4 * (k : Int)) (4 * (k : Int) + 4) (by omega) (by omega) (by omega) (by omega) (by omega) w
      have h2 := R2_start hr
      clear hr
      go_wp2
      obtain ⟨wo, rfl⟩ : ∃ wo : World, wo = wr := ⟨_, rfl⟩
      clear hcut
      go_loopw [35] (fun i wr => ∃ j : Nat, j ≤ 4 ∧ i = .int .i64 j ∧ R2 w c k j wr) (fun i _ => 4 - (intOf i).toNat)
      case atStart => exact ⟨0, by omega, rfl, h2⟩
      case round =>
        obtain ⟨j, hj, rfl, hr⟩ := hrel
        by_cases hjt : j < 4
        · have c1 := R2_buf hb hr.1 hlt hjt
          have c2 := R2_cell hr hlt
          have f2 : wr.frozen? ⟨w.heap.size, k, none⟩ = false := hr.2.free k
          go_wp2
          go_roundw
          case rel => exact ⟨j + 1, by omega, by go_num, R2_step hr⟩
          case measure => simp [intOf]; omega
        · obtain rfl : j = 4 := by omega
          have h3 := R2_end hr
          go_wp2
          go_roundw
          case rel => exact ⟨k + 1, by omega, by go_num, h3⟩
          case measure => simp [intOf]; omega
    · obtain rfl : k = 16 := by omega
      have h3 := R3_start hr
      clear hr h1 w1
      rw [show ((16 : Nat) : Int) = 16 from rfl]
      go_wp2
      obtain ⟨wo, rfl⟩ : ∃ wo : World, wo = wr := ⟨_, rfl⟩
      go_loopw [6] (fun i wr => ∃ k : Nat, 16 ≤ k ∧ k ≤ 64 ∧ i = .int .i64 k ∧ R3 w c k wr) (fun i _ => 64 - (intOf i).toNat)
      case atStart => exact ⟨16, by omega, by omega, rfl, h3⟩
      case round =>
        obtain ⟨k, hk16, hk, rfl, hr⟩ := hrel
        by_cases hkt : k < 64
        · have c15 := R3_cell hr (j := k - 15) (by omega)
          have c2 := R3_cell hr (j := k - 2) (by omega)
          have c16 := R3_cell hr (j := k - 16) (by omega)
          have c7 := R3_cell hr (j := k - 7) (by omega)
          have b1 : (0 : Int) ≤ (k : Int) - 15 := by omega
          have b2 : (k : Int) - 15 < 64 := by omega
          have b3 : (0 : Int) ≤ (k : Int) - 2 := by omega
          have b4 : (k : Int) - 2 < 64 := by omega
          go_wp2
          go_quiet (fail)
          obtain ⟨wq, hwq⟩ : ∃ wq : World, wq = wr.drewN nq := ⟨_, rfl⟩
          rw [← hwq]
          have hq : R3 w c k wq := by subst hwq; exact ⟨only_drewN hr.1 _, hr.2.drewN _⟩
          clear hwq hr c15 c2 b1 b2 b3 b4
          go_wp2_with (go_at_call 60; (first | (with_reducible refine (rot7 _ _).mono ?_) | (with_reducible refine (rot18 _ _).mono ?_) | (with_reducible refine (rot17 _ _).mono ?_) | (with_reducible refine (rot19 _ _).mono ?_)); rintro e w' ⟨rfl, rfl⟩)
          have c16 := R3_cell hq (j := k - 16) (by omega)
          have c7 := R3_cell hq (j := k - 7) (by omega)
          have f0 : wq.frozen? ⟨w.heap.size, k, none⟩ = false := hq.2.free k
          have cK : wq.cell? ⟨w.heap.size, k, none⟩ = some (U 0) := by rw [hq.2.cell (by omega), if_neg (by omega)]
          have b1 : (0 : Int) ≤ (k : Int) - 16 := by omega
          have b2 : (k : Int) - 16 < 64 := by omega
          have b3 : (0 : Int) ≤ (k : Int) - 7 := by omega
          have b4 : (k : Int) - 7 < 64 := by omega
          have b5 : (0 : Int) ≤ (k : Int) := by omega
          have b6 : (k : Int) < 64 := by omega
          go_region
          generalize hwn : World.drew _ = wn
          have hn : R3 w c (k + 1) wn := by rw [← hwn]; exact R3_step hq hk16
          clear hwn hq c16 c7 f0 cK b1 b2 b3 b4 b5 b6
          go_wp2
          go_roundw
          case rel => exact ⟨k + 1, by omega, by omega, by go_num, hn⟩
          case measure => simp [intOf]; omega
        · obtain rfl : k = 64 := by omega
          have hx0 := R3_x hb hr (i := 0) (by omega)
          have hx1 := R3_x hb hr (i := 1) (by omega)
          have hx2 := R3_x hb hr (i := 2) (by omega)
          have hx3 := R3_x hb hr (i := 3) (by omega)
          have hx4 := R3_x hb hr (i := 4) (by omega)
          have hx5 := R3_x hb hr (i := 5) (by omega)
          have hx6 := R3_x hb hr (i := 6) (by omega)
          have hx7 := R3_x hb hr (i := 7) (by omega)
          have hR4 : R4 w c x 0 wr.heap.size (wr.alloc (.cells #[U (x 0), U (x 1), U (x 2), U (x 3), U (x 4), U (x 5), U (x 6), U (x 7)] 84)) := R4_start hr
          rw [show ((64 : Nat) : Int) = 64 from rfl]
          go_wp2
          clear hx0 hx1 hx2 hx3 hx4 hx5 hx6 hx7
          generalize hwy : wr.alloc _ = wy
          rw [hwy] at hR4
          generalize wr.heap.size = Y at *
          clear hwy hr
          go_loopw [97] (fun i wr => ∃ k : Nat, k ≤ 64 ∧ i = .int .i64 k ∧ R4 w c x k Y wr) (fun i _ => 64 - (intOf i).toNat)
          case atStart => exact ⟨0, by omega, rfl, hR4⟩
          case round =>
            obtain ⟨k, hk, rfl, hr⟩ := hrel
            by_cases hkt : k < 64
            · have hy0 := R4_y hr (i := 0) (by omega)
              have hy1 := R4_y hr (i := 1) (by omega)
              have hy2 := R4_y hr (i := 2) (by omega)
              have hy3 := R4_y hr (i := 3) (by omega)
              have hy4 := R4_y hr (i := 4) (by omega)
              have hy5 := R4_y hr (i := 5) (by omega)
              have hy6 := R4_y hr (i := 6) (by omega)
              have hy7 := R4_y hr (i := 7) (by omega)
              have hwk := R4_w hr hkt
              have hkk := only_cell hr.1 (hK k hkt)
              have b1 : (0 : Int) ≤ (k : Int) := by omega
              have b2 : (k : Int) < 64 := by omega
              obtain ⟨y, hy⟩ : ∃ y : Nat → BitVec 32, y = Sha.rounds Sha.K (Sha.be c) x k := ⟨_, rfl⟩
              rw [← hy] at hy0 hy1 hy2 hy3 hy4 hy5 hy6 hy7
              obtain ⟨wk, hwke⟩ : ∃ v, v = Sha.wd (Sha.be c) k := ⟨_, rfl⟩
              rw [← hwke] at hwk
              have HY := Lib.hid hy
              have HW := Lib.hid hwke
              clear hy hwke
              go_wp2
              go_quiet (fail)
              go_wp2_with (go_at_call 60; (first | (with_reducible refine (rot6 _ _).mono ?_) | (with_reducible refine (rot11 _ _).mono ?_) | (with_reducible refine (rot25 _ _).mono ?_) | (with_reducible refine (rot2 _ _).mono ?_) | (with_reducible refine (rot13 _ _).mono ?_) | (with_reducible refine (rot22 _ _).mono ?_)); rintro e w' ⟨rfl, rfl⟩)
              go_quiet (fail)
              have hblk : ∀ m, Blk (wr.drewN m) Y 84 8 (fun i => U (Sha.rounds Sha.K (Sha.be c) x k i)) := fun m => hr.2.2.2.drewN m
              go_wp2_with (refine wpList_store_blk rfl 84 (.tmp 11) (.tmp 175) rfl Y 84 8 _ (fun i => U (Sha.rnd y (Sha.K k) wk i)) _ rfl rfl (eight fun i => U (Sha.rnd y (Sha.K k) wk i)) (hblk _) size84 (fun i _ => rfl) ?_)
              have hn := R4_step hr (HY.out) (HW.out)
              clear hblk hr hy0 hy1 hy2 hy3 hy4 hy5 hy6 hy7 hwk hkk b1 b2 HY HW
              go_roundw
              case rel => exact ⟨k + 1, by omega, by go_num, hn _⟩
              case measure => simp [intOf]; omega
            · obtain rfl : k = 64 := by omega
              rw [show ((64 : Nat) : Int) = 64 from rfl]
              go_wp2_with (refine wpList_load_blk rfl 84 (.tmp 11) rfl Y 84 8 _ rfl hr.2.2.2 _ Tryd.underlying84 rfl size84 ?_)
              have hR5 := R5_start hb hr
              clear hR4 hr
              obtain ⟨y, hy⟩ : ∃ y : Nat → BitVec 32, y = Sha.rounds Sha.K (Sha.be c) x 64 := ⟨_, rfl⟩
              rw [← hy]
              rw [← hy] at hR5
              have HY := Lib.hid hy
              clear hy
              obtain ⟨wo, rfl⟩ : ∃ wo : World, wo = wr := ⟨_, rfl⟩
              go_loopw [178] (fun i wr => ∃ k : Nat, k ≤ 8 ∧ i = .int .i64 k ∧ R5 w b c x y n k wr) (fun i _ => 8 - (intOf i).toNat)
              case atStart => exact ⟨0, by omega, rfl, hR5⟩
              case round =>
                obtain ⟨k, hk, rfl, hr⟩ := hrel
                by_cases hkt : k < 8
                · have hix : ∀ w, (Instr.index 84 (.agg (Row 8 (fun i => U (y i)))) (.int .i64 (k : Int))).run Tryd.prog w = .ok (U (y k)) w := run_index_row 84 8 68 Tryd.underlying84 size68 _ Tryd.underlying68 rfl (fun i => U (y i)) k hkt
                  have hxk : wr.cell? ⟨b, k, none⟩ = some (U (x k)) := R5_x hr hkt
                  have hfk : wr.frozen? ⟨b, k, none⟩ = false := hr.2.free k
                  have b1 : (0 : Int) ≤ (k : Int) := by omega
                  have b2 : (k : Int) < 8 := by omega
                  go_wp2
                  go_region
                  have hn := R5_drew (R5_step hr hkt)
                  go_wp2
                  go_roundw
                  case rel => exact ⟨k + 1, by omega, by go_num, hn⟩
                  case measure => simp [intOf]; omega
                · obtain rfl : k = 8 := by omega
                  have hfin := R5_end hr HY.out
                  have hon := hr.1
                  clear hr HY
                  go_wp2
                  go_end0
                  exact ⟨rfl, hon, hfin⟩
end Go.Proofs.YtlfcaagogeclpaaDoor
