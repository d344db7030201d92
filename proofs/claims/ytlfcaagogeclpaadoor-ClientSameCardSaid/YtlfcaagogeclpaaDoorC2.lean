/-
  The walk of (twinspanref02.Tables).block: the same numbers, Sha.comp.
-/
import Derived.Test.YtlfcaagogeclpaaDoorC1
import Derived.BigQuiet
namespace Go.Proofs.YtlfcaagogeclpaaDoor
open Go.RowKit
theorem C1_new (w : World) (v0 v1 : Value) (x : Nat → BitVec 32) (c : Nat → BitVec 8) :
    C1 w w.heap.size (w.heap.size + 1) (w.heap.size + 1 + 1) (w.heap.size + 1 + 1 + 1) v0 v1 x c 0 ((((w.alloc (.cells #[v0, v1] 67)).alloc (.cells (Row 8 fun i => U (x i)) 84)).alloc (.cells #[Value.int .u32 0, Value.int .u32 0, Value.int .u32 0, Value.int .u32 0, Value.int .u32 0, Value.int .u32 0, Value.int .u32 0, Value.int .u32 0] 84)).alloc (.cells #[Value.int .u32 0, Value.int .u32 0, Value.int .u32 0, Value.int .u32 0, Value.int .u32 0, Value.int .u32 0, Value.int .u32 0, Value.int .u32 0, Value.int .u32 0, Value.int .u32 0, Value.int .u32 0, Value.int .u32 0, Value.int .u32 0, Value.int .u32 0, Value.int .u32 0, Value.int .u32 0, Value.int .u32 0, Value.int .u32 0, Value.int .u32 0, Value.int .u32 0, Value.int .u32 0, Value.int .u32 0, Value.int .u32 0, Value.int .u32 0, Value.int .u32 0, Value.int .u32 0, Value.int .u32 0, Value.int .u32 0, Value.int .u32 0, Value.int .u32 0, Value.int .u32 0, Value.int .u32 0, Value.int .u32 0, Value.int .u32 0, Value.int .u32 0, Value.int .u32 0, Value.int .u32 0, Value.int .u32 0, Value.int .u32 0, Value.int .u32 0, Value.int .u32 0, Value.int .u32 0, Value.int .u32 0, Value.int .u32 0, Value.int .u32 0, Value.int .u32 0, Value.int .u32 0, Value.int .u32 0, Value.int .u32 0, Value.int .u32 0, Value.int .u32 0, Value.int .u32 0, Value.int .u32 0, Value.int .u32 0, Value.int .u32 0, Value.int .u32 0, Value.int .u32 0, Value.int .u32 0, Value.int .u32 0, Value.int .u32 0, Value.int .u32 0, Value.int .u32 0, Value.int .u32 0, Value.int .u32 0] 93)) := by
  have e1 : (w.alloc (.cells #[v0, v1] 67)).heap.size = w.heap.size + 1 := by simp
  have e2 : ((w.alloc (.cells #[v0, v1] 67)).alloc (.cells (Row 8 fun i => U (x i)) 84)).heap.size = w.heap.size + 1 + 1 := by simp
  have e3 : (((w.alloc (.cells #[v0, v1] 67)).alloc (.cells (Row 8 fun i => U (x i)) 84)).alloc (.cells #[Value.int .u32 0, Value.int .u32 0, Value.int .u32 0, Value.int .u32 0, Value.int .u32 0, Value.int .u32 0, Value.int .u32 0, Value.int .u32 0] 84)).heap.size = w.heap.size + 1 + 1 + 1 := by simp
  refine ⟨⟨only_alloc (only_alloc (only_alloc (only_alloc (only_refl _ _) _) _) _) _, ⟨by omega, by omega, by omega, by omega⟩, ?_, ?_, ?_⟩, ?_⟩
  · exact (((Blk.new w 67 (Row_of rfl fun i hi => by match i, hi with | 0, _ => rfl | 1, _ => rfl)).alloc _).alloc _).alloc _
  · have := Blk.new (w.alloc (.cells #[v0, v1] 67)) 84 (a := Row 8 fun i => U (x i)) rfl
    rw [e1] at this
    exact (this.alloc _).alloc _
  · have := Blk.new ((w.alloc (.cells #[v0, v1] 67)).alloc (.cells (Row 8 fun i => U (x i)) 84)) 84 zeros8
    rw [e2] at this
    exact this.alloc _
  · have := Blk.new (((w.alloc (.cells #[v0, v1] 67)).alloc (.cells (Row 8 fun i => U (x i)) 84)).alloc (.cells #[Value.int .u32 0, Value.int .u32 0, Value.int .u32 0, Value.int .u32 0, Value.int .u32 0, Value.int .u32 0, Value.int .u32 0, Value.int .u32 0] 84)) 93 zeros64
    rw [e3] at this
    exact this.congr fun i _ => by simp
set_option maxRecDepth 100000 in
set_option maxHeartbeats 1000000 in
theorem refblock_any (v0 : Value) (kb : Nat) (x : Nat → BitVec 32) (c : Nat → BitVec 8) (bb o cap : Nat) (w : World)
    (hK : ∀ i, i < 64 → w.cell? ⟨kb, i, none⟩ = some (U (Sha.K i))) (hc : ∀ i, i < 64 → w.cell? ⟨bb, o + i, none⟩ = some (By (c i))) (h0 : (∃ a l k, v0 = .slice a l k)) :
    Calls Tryd.prog 52 #[.agg #[v0, .slice (some ⟨kb, 0, none⟩) 64 64], .agg (Row 8 fun i => U (x i)), .slice (some ⟨bb, o, none⟩) 64 cap] w fun e w' => e = .returned (.agg (Row 8 fun i => U (Sha.comp Sha.K x c i))) ∧ Below w.heap.size w w' := by
  obtain ⟨a0, l0, k0, rfl⟩ := h0
  go_enter Tryd.func52, Tryd.ntmps52
  go_wp2
  generalize hw1 : World.alloc _ _ = w1
  obtain ⟨v1, hv1⟩ : ∃ v1, v1 = Value.slice (some ⟨kb, 0, none⟩) 64 64 := ⟨_, rfl⟩
  have h1 : C1 w w.heap.size (w.heap.size + 1) (w.heap.size + 1 + 1) (w.heap.size + 1 + 1 + 1) (.slice a0 l0 k0) v1 x c 0 w1 := by
    subst hw1 hv1
    exact C1_new _ _ _ _ _
  clear hw1
  subst hv1
  generalize w.heap.size + 1 + 1 + 1 = N at *
  generalize w.heap.size + 1 + 1 = R at *
  generalize w.heap.size + 1 = X at *
  generalize hB : w.heap.size = B at *
  have HB := Lib.hid hB
  clear hB
  go_loopw [8] (fun i wr => ∃ k : Nat, k ≤ 64 ∧ i = .int .i64 k ∧ C1 w B X R N (.slice a0 l0 k0) (.slice (some ⟨kb, 0, none⟩) 64 64) x c k wr) (fun i _ => 64 - (intOf i).toNat)
  case atStart => exact ⟨0, by omega, rfl, h1⟩
  case round =>
    obtain ⟨k, hk, rfl, hr⟩ := hrel
    by_cases hlt : k < 64
    · rcases Nat.lt_or_ge k 16 with h16 | h16
      · have c0 : wr.cell? ⟨bb, o + 4 * k, none⟩ = some (By (c (4 * k))) := only_cell hr.base.only (hc _ (by omega))
        have c1 : wr.cell? ⟨bb, o + (4 * k + 1), none⟩ = some (By (c (4 * k + 1))) := only_cell hr.base.only (hc _ (by omega))
        have c2 : wr.cell? ⟨bb, o + (4 * k + 2), none⟩ = some (By (c (4 * k + 2))) := only_cell hr.base.only (hc _ (by omega))
        have c3 : wr.cell? ⟨bb, o + (4 * k + 3), none⟩ = some (By (c (4 * k + 3))) := only_cell hr.base.only (hc _ (by omega))
        have ck := hr.cellk hlt
        have fk : wr.frozen? ⟨N, k, none⟩ = false := hr.wds.free k
        have b1 : (0 : Int) ≤ (k : Int) := by omega
        have b2 : (k : Int) < 64 := by omega
        have b3 : (0 : Int) ≤ 4 * (k : Int) := by omega
        have b4 : 4 * (k : Int) < 64 := by omega
        have b5 : (0 : Int) ≤ 4 * (k : Int) + 1 := by omega
        have b6 : 4 * (k : Int) + 1 < 64 := by omega
        have b7 : (0 : Int) ≤ 4 * (k : Int) + 2 := by omega
        have b8 : 4 * (k : Int) + 2 < 64 := by omega
        have b9 : (0 : Int) ≤ 4 * (k : Int) + 3 := by omega
        have b10 : 4 * (k : Int) + 3 < 64 := by omega
        go_wp2
        go_region
        have hn := (hr.put (z := (c (4 * k)).setWidth 32 <<< 24 ||| (c (4 * k + 1)).setWidth 32 <<< 16 ||| (c (4 * k + 2)).setWidth 32 <<< 8 ||| (c (4 * k + 3)).setWidth 32) (by rw [be_eq, Sha.wd_lt _ h16])).drew
        clear c0 c1 c2 c3 ck fk b1 b2 b3 b4 b5 b6 b7 b8 b9 b10 hr
        generalize World.drew _ = wn at *
        go_wp2
        go_roundw
        case rel => exact ⟨k + 1, by omega, by go_num, hn⟩
        case measure => simp [intOf]; omega
      · have c15 := hr.cell (j := k - 15) (by omega)
        have c2 := hr.cell (j := k - 2) (by omega)
        have b1 : (0 : Int) ≤ (k : Int) - 15 := by omega
        have b2 : (k : Int) - 15 < 64 := by omega
        have b3 : (0 : Int) ≤ (k : Int) - 2 := by omega
        have b4 : (k : Int) - 2 < 64 := by omega
        have b5 : (15 : Int) ≤ (k : Int) := by omega
        have b6 : (2 : Int) ≤ (k : Int) := by omega
        go_wp2
        have w15 : IntKind.i64.wrap ((k : Int) - 15) = (k : Int) - 15 := IntWalk.i64_in _ (by omega)
        have w2 : IntKind.i64.wrap ((k : Int) - 2) = (k : Int) - 2 := IntWalk.i64_in _ (by omega)
        have n15 : ((k : Int) - 15).toNat = k - 15 := by omega
        have n2 : ((k : Int) - 2).toNat = k - 2 := by omega
        go_quiet ((go_at_call 59; exact quiet_left (turned_z _ (by omega) (by omega) _ _)))
        generalize hwq : wr.drewN nq = wq
        have hq : C1 w B X R N (.slice a0 l0 k0) (.slice (some ⟨kb, 0, none⟩) 64 64) x c k wq := by rw [← hwq]; exact hr.drewN _
        clear hwq hr c15 c2 w15 n15
        have c2 := hq.cell (j := k - 2) (by omega)
        go_wp2_with fail
        go_quiet ((go_at_call 59; exact quiet_left (turned_z _ (by omega) (by omega) _ _)))
        generalize hwp : wq.drewN nq = wp
        have hr : C1 w B X R N (.slice a0 l0 k0) (.slice (some ⟨kb, 0, none⟩) 64 64) x c k wp := by rw [← hwp]; exact hq.drewN _
        clear hwp hq c2 w2 n2 b1 b2 b3 b4 b5 b6
        have c16 := hr.cell (j := k - 16) (by omega)
        have c7 := hr.cell (j := k - 7) (by omega)
        have ck := hr.cellk hlt
        have fk : wp.frozen? ⟨N, k, none⟩ = false := hr.wds.free k
        have b1 : (0 : Int) ≤ (k : Int) - 16 := by omega
        have b2 : (k : Int) - 16 < 64 := by omega
        have b3 : (0 : Int) ≤ (k : Int) - 7 := by omega
        have b4 : (k : Int) - 7 < 64 := by omega
        have b5 : (0 : Int) ≤ (k : Int) := by omega
        have b6 : (k : Int) < 64 := by omega
        have b7 : (7 : Int) ≤ (k : Int) := by omega
        go_wp2_with fail
        go_region
        have hn := (hr.put (wd_ref h16)).drew
        generalize hwn : World.drew _ = wn
        have hn' : C1 w B X R N (.slice a0 l0 k0) (.slice (some ⟨kb, 0, none⟩) 64 64) x c (k + 1) wn := by rw [← hwn]; exact hn
        clear hwn hn hr c16 c7 ck fk b1 b2 b3 b4 b5 b6 b7
        go_wp2
        go_roundw
        case rel => exact ⟨k + 1, by omega, by go_num, hn'⟩
        case measure => simp [intOf]; omega
    · obtain rfl : k = 64 := by omega
      rw [show ((64 : Nat) : Int) = 64 from rfl]
      have h2 := C2.start hr zeros8
      have hnb := Blk.new wr 84 zeros8
      go_wp2_with (first
        | (refine wpList_load_blk rfl 84 (.tmp 4) rfl X 84 8 _ rfl hr.base.xs _ Tryd.underlying84 rfl size84 ?_)
        | (refine wpList_store_blk rfl 84 (.tmp 11) (.tmp 110) rfl wr.heap.size 84 8 _ (fun i => U (x i)) _ rfl rfl rfl hnb size84 (fun i _ => rfl) ?_))
      generalize hwy : World.setRow _ _ _ = wy at *
      generalize wr.heap.size = Y at *
      clear hwy hnb hr h1 w1
      go_loopw [12] (fun i wr => ∃ k : Nat, k ≤ 64 ∧ i = .int .i64 k ∧ C2 w B X R N (.slice a0 l0 k0) (.slice (some ⟨kb, 0, none⟩) 64 64) x c k Y wr) (fun i _ => 64 - (intOf i).toNat)
      case atStart => exact ⟨0, by omega, rfl, h2⟩
      case round =>
        clear h2
        obtain ⟨k, hk, rfl, hr⟩ := hrel
        by_cases hkt : k < 64
        · have hy0 := hr.ys.cell (i := 0) (by omega)
          have hy1 := hr.ys.cell (i := 1) (by omega)
          have hy2 := hr.ys.cell (i := 2) (by omega)
          have hy3 := hr.ys.cell (i := 3) (by omega)
          have hy4 := hr.ys.cell (i := 4) (by omega)
          have hy5 := hr.ys.cell (i := 5) (by omega)
          have hy6 := hr.ys.cell (i := 6) (by omega)
          have hy7 := hr.ys.cell (i := 7) (by omega)
          have hwk := hr.wds.cell hkt
          have hkk := only_cell hr.base.only (hK k hkt)
          have htb : wr.cell? ⟨B, 1, none⟩ = some (.slice (some ⟨kb, 0, none⟩) 64 64) := hr.base.tab.cell (i := 1) (by omega)
          have b1 : (0 : Int) ≤ (k : Int) := by omega
          have b2 : (k : Int) < 64 := by omega
          obtain ⟨y, hy⟩ : ∃ y : Nat → BitVec 32, y = Sha.rounds Sha.K (Sha.be c) x k := ⟨_, rfl⟩
          rw [← hy] at hy0 hy1 hy2 hy3 hy4 hy5 hy6 hy7
          obtain ⟨wk, hwke⟩ : ∃ v, v = Sha.wd (Sha.be c) k := ⟨_, rfl⟩
          rw [← hwke] at hwk
          have HY := Lib.hid hy
          have HW := Lib.hid hwke
          clear hy hwke
          go_wp2_with (go_at_call 59; refine (turned_z _ (by omega) (by omega) _ _).mono ?_; rintro e w' ⟨rfl, rfl⟩)
          go_quiet (fail)
          have hblk : ∀ m, Blk (wr.drewN m) Y 84 8 (fun i => U (Sha.rounds Sha.K (Sha.be c) x k i)) := fun m => hr.ys.drewN m
          go_wp2_with (refine wpList_store_blk rfl 84 (.tmp 11) (.tmp 194) rfl Y 84 8 _ (fun i => U (Sha.rnd y (Sha.K k) wk i)) _ rfl rfl (rnd_ref2 y _ _) (hblk _) size84 (fun i _ => rfl) ?_)
          have hn := C2.step hr HY.out HW.out
          go_roundw
          case rel => exact ⟨k + 1, by omega, by go_num, hn _⟩
          case measure => simp [intOf]; omega
        · obtain rfl : k = 64 := by omega
          rw [show ((64 : Nat) : Int) = 64 from rfl]
          obtain ⟨y, hy⟩ : ∃ y : Nat → BitVec 32, y = Sha.rounds Sha.K (Sha.be c) x 64 := ⟨_, rfl⟩
          have h3 := C3.start hr hy
          have HY := Lib.hid hy
          clear hy hr
          go_wp2
          obtain ⟨wo, rfl⟩ : ∃ wo : World, wo = wr := ⟨_, rfl⟩
          go_loopw [19] (fun i wr => ∃ k : Nat, k ≤ 8 ∧ i = .int .i64 k ∧ C3 w X R x y k Y wr) (fun i _ => 8 - (intOf i).toNat)
          case atStart => exact ⟨0, by omega, rfl, h3⟩
          case round =>
            clear h3
            obtain ⟨k, hk, rfl, hr⟩ := hrel
            by_cases hkt : k < 8
            · have hxk := hr.cell hkt
              have hyk := hr.ys.cell hkt
              have hfk : wr.frozen? ⟨X, k, none⟩ = false := hr.xs.free k
              have b1 : (0 : Int) ≤ (k : Int) := by omega
              have b2 : (k : Int) < 8 := by omega
              go_wp2
              go_region
              have hn := hr.step
              go_wp2
              go_roundw
              case rel => exact ⟨k + 1, by omega, by go_num, hn⟩
              case measure => simp [intOf]; omega
            · obtain rfl : k = 8 := by omega
              have hd := hr.done HY.out
              have hon := below_of_only hr.only
              go_wp2_with (first
                | (refine wpList_load_blk rfl 84 (.tmp 4) rfl X 84 8 _ rfl hd _ Tryd.underlying84 rfl size84 ?_)
                | (refine wpList_store_blk rfl 84 (.tmp 6) (.tmp 208) rfl R 84 8 _ (fun i => U (Sha.comp Sha.K x c i)) _ rfl rfl rfl hr.res size84 (fun i _ => rfl) ?_))
              have hR : w.heap.size ≤ R := by have := hr.ord; omega
              exact bodyPost_ret (results_blk rfl _ _ R 84 8 _ rfl (hr.res.setRow_ _) _ Tryd.underlying84 rfl size84) rfl ⟨rfl, below_setRow hon hR _⟩
end Go.Proofs.YtlfcaagogeclpaaDoor
