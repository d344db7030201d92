/-
  client.Update of the example's: over what put does.
-/
import Derived.Test.YtlfcaagogeclpaaDoorLL
import Derived.Test.YtlfcaagogeclpaaDoorG3
set_option linter.unusedSimpArgs false
set_option linter.unusedVariables false
namespace Go.Proofs.YtlfcaagogeclpaaDoor
open Go.RowKit
/-- The example's key. -/
def key1 : ByteArray := ⟨#[107]⟩
/-- The seal of the example's header with height 2. -/
def sealf (rt : Nat → BitVec 8) (i : Nat) : Value := By (SL (keyb key1) 50 (hdb rt) i)
theorem sealf_one (rt : Nat → BitVec 8) (i : Nat) : (sealf rt i).oneCell' = true := rfl
/-- The package's tables lie where they lay. -/
def GL (w : World) : Prop := (∀ i, i < 64 → w.cell? ⟨1, i, none⟩ = some (U (Sha.K i))) ∧ ∀ i, i < 8 → w.cell? ⟨0, i, none⟩ = some (U (Sha.X0 i))
theorem GL.next {w W : World} (h : GL w) (hb : w.grownBy W none) : GL W := ⟨fun i hi => only_cell hb (h.1 i hi), fun i hi => only_cell hb (h.2 i hi)⟩
theorem GL.setRow {w : World} (h : GL w) {b : Nat} (hb : 1 < b) (cs : Array Value) : GL (w.setRow b cs) := ⟨fun i hi => by rw [cell_of_heap (setRow_other w b 1 cs (by omega))]; exact h.1 i hi, fun i hi => by rw [cell_of_heap (setRow_other w b 0 cs (by omega))]; exact h.2 i hi⟩
theorem GL.size {w : World} (h : GL w) : 1 < w.heap.size := World.block_lt_of_cell? w _ (h.1 0 (by omega))
theorem neq_seal (rt : Nat → BitVec 8) (w : World) : (binOp .neq 28 (.agg (Row 32 (sealf rt))) (.agg (Row 32 (sealf rt)))).run Tryd.prog w = .ok (.bool false) w := by
  rw [run_neq_struct, eq_hash 9998 (sealf rt) (sealf rt) (fun i => (SL (keyb key1) 50 (hdb rt) i).toNat) (fun i => (SL (keyb key1) 50 (hdb rt) i).toNat) (fun _ _ => rfl) (fun _ _ => rfl) w]
  have e : ((List.range 32).all fun i => ((SL (keyb key1) 50 (hdb rt) i).toNat : Int) == ((SL (keyb key1) 50 (hdb rt) i).toNat : Int)) = true := List.all_eq_true.2 fun i _ => by simp
  rw [e]
  rfl
/-- What stands in Update. -/
def UQ (w : World) (g n cap : Nat) (rt : Nat → BitVec 8) (W : World) : Prop :=
  w.grownBy W none ∧ Blk W w.heap.size 24 5 (clf false g n cap) ∧ Blk W (w.heap.size + 1) 30 35 (hdf 2 rt) ∧ Blk W (w.heap.size + 2) 28 32 (sealf rt) ∧ SS W g n ∧ GL W ∧ g < w.heap.size
def UP (w : World) (g n cap : Nat) (rt : Nat → BitVec 8) (W : World) : Prop := UQ w g n cap rt W ∧ Blk W (w.heap.size + 3) 24 5 zcl
theorem UP.next {w : World} {g n cap : Nat} {rt : Nat → BitVec 8} {W W2 : World} (h : UP w g n cap rt W) (hb : W.grownBy W2 none) : UP w g n cap rt W2 := by
  obtain ⟨⟨h1, h2, h3, h4, h5, h6, h7⟩, h8⟩ := h
  exact ⟨⟨only_trans h1 hb, h2.grown hb (by simp), h3.grown hb (by simp), h4.grown hb (by simp), h5.next (Nat.lt_of_lt_of_le h7 h1.size) hb, h6.next hb, h7⟩, h8.grown hb (by simp)⟩
theorem UP.below {w : World} {g n cap : Nat} {rt : Nat → BitVec 8} {W W2 : World} (h : UP w g n cap rt W) (hb : Below W.heap.size W W2) : UP w g n cap rt W2 := h.next (only_of_below hb none)
theorem UP.lt {w : World} {g n cap : Nat} {rt : Nat → BitVec 8} {W : World} (h : UP w g n cap rt W) : g < W.heap.size := Nat.lt_of_lt_of_le h.1.2.2.2.2.2.2 h.1.1.size
theorem UP.ky {w : World} {B : Nat} (HB : Go.RowKit.Hid (w.heap.size = B)) {g n cap : Nat} {rt : Nat → BitVec 8} {W : World} (h : UP w g n cap rt W) : W.cell? ⟨B, 1, none⟩ = some (.string ⟨#[107]⟩) ∧ UP w g n cap rt W := ⟨HB.out ▸ h.1.2.1.cell (by omega), h⟩
theorem UP.start (w : World) (g n cap : Nat) (rt : Nat → BitVec 8) (hs : SS w g n) (hg : g < w.heap.size) (hG : GL w) (Z1 Z2 Z3 Z4 : Array Value) (h1 : Z1 = Row 5 (clf false g n cap)) (h2 : Z2 = Row 35 (hdf 2 rt)) (h3 : Z3 = Row 32 (sealf rt)) (h4 : Z4 = Row 5 zcl) :
    UP w g n cap rt ((((w.alloc (.cells Z1 24)).alloc (.cells Z2 30)).alloc (.cells Z3 28)).alloc (.cells Z4 24)) := by
  obtain ⟨hw, hb, hz⟩ := two_more w Z1 Z2 24 30 5 35 _ _ h1 h2
  have k3 := Blk.new ((w.alloc (.cells Z1 24)).alloc (.cells Z2 30)) 28 h3
  rw [World.size_alloc, World.size_alloc] at k3
  have k4 := Blk.new (((w.alloc (.cells Z1 24)).alloc (.cells Z2 30)).alloc (.cells Z3 28)) 24 h4
  rw [World.size_alloc, World.size_alloc, World.size_alloc] at k4
  have hw2 := only_alloc (only_alloc hw (.cells Z3 28)) (.cells Z4 24)
  exact ⟨⟨hw2, (hb.alloc _).alloc _, (hz.alloc _).alloc _, k3.alloc _, hs.next hg hw2, hG.next hw2, hg⟩, k4⟩
set_option maxRecDepth 100000 in
set_option maxHeartbeats 4000000 in
theorem update_any (C : Bool → Nat → Nat → Nat → Prop) (g n cap : Nat) (hn : n = 1 ∨ n = 2) (rt : Nat → BitVec 8)
    (hput : ∀ W : World, SS W g n → g < W.heap.size → Calls Tryd.prog 16 #[cl false g n cap, .agg (Row 34 (sdf 2 rt))] W fun e w' => ∃ fz g2 n2 cap2, e = .returned (cl fz g2 n2 cap2) ∧ Below W.heap.size W w' ∧ SS w' g2 n2 ∧ g2 < w'.heap.size ∧ (g2 = g ∨ W.heap.size ≤ g2) ∧ C fz g2 n2 cap2)
    (w : World) (hs : SS w g n) (hg : g < w.heap.size) (hG : GL w) : Calls Tryd.prog 8 #[cl false g n cap, .agg (Row 35 (hdf 2 rt)), .agg (Row 32 (sealf rt)), .int .i64 1] w fun e w' => ∃ fz g2 n2 cap2, e = .returned (.tuple #[cl fz g2 n2 cap2, .int .i64 0]) ∧ Below w.heap.size w w' ∧ SS w' g2 n2 ∧ g2 < w'.heap.size ∧ (g2 = g ∨ w.heap.size ≤ g2) ∧ C fz g2 n2 cap2 := by
  have H0 := Lib.hid (UP.start w g n cap rt hs hg hG _ _ _ _ (cl_row false g n cap) rfl rfl zcl_row)
  have HP := Lib.hid hput
  have HN := Lib.hid hn
  have HG1 := Lib.hid hG.size
  clear hs hg hput hG hn
  unfold cl
  go_enter Tryd.func8, Tryd.ntmps8
  go_wp2_with fail
  generalize World.alloc (World.alloc (World.alloc (World.alloc w _) _) _) _ = W at H0 ⊢
  have h0 := H0.out
  clear H0
  have hac := active_any g n cap HN.out W h0.1.2.2.2.2.1 h0.lt
  generalize hB : w.heap.size = B at *
  have HB := Lib.hid hB
  clear hB
  unfold cl at hac
  refine hac.mono ?_
  rintro e w2 ⟨rfl, hb2⟩
  replace h0 := h0.below hb2
  clear hac hb2
  have hh := (HB.out ▸ h0.1.2.2.1 : Blk w2 (B + 1) 30 35 (hdf 2 rt))
  go_wp2_with (first
    | (refine wpList_load_blk rfl 30 (.tmp 5) rfl (B + 1) 30 35 (hdf 2 rt) rfl hh _ Tryd.underlying30 rfl size30 ?_))
  refine (check_any 2 (by omega) (by omega) rt _).mono ?_
  rintro e w3 ⟨rfl, hb2⟩
  replace h0 := h0.below hb2
  clear hh hb2
  have c10 := (HB.out ▸ h0.1.2.2.1 : Blk w3 (B + 1) 30 35 (hdf 2 rt)).cell (i := 0) (by omega)
  change _ = some (Value.string ⟨#[97]⟩) at c10
  have c0 := (HB.out ▸ h0.1.2.1 : Blk w3 B 24 5 (clf false g n cap)).cell (i := 0) (by omega)
  change _ = some (Value.string ⟨#[97]⟩) at c0
  go_wp2_with fail
  clear c10 c0
  refine wp_region_held_drew (S := fun W => W.cell? ⟨B, 1, none⟩ = some (.string ⟨#[107]⟩) ∧ UP w g n cap rt W) (by kernel_rfl) (UP.ky HB (UP.next h0 (only_drew (only_refl _ _)))) (fun hHeld => ?_)
  refine wpAnyH_take (i := 0) (v := ?_) rfl (by kernel_rfl) (by kernel_rfl) (by kernel_rfl) (fun _ _ _ h => h) (Or.inl ⟨by kernel_rfl, ?_⟩) (by assumption) ?_
  rotate_left
  · intro w hSw; (try dsimp only at hSw); go_simp; try with_reducible rfl
  try simp only [Act.put, List.getElem_toArray, List.getElem_cons_succ, List.getElem_cons_zero, List.setIfInBounds_toArray, List.set_cons_zero, List.set_cons_succ]
  refine wpAnyH_take (i := 1) (v := ?_) rfl (by kernel_rfl) (by kernel_rfl) (by kernel_rfl) (fun _ _ _ h => h) (Or.inl ⟨by kernel_rfl, ?_⟩) (by assumption) ?_
  rotate_left
  · intro w hSw; (try dsimp only at hSw); go_simp; try with_reducible rfl
  try simp only [Act.put, List.getElem_toArray, List.getElem_cons_succ, List.getElem_cons_zero, List.setIfInBounds_toArray, List.set_cons_zero, List.set_cons_succ]
  refine wpAnyH_take (i := 2) rfl (by kernel_rfl) (by kernel_rfl) (by kernel_rfl) (fun _ _ _ h => h) (yields_row (by kernel_rfl) 30 (.tmp 5) rfl (B + 1) 0 35 (hdf 2 rt) rfl _ (fun W h => (HB.out ▸ h.2.1.2.2.1 : Blk W (B + 1) 30 35 (hdf 2 rt)).range) Tryd.underlying30 rfl size30) (by assumption) ?_
  try simp only [Act.put, List.getElem_toArray, List.getElem_cons_succ, List.getElem_cons_zero, List.setIfInBounds_toArray, List.set_cons_zero, List.set_cons_succ]
  refine wpAnyH_take (i := 4) rfl (by kernel_rfl) (by kernel_rfl) (by kernel_rfl) (fun _ _ _ h => h) (yields_row (by kernel_rfl) 28 (.tmp 6) rfl (B + 2) 0 32 (sealf rt) rfl _ (fun W h => (HB.out ▸ h.2.1.2.2.2.1 : Blk W (B + 2) 28 32 (sealf rt)).range) Tryd.underlying28 rfl size28) (by assumption) ?_
  try simp only [Act.put, List.getElem_toArray, List.getElem_cons_succ, List.getElem_cons_zero, List.setIfInBounds_toArray, List.set_cons_zero, List.set_cons_succ]
  refine wpAnyH_ready (rs := [3]) (by kernel_rfl) (by simp) ?_
  refine AllReadyH.cons rfl (fun K hK => ?_) AllReadyH.nil
  go_simp
  go_at_call 15
  refine (clientseal_any ⟨#[107]⟩ (by decide) rt _ hHeld.2.1.2.2.2.2.2.1.size hHeld.2.1.2.2.2.2.2.1.1 hHeld.2.1.2.2.2.2.2.1.2).mono ?_
  rintro e w2 ⟨rfl, hb2⟩
  refine hK.out _ _ (UP.ky HB (UP.below hHeld.2 hb2)) (fun hHeld => ?_)
  clear hK K
  try simp only [Act.put, List.getElem_toArray, List.getElem_cons_succ, List.getElem_cons_zero, List.setIfInBounds_toArray, List.set_cons_zero, List.set_cons_succ]
  refine wpAnyH_take (i := 5) rfl (by kernel_rfl) (by kernel_rfl) (by kernel_rfl) (fun _ _ _ h => h) (yields_agg_bin (by kernel_rfl) .neq 28 28 _ _ rfl (Row 32 (sealf rt)) (Row 32 (sealf rt)) rfl rfl guard28 (.bool false) (fun W => neq_seal rt W)) (by assumption) ?_
  try simp only [Act.put, List.getElem_toArray, List.getElem_cons_succ, List.getElem_cons_zero, List.setIfInBounds_toArray, List.set_cons_zero, List.set_cons_succ]
  refine wpAnyH_take (i := 6) (v := ?_) rfl (by kernel_rfl) (by kernel_rfl) (by kernel_rfl) (fun _ _ _ h => h) (Or.inl ⟨by kernel_rfl, ?_⟩) (by assumption) ?_
  rotate_left
  · intro w hSw; (try dsimp only at hSw); go_simp; try with_reducible rfl
  try simp only [Act.put, List.getElem_toArray, List.getElem_cons_succ, List.getElem_cons_zero, List.setIfInBounds_toArray, List.set_cons_zero, List.set_cons_succ]
  refine wpAnyH_done (by kernel_rfl) ?_ _
  clear h0
  have h0 := hHeld.2
  clear hHeld
  go_wp2_with fail
  refine wp_region_held_drew (S := UQ w g n cap rt) (by kernel_rfl) (UP.next h0 (only_drew (only_refl _ _))).1 (fun hHeld => ?_)
  replace h0 := UP.next h0 (only_drew (only_refl _ none))
  refine wpAnyH_take (i := 0) rfl (by kernel_rfl) (by kernel_rfl) (by kernel_rfl) (fun _ _ _ h => h) (yields_row (by kernel_rfl) 24 (.tmp 4) rfl B 0 5 (clf false g n cap) rfl _ (fun W h => (HB.out ▸ h.2.1 : Blk W B 24 5 (clf false g n cap)).range) Tryd.underlying24 rfl size24) (by assumption) ?_
  try simp only [Act.put, List.getElem_toArray, List.getElem_cons_succ, List.getElem_cons_zero, List.setIfInBounds_toArray, List.set_cons_zero, List.set_cons_succ]
  refine wpAnyH_take (i := 1) rfl (by kernel_rfl) (by kernel_rfl) (by kernel_rfl) (fun _ _ _ h => h) (yields_row (by kernel_rfl) 30 (.tmp 5) rfl (B + 1) 0 35 (hdf 2 rt) rfl _ (fun W h => (HB.out ▸ h.2.2.1 : Blk W (B + 1) 30 35 (hdf 2 rt)).range) Tryd.underlying30 rfl size30) (by assumption) ?_
  try simp only [Act.put, List.getElem_toArray, List.getElem_cons_succ, List.getElem_cons_zero, List.setIfInBounds_toArray, List.set_cons_zero, List.set_cons_succ]
  refine wpAnyH_ready (rs := [2]) (by kernel_rfl) (by simp) ?_
  refine AllReadyH.cons rfl (fun K hK => ?_) AllReadyH.nil
  go_simp
  go_at_call 11
  refine (state_any 2 rt _).mono ?_
  rintro e w4 ⟨rfl, hb2⟩
  replace h0 := UP.below h0 hb2
  refine hK.out _ _ h0.1 (fun hHeld => ?_)
  clear hK K hb2
  try simp only [Act.put, List.getElem_toArray, List.getElem_cons_succ, List.getElem_cons_zero, List.setIfInBounds_toArray, List.set_cons_zero, List.set_cons_succ]
  have hp := HP.out _ h0.1.2.2.2.2.1 h0.lt
  rw [cl_eq] at hp
  refine wpAnyH_ready (rs := [3]) (by kernel_rfl) (by simp) ?_
  refine AllReadyH.cons rfl (fun K hK => ?_) AllReadyH.nil
  go_simp
  go_at_call 16
  refine hp.mono ?_
  rintro e w5 ⟨fz, g2, n2, cap2, rfl, hb2, hs2, hg2, hgg, hC⟩
  have hlt := h0.2.lt
  have hlg := h0.1.2.2.2.2.2.2
  replace h0 := UP.below h0 hb2
  rw [cl_eq]
  refine hK.out _ _ h0.1 (fun hHeld => ?_)
  clear hK K hb2 hp
  try simp only [Act.put, List.getElem_toArray, List.getElem_cons_succ, List.getElem_cons_zero, List.setIfInBounds_toArray, List.set_cons_zero, List.set_cons_succ]
  have hz := (HB.out ▸ h0.2 : Blk w5 (B + 3) 24 5 zcl)
  refine wpAnyH_ready (rs := [4]) (by kernel_rfl) (by simp) ?_
  refine AllReadyH.cons rfl (fun K hK => ?_) AllReadyH.nil
  rw [if_pos (by kernel_rfl)]
  refine opw_store_blk 24 (.tmp 8) (.tmp 39) rfl (B + 3) 24 5 zcl (clf fz g2 n2 cap2) rfl rfl hz size24 (fun i _ => clf_one _ _ _ _ i) ?_
  have hB1 := HB.out
  have hQ : UQ w g n cap rt (w5.setRow (B + 3) (Row 5 (clf fz g2 n2 cap2))) := ⟨only_setRow h0.1.1 (.inr (by omega)) _, h0.1.2.1.setRow_far (by omega) _, h0.1.2.2.1.setRow_far (by omega) _, h0.1.2.2.2.1.setRow_far (by omega) _, SS_setRow h0.1.2.2.2.2.1 (by have := h0.1.2.2.2.2.2.2; omega) _, GL.setRow h0.1.2.2.2.2.2.1 (by have := HG1.out; omega) _, h0.1.2.2.2.2.2.2⟩
  have hz2 : Blk (w5.setRow (B + 3) (Row 5 (clf fz g2 n2 cap2))) (B + 3) 24 5 (clf fz g2 n2 cap2) := hz.setRow_ _
  refine hK.out _ _ hQ (fun hHeld => ?_)
  clear hK K
  try simp only [Act.put, List.getElem_toArray, List.getElem_cons_succ, List.getElem_cons_zero, List.setIfInBounds_toArray, List.set_cons_zero, List.set_cons_succ]
  refine wpAnyH_take (i := 5) (v := ?_) rfl (by kernel_rfl) (by kernel_rfl) (by kernel_rfl) (fun _ _ _ h => h) (Or.inl ⟨by kernel_rfl, ?_⟩) (by assumption) ?_
  rotate_left
  · intro w hSw; (try dsimp only at hSw); go_simp; try with_reducible rfl
  try simp only [Act.put, List.getElem_toArray, List.getElem_cons_succ, List.getElem_cons_zero, List.setIfInBounds_toArray, List.set_cons_zero, List.set_cons_succ]
  refine wpAnyH_done (by kernel_rfl) ?_ _
  go_wp2_with fail
  refine bodyPost_ret (results_blk_tmp rfl _ _ (B + 3) 24 5 (clf fz g2 n2 cap2) rfl hz2 _ Tryd.underlying24 rfl size24) rfl ⟨fz, g2, n2, cap2, by rw [← cl_row]; rfl, below_of_only hQ.1, SS_setRow hs2 (by omega) _, by rw [setRow_size]; exact hg2, by omega, hC⟩
end Go.Proofs.YtlfcaagogeclpaaDoor
