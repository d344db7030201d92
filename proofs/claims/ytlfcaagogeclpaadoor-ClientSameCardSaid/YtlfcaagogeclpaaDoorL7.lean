/-
  client.put of the example's, a new state behind the one that is known.
-/
import Derived.Test.YtlfcaagogeclpaaDoorLL
set_option linter.unusedSimpArgs false
set_option linter.unusedVariables false
namespace Go.Proofs.YtlfcaagogeclpaaDoor
open Go.RowKit
/-- What stands in put's last region, whatever the client's copy holds. -/
def PX (w : World) (W : World) : Prop := w.grownBy W none ∧ Blk W (w.heap.size + 1) 37 34 (sdf 2 fun _ => 0)
theorem PU.px {w : World} {g n cap : Nat} {W : World} (h : PU w false g n cap (fun _ => 0) W) : PX w W := ⟨h.1, h.2.2.1⟩
/-- A block of the call's own turns, behind those that put has. -/
theorem PU.nextRow {w : World} {fz : Bool} {g n cap q : Nat} {rt : Nat → BitVec 8} {W W2 : World} (h : PU w fz g n cap rt W) (hb : W.grownBy W2 (some q)) (hq : w.heap.size + 3 ≤ q) : PU w fz g n cap rt W2 := by
  obtain ⟨h1, h2, h3, h4, h5, h6⟩ := h
  refine ⟨only_then h1 hb (fun b hb' => .inr (by injection hb' with e; omega)), h2.grown hb (by intro e; injection e with e; omega), h3.grown hb (by intro e; injection e with e; omega), h4.grown hb (by intro e; injection e with e; omega), ?_, h6⟩
  intro j hj i v hv
  rw [cell_of_heap (hb.block g (Nat.lt_of_lt_of_le h6 h1.size) (by intro e; injection e with e; omega))]
  exact h5 j hj i v hv
/-- A slice of n states that the call owns. -/
theorem own_slice {w : World} {base n : Nat} {v : Value} {xs : List Value} (h : w.ownsRow base 37 34 v n xs) (hn : n ≠ 0) : ∃ g cap, v = .slice (some ⟨g, 0, none⟩) n cap ∧ base ≤ g ∧ g < w.heap.size ∧ n ≤ cap ∧ ∀ j u, xs[j]? = some u → w.cell? ⟨g, j, none⟩ = some u := by
  have hc := fun g hg => World.ownsRow.cells h (g := g) hg
  obtain ⟨hl, ⟨_, h0⟩ | ⟨g, cap, cur, rfl, h2, h3, h4, _⟩⟩ := h
  · exact absurd h0 hn
  · refine ⟨g, cap, rfl, h2, ?_, h4, fun j u hu => ?_⟩
    · rcases Nat.lt_or_ge g w.heap.size with h | h
      · exact h
      · rw [Array.getElem?_eq_none h] at h3; cases h3
    · have := hc g rfl j u hu
      rw [Addr.add_lit, Nat.zero_add] at this
      exact this
theorem SS_set {w : World} {g n : Nat} (h : SS w g n) {p : Addr} (hp : g ≠ p.block) (v : Value) : SS (w.setCell p v) g n := fun j hj i u hu => by
  rw [cell_of_heap (Below.heap_setCell w p v g hp)]; exact h j hj i u hu
theorem SS_two {w : World} {g : Nat} (h : ∀ j u, ((Row 34 (sdf 1 fun _ => 0)).toList ++ (Row 34 (sdf 2 fun _ => 0)).toList)[j]? = some u → w.cell? ⟨g, j, none⟩ = some u) : SS w g 2 := fun j hj i v hv => by
  have hi : i < 34 := by
    rcases Nat.lt_or_ge i 34 with h | h
    · exact h
    · rw [Array.getElem?_toList, Row_get_none h] at hv; cases hv
  have : j = 0 ∨ j = 1 := by omega
  rcases this with rfl | rfl
  · refine h _ v ?_
    rw [List.getElem?_append_left (by rw [len34]; omega), Nat.mul_zero, Nat.zero_add]
    exact hv
  · refine h _ v ?_
    rw [List.getElem?_append_right (by rw [len34]; omega), len34, Nat.mul_one, Nat.add_sub_cancel_left]
    exact hv
set_option maxRecDepth 100000 in
set_option maxHeartbeats 4000000 in
theorem putnew_any (g cap : Nat) (w : World) (hs : SS w g 1) (hg : g < w.heap.size) : Calls Tryd.prog 16 #[cl false g 1 cap, .agg (Row 34 (sdf 2 (fun _ => 0)))] w fun e w' => ∃ g2 cap2, e = .returned (cl false g2 2 cap2) ∧ Below w.heap.size w w' ∧ SS w' g2 2 ∧ w.heap.size ≤ g2 ∧ g2 < w'.heap.size := by
  have h0 := PU.start w false g 1 cap (fun _ => 0) hs hg _ _ _ (cl_row false g 1 cap) rfl zcl_row
  have hd0 : ∀ r, (Row 34 (sdf 2 r))[0]? = some (Value.int .i64 2) := fun r => Row_get (by omega)
  have H0 := Lib.hid h0
  clear hs hg h0
  unfold cl
  go_enter Tryd.func16, Tryd.ntmps16
  go_wp2_with fail
  clear hd0
  generalize World.alloc (World.alloc (World.alloc w _) _) _ = W at H0 ⊢
  have h0 := H0.out
  clear H0
  have hat := atn_any g cap W h0.2.2.2.2.1 h0.lt
  generalize hB : w.heap.size = B at *
  have HB := Lib.hid hB
  clear hB
  unfold cl at hat
  refine hat.mono ?_
  rintro e w2 ⟨rfl, hb2⟩
  replace h0 := h0.below hb2
  clear hat hb2
  go_wp2_with fail
  have hw0 : IntKind.i64.wrap 0 = 0 := by decide
  have hw30 : IntKind.i64.wrap (-30) = -30 := by decide
  refine wp_region_held_drew (S := fun W => W.cell? ⟨B, 4, none⟩ = some (.slice (some ⟨g, 0, none⟩) 1 cap) ∧ PU w false g 1 cap (fun _ => 0) W) (by kernel_rfl) (PU.sl HB (PU.next h0 (only_drew (only_refl _ _)))) (fun hHeld => ?_)
  refine wpAnyH_take (i := 0) (v := ?_) rfl (by kernel_rfl) (by kernel_rfl) (by kernel_rfl) (fun _ _ _ h => h) (Or.inl ⟨by kernel_rfl, ?_⟩) (by assumption) ?_
  rotate_left
  · intro w hSw; (try dsimp only at hSw); go_simp; try with_reducible rfl
  try simp only [Act.put, List.getElem_toArray, List.getElem_cons_succ, List.getElem_cons_zero, List.setIfInBounds_toArray, List.set_cons_zero, List.set_cons_succ]
  refine wpAnyH_take (i := 1) (v := ?_) rfl (by kernel_rfl) (by kernel_rfl) (by kernel_rfl) (fun _ _ _ h => h) (Or.inl ⟨by kernel_rfl, ?_⟩) (by assumption) ?_
  rotate_left
  · intro w hSw; (try dsimp only at hSw); go_simp; try with_reducible rfl
  try simp only [Act.put, List.getElem_toArray, List.getElem_cons_succ, List.getElem_cons_zero, List.setIfInBounds_toArray, List.set_cons_zero, List.set_cons_succ]
  refine wpAnyH_take (i := 2) (v := undef) rfl (by kernel_rfl) (by kernel_rfl) (by kernel_rfl) (fun _ _ _ h => h) (Or.inr ⟨by kernel_rfl, rfl⟩) (by assumption) ?_
  try simp only [Act.put, List.getElem_toArray, List.getElem_cons_succ, List.getElem_cons_zero, List.setIfInBounds_toArray, List.set_cons_zero, List.set_cons_succ]
  refine wpAnyH_take (i := 3) (v := undef) rfl (by kernel_rfl) (by kernel_rfl) (by kernel_rfl) (fun _ _ _ h => h) (Or.inr ⟨by kernel_rfl, rfl⟩) (by assumption) ?_
  try simp only [Act.put, List.getElem_toArray, List.getElem_cons_succ, List.getElem_cons_zero, List.setIfInBounds_toArray, List.set_cons_zero, List.set_cons_succ]
  refine wpAnyH_take (i := 4) (v := undef) rfl (by kernel_rfl) (by kernel_rfl) (by kernel_rfl) (fun _ _ _ h => h) (Or.inr ⟨by kernel_rfl, rfl⟩) (by assumption) ?_
  try simp only [Act.put, List.getElem_toArray, List.getElem_cons_succ, List.getElem_cons_zero, List.setIfInBounds_toArray, List.set_cons_zero, List.set_cons_succ]
  refine wpAnyH_take (i := 5) (v := undef) rfl (by kernel_rfl) (by kernel_rfl) (by kernel_rfl) (fun _ _ _ h => h) (Or.inr ⟨by kernel_rfl, rfl⟩) (by assumption) ?_
  try simp only [Act.put, List.getElem_toArray, List.getElem_cons_succ, List.getElem_cons_zero, List.setIfInBounds_toArray, List.set_cons_zero, List.set_cons_succ]
  refine wpAnyH_take (i := 6) (v := undef) rfl (by kernel_rfl) (by kernel_rfl) (by kernel_rfl) (fun _ _ _ h => h) (Or.inr ⟨by kernel_rfl, rfl⟩) (by assumption) ?_
  try simp only [Act.put, List.getElem_toArray, List.getElem_cons_succ, List.getElem_cons_zero, List.setIfInBounds_toArray, List.set_cons_zero, List.set_cons_succ]
  refine wpAnyH_take (i := 7) (v := undef) rfl (by kernel_rfl) (by kernel_rfl) (by kernel_rfl) (fun _ _ _ h => h) (Or.inr ⟨by kernel_rfl, rfl⟩) (by assumption) ?_
  try simp only [Act.put, List.getElem_toArray, List.getElem_cons_succ, List.getElem_cons_zero, List.setIfInBounds_toArray, List.set_cons_zero, List.set_cons_succ]
  refine wpAnyH_take (i := 8) (v := undef) rfl (by kernel_rfl) (by kernel_rfl) (by kernel_rfl) (fun _ _ _ h => h) (Or.inr ⟨by kernel_rfl, rfl⟩) (by assumption) ?_
  try simp only [Act.put, List.getElem_toArray, List.getElem_cons_succ, List.getElem_cons_zero, List.setIfInBounds_toArray, List.set_cons_zero, List.set_cons_succ]
  refine wpAnyH_take (i := 9) (v := ?_) rfl (by kernel_rfl) (by kernel_rfl) (by kernel_rfl) (fun _ _ _ h => h) (Or.inl ⟨by kernel_rfl, ?_⟩) (by assumption) ?_
  rotate_left
  · intro w hSw; (try dsimp only at hSw); go_simp; try with_reducible rfl
  try simp only [Act.put, List.getElem_toArray, List.getElem_cons_succ, List.getElem_cons_zero, List.setIfInBounds_toArray, List.set_cons_zero, List.set_cons_succ]
  refine wpAnyH_take (i := 10) (v := ?_) rfl (by kernel_rfl) (by kernel_rfl) (by kernel_rfl) (fun _ _ _ h => h) (Or.inl ⟨by kernel_rfl, ?_⟩) (by assumption) ?_
  rotate_left
  · intro w hSw; (try dsimp only at hSw); go_simp; try with_reducible rfl
  try simp only [Act.put, List.getElem_toArray, List.getElem_cons_succ, List.getElem_cons_zero, List.setIfInBounds_toArray, List.set_cons_zero, List.set_cons_succ]
  refine wpAnyH_done (by kernel_rfl) ?_ _
  clear h0
  have h0 := hHeld.2
  clear hHeld
  go_wp2_with fail
  refine wp_region_held_drew (S := fun W => W.cell? ⟨B, 4, none⟩ = some (.slice (some ⟨g, 0, none⟩) 1 cap) ∧ PU w false g 1 cap (fun _ => 0) W) (by kernel_rfl) (PU.sl HB (PU.next h0 (only_drew (only_refl _ _)))) (fun hHeld => ?_)
  refine wpAnyH_take (i := 0) (v := ?_) rfl (by kernel_rfl) (by kernel_rfl) (by kernel_rfl) (fun _ _ _ h => h) (Or.inl ⟨by kernel_rfl, ?_⟩) (by assumption) ?_
  rotate_left
  · intro w hSw; (try dsimp only at hSw); go_simp; try with_reducible rfl
  try simp only [Act.put, List.getElem_toArray, List.getElem_cons_succ, List.getElem_cons_zero, List.setIfInBounds_toArray, List.set_cons_zero, List.set_cons_succ]
  refine wpAnyH_take (i := 1) (v := ?_) rfl (by kernel_rfl) (by kernel_rfl) (by kernel_rfl) (fun _ _ _ h => h) (Or.inl ⟨by kernel_rfl, ?_⟩) (by assumption) ?_
  rotate_left
  · intro w hSw; (try dsimp only at hSw); go_simp; try with_reducible rfl
  try simp only [Act.put, List.getElem_toArray, List.getElem_cons_succ, List.getElem_cons_zero, List.setIfInBounds_toArray, List.set_cons_zero, List.set_cons_succ]
  refine wpAnyH_take (i := 2) (v := ?_) rfl (by kernel_rfl) (by kernel_rfl) (by kernel_rfl) (fun _ _ _ h => h) (Or.inl ⟨by kernel_rfl, ?_⟩) (by assumption) ?_
  rotate_left
  · intro w hSw; (try dsimp only at hSw); go_simp; try with_reducible rfl
  try simp only [Act.put, List.getElem_toArray, List.getElem_cons_succ, List.getElem_cons_zero, List.setIfInBounds_toArray, List.set_cons_zero, List.set_cons_succ]
  refine wpAnyH_take (i := 3) (v := ?_) rfl (by kernel_rfl) (by kernel_rfl) (by kernel_rfl) (fun _ _ _ h => h) (Or.inl ⟨by kernel_rfl, ?_⟩) (by assumption) ?_
  rotate_left
  · intro w hSw; (try dsimp only at hSw); go_simp; try with_reducible rfl
  try simp only [Act.put, List.getElem_toArray, List.getElem_cons_succ, List.getElem_cons_zero, List.setIfInBounds_toArray, List.set_cons_zero, List.set_cons_succ]
  refine wpAnyH_take (i := 4) (v := ?_) rfl (by kernel_rfl) (by kernel_rfl) (by kernel_rfl) (fun _ _ _ h => h) (Or.inl ⟨by kernel_rfl, ?_⟩) (by assumption) ?_
  rotate_left
  · intro w hSw; (try dsimp only at hSw); go_simp; try with_reducible rfl
  try simp only [Act.put, List.getElem_toArray, List.getElem_cons_succ, List.getElem_cons_zero, List.setIfInBounds_toArray, List.set_cons_zero, List.set_cons_succ]
  refine wpAnyH_take (i := 5) (v := ?_) rfl (by kernel_rfl) (by kernel_rfl) (by kernel_rfl) (fun _ _ _ h => h) (Or.inl ⟨by kernel_rfl, ?_⟩) (by assumption) ?_
  rotate_left
  · intro w hSw; (try dsimp only at hSw); go_simp; try with_reducible rfl
  try simp only [Act.put, List.getElem_toArray, List.getElem_cons_succ, List.getElem_cons_zero, List.setIfInBounds_toArray, List.set_cons_zero, List.set_cons_succ]
  refine wpAnyH_take (i := 6) (v := ?_) rfl (by kernel_rfl) (by kernel_rfl) (by kernel_rfl) (fun _ _ _ h => h) (Or.inl ⟨by kernel_rfl, ?_⟩) (by assumption) ?_
  rotate_left
  · intro w hSw; (try dsimp only at hSw); go_simp; try with_reducible rfl
  try simp only [Act.put, List.getElem_toArray, List.getElem_cons_succ, List.getElem_cons_zero, List.setIfInBounds_toArray, List.set_cons_zero, List.set_cons_succ]
  refine wpAnyH_take (i := 7) (v := ?_) rfl (by kernel_rfl) (by kernel_rfl) (by kernel_rfl) (fun _ _ _ h => h) (Or.inl ⟨by kernel_rfl, ?_⟩) (by assumption) ?_
  rotate_left
  · intro w hSw; (try dsimp only at hSw); go_simp; try with_reducible rfl
  try simp only [Act.put, List.getElem_toArray, List.getElem_cons_succ, List.getElem_cons_zero, List.setIfInBounds_toArray, List.set_cons_zero, List.set_cons_succ]
  refine wpAnyH_take (i := 8) (v := ?_) rfl (by kernel_rfl) (by kernel_rfl) (by kernel_rfl) (fun _ _ _ h => h) (Or.inl ⟨by kernel_rfl, ?_⟩) (by assumption) ?_
  rotate_left
  · intro w hSw; (try dsimp only at hSw); go_simp; try with_reducible rfl
  try simp only [Act.put, List.getElem_toArray, List.getElem_cons_succ, List.getElem_cons_zero, List.setIfInBounds_toArray, List.set_cons_zero, List.set_cons_succ]
  refine wpAnyH_take (i := 9) (v := ?_) rfl (by kernel_rfl) (by kernel_rfl) (by kernel_rfl) (fun _ _ _ h => h) (Or.inl ⟨by kernel_rfl, ?_⟩) (by assumption) ?_
  rotate_left
  · intro w hSw; (try dsimp only at hSw); go_simp; try with_reducible rfl
  try simp only [Act.put, List.getElem_toArray, List.getElem_cons_succ, List.getElem_cons_zero, List.setIfInBounds_toArray, List.set_cons_zero, List.set_cons_succ]
  refine wpAnyH_take (i := 10) rfl (by kernel_rfl) (by kernel_rfl) (by kernel_rfl) (fun _ _ _ h => h) (yields_row (by kernel_rfl) 37 (.tmp 36) rfl g 0 34 (sdf 1 fun _ => 0) rfl _ (fun W h => h.2.2.2.2.2.1 0 (by omega)) Tryd.underlying37 rfl size37) (by assumption) ?_
  try simp only [Act.put, List.getElem_toArray, List.getElem_cons_succ, List.getElem_cons_zero, List.setIfInBounds_toArray, List.set_cons_zero, List.set_cons_succ]
  refine wpAnyH_take (i := 11) rfl (by kernel_rfl) (by kernel_rfl) (by kernel_rfl) (fun _ _ _ h => h) (yields_row (by kernel_rfl) 37 (.tmp 3) rfl (B + 1) 0 34 (sdf 2 fun _ => 0) rfl _ (fun W h => HB.out ▸ h.2.2.2.1.range) Tryd.underlying37 rfl size37) (by assumption) ?_
  try simp only [Act.put, List.getElem_toArray, List.getElem_cons_succ, List.getElem_cons_zero, List.setIfInBounds_toArray, List.set_cons_zero, List.set_cons_succ]
  refine wpAnyH_ready (rs := [12]) (by kernel_rfl) (by simp) ?_
  refine AllReadyH.cons rfl (fun K hK => ?_) AllReadyH.nil
  go_simp
  go_at_call 20
  refine (follows_any 1 2 (fun _ => 0) (fun _ => 0) (by omega) _).mono ?_
  rintro e w2 ⟨rfl, hb2⟩
  refine hK.out _ _ (PU.sl HB (PU.below hHeld.2 hb2)) (fun hHeld => ?_)
  clear hK K
  try simp only [Act.put, List.getElem_toArray, List.getElem_cons_succ, List.getElem_cons_zero, List.setIfInBounds_toArray, List.set_cons_zero, List.set_cons_succ]
  refine wpAnyH_take (i := 13) (v := ?_) rfl (by kernel_rfl) (by kernel_rfl) (by kernel_rfl) (fun _ _ _ h => h) (Or.inl ⟨by kernel_rfl, ?_⟩) (by assumption) ?_
  rotate_left
  · intro w hSw; (try dsimp only at hSw); go_simp; try with_reducible rfl
  try simp only [Act.put, List.getElem_toArray, List.getElem_cons_succ, List.getElem_cons_zero, List.setIfInBounds_toArray, List.set_cons_zero, List.set_cons_succ]
  refine wpAnyH_take (i := 14) (v := ?_) rfl (by kernel_rfl) (by kernel_rfl) (by kernel_rfl) (fun _ _ _ h => h) (Or.inl ⟨by kernel_rfl, ?_⟩) (by assumption) ?_
  rotate_left
  · intro w hSw; (try dsimp only at hSw); go_simp; try with_reducible rfl
  try simp only [Act.put, List.getElem_toArray, List.getElem_cons_succ, List.getElem_cons_zero, List.setIfInBounds_toArray, List.set_cons_zero, List.set_cons_succ]
  refine wpAnyH_take (i := 15) (v := ?_) rfl (by kernel_rfl) (by kernel_rfl) (by kernel_rfl) (fun _ _ _ h => h) (Or.inl ⟨by kernel_rfl, ?_⟩) (by assumption) ?_
  rotate_left
  · intro w hSw; (try dsimp only at hSw); go_simp; try with_reducible rfl
  try simp only [Act.put, List.getElem_toArray, List.getElem_cons_succ, List.getElem_cons_zero, List.setIfInBounds_toArray, List.set_cons_zero, List.set_cons_succ]
  refine wpAnyH_take (i := 16) (v := ?_) rfl (by kernel_rfl) (by kernel_rfl) (by kernel_rfl) (fun _ _ _ h => h) (Or.inl ⟨by kernel_rfl, ?_⟩) (by assumption) ?_
  rotate_left
  · intro w hSw; (try dsimp only at hSw); go_simp; try with_reducible rfl
  try simp only [Act.put, List.getElem_toArray, List.getElem_cons_succ, List.getElem_cons_zero, List.setIfInBounds_toArray, List.set_cons_zero, List.set_cons_succ]
  refine wpAnyH_take (i := 17) (v := ?_) rfl (by kernel_rfl) (by kernel_rfl) (by kernel_rfl) (fun _ _ _ h => h) (Or.inl ⟨by kernel_rfl, ?_⟩) (by assumption) ?_
  rotate_left
  · intro w hSw; (try dsimp only at hSw); go_simp; try with_reducible rfl
  try simp only [Act.put, List.getElem_toArray, List.getElem_cons_succ, List.getElem_cons_zero, List.setIfInBounds_toArray, List.set_cons_zero, List.set_cons_succ]
  refine wpAnyH_take (i := 18) (v := ?_) rfl (by kernel_rfl) (by kernel_rfl) (by kernel_rfl) (fun _ _ _ h => h) (Or.inl ⟨by kernel_rfl, ?_⟩) (by assumption) ?_
  rotate_left
  · intro w hSw; (try dsimp only at hSw); go_simp; try with_reducible rfl
  try simp only [Act.put, List.getElem_toArray, List.getElem_cons_succ, List.getElem_cons_zero, List.setIfInBounds_toArray, List.set_cons_zero, List.set_cons_succ]
  refine wpAnyH_take (i := 19) (v := ?_) rfl (by kernel_rfl) (by kernel_rfl) (by kernel_rfl) (fun _ _ _ h => h) (Or.inl ⟨by kernel_rfl, ?_⟩) (by assumption) ?_
  rotate_left
  · intro w hSw; (try dsimp only at hSw); go_simp; try with_reducible rfl
  try simp only [Act.put, List.getElem_toArray, List.getElem_cons_succ, List.getElem_cons_zero, List.setIfInBounds_toArray, List.set_cons_zero, List.set_cons_succ]
  refine wpAnyH_take (i := 20) (v := ?_) rfl (by kernel_rfl) (by kernel_rfl) (by kernel_rfl) (fun _ _ _ h => h) (Or.inl ⟨by kernel_rfl, ?_⟩) (by assumption) ?_
  rotate_left
  · intro w hSw; (try dsimp only at hSw); go_simp; try with_reducible rfl
  try simp only [Act.put, List.getElem_toArray, List.getElem_cons_succ, List.getElem_cons_zero, List.setIfInBounds_toArray, List.set_cons_zero, List.set_cons_succ]
  refine wpAnyH_take (i := 21) (v := ?_) rfl (by kernel_rfl) (by kernel_rfl) (by kernel_rfl) (fun _ _ _ h => h) (Or.inl ⟨by kernel_rfl, ?_⟩) (by assumption) ?_
  rotate_left
  · intro w hSw; (try dsimp only at hSw); go_simp; try with_reducible rfl
  try simp only [Act.put, List.getElem_toArray, List.getElem_cons_succ, List.getElem_cons_zero, List.setIfInBounds_toArray, List.set_cons_zero, List.set_cons_succ]
  refine wpAnyH_take (i := 22) (v := ?_) rfl (by kernel_rfl) (by kernel_rfl) (by kernel_rfl) (fun _ _ _ h => h) (Or.inl ⟨by kernel_rfl, ?_⟩) (by assumption) ?_
  rotate_left
  · intro w hSw; (try dsimp only at hSw); go_simp; try with_reducible rfl
  try simp only [Act.put, List.getElem_toArray, List.getElem_cons_succ, List.getElem_cons_zero, List.setIfInBounds_toArray, List.set_cons_zero, List.set_cons_succ]
  refine wpAnyH_take (i := 23) (v := undef) rfl (by kernel_rfl) (by kernel_rfl) (by kernel_rfl) (fun _ _ _ h => h) (Or.inr ⟨by kernel_rfl, rfl⟩) (by assumption) ?_
  try simp only [Act.put, List.getElem_toArray, List.getElem_cons_succ, List.getElem_cons_zero, List.setIfInBounds_toArray, List.set_cons_zero, List.set_cons_succ]
  refine wpAnyH_take (i := 24) (v := undef) rfl (by kernel_rfl) (by kernel_rfl) (by kernel_rfl) (fun _ _ _ h => h) (Or.inr ⟨by kernel_rfl, rfl⟩) (by assumption) ?_
  try simp only [Act.put, List.getElem_toArray, List.getElem_cons_succ, List.getElem_cons_zero, List.setIfInBounds_toArray, List.set_cons_zero, List.set_cons_succ]
  refine wpAnyH_take (i := 25) (v := undef) rfl (by kernel_rfl) (by kernel_rfl) (by kernel_rfl) (fun _ _ _ h => h) (Or.inr ⟨by kernel_rfl, rfl⟩) (by assumption) ?_
  try simp only [Act.put, List.getElem_toArray, List.getElem_cons_succ, List.getElem_cons_zero, List.setIfInBounds_toArray, List.set_cons_zero, List.set_cons_succ]
  refine wpAnyH_take (i := 26) (v := undef) rfl (by kernel_rfl) (by kernel_rfl) (by kernel_rfl) (fun _ _ _ h => h) (Or.inr ⟨by kernel_rfl, rfl⟩) (by assumption) ?_
  try simp only [Act.put, List.getElem_toArray, List.getElem_cons_succ, List.getElem_cons_zero, List.setIfInBounds_toArray, List.set_cons_zero, List.set_cons_succ]
  refine wpAnyH_take (i := 27) (v := undef) rfl (by kernel_rfl) (by kernel_rfl) (by kernel_rfl) (fun _ _ _ h => h) (Or.inr ⟨by kernel_rfl, rfl⟩) (by assumption) ?_
  try simp only [Act.put, List.getElem_toArray, List.getElem_cons_succ, List.getElem_cons_zero, List.setIfInBounds_toArray, List.set_cons_zero, List.set_cons_succ]
  refine wpAnyH_take (i := 28) (v := undef) rfl (by kernel_rfl) (by kernel_rfl) (by kernel_rfl) (fun _ _ _ h => h) (Or.inr ⟨by kernel_rfl, rfl⟩) (by assumption) ?_
  try simp only [Act.put, List.getElem_toArray, List.getElem_cons_succ, List.getElem_cons_zero, List.setIfInBounds_toArray, List.set_cons_zero, List.set_cons_succ]
  refine wpAnyH_take (i := 29) (v := undef) rfl (by kernel_rfl) (by kernel_rfl) (by kernel_rfl) (fun _ _ _ h => h) (Or.inr ⟨by kernel_rfl, rfl⟩) (by assumption) ?_
  try simp only [Act.put, List.getElem_toArray, List.getElem_cons_succ, List.getElem_cons_zero, List.setIfInBounds_toArray, List.set_cons_zero, List.set_cons_succ]
  refine wpAnyH_take (i := 30) (v := undef) rfl (by kernel_rfl) (by kernel_rfl) (by kernel_rfl) (fun _ _ _ h => h) (Or.inr ⟨by kernel_rfl, rfl⟩) (by assumption) ?_
  try simp only [Act.put, List.getElem_toArray, List.getElem_cons_succ, List.getElem_cons_zero, List.setIfInBounds_toArray, List.set_cons_zero, List.set_cons_succ]
  refine wpAnyH_take (i := 31) (v := ?_) rfl (by kernel_rfl) (by kernel_rfl) (by kernel_rfl) (fun _ _ _ h => h) (Or.inl ⟨by kernel_rfl, ?_⟩) (by assumption) ?_
  rotate_left
  · intro w hSw; (try dsimp only at hSw); go_simp; try with_reducible rfl
  try simp only [Act.put, List.getElem_toArray, List.getElem_cons_succ, List.getElem_cons_zero, List.setIfInBounds_toArray, List.set_cons_zero, List.set_cons_succ]
  refine wpAnyH_take (i := 32) (v := ?_) rfl (by kernel_rfl) (by kernel_rfl) (by kernel_rfl) (fun _ _ _ h => h) (Or.inl ⟨by kernel_rfl, ?_⟩) (by assumption) ?_
  rotate_left
  · intro w hSw; (try dsimp only at hSw); go_simp; try with_reducible rfl
  try simp only [Act.put, List.getElem_toArray, List.getElem_cons_succ, List.getElem_cons_zero, List.setIfInBounds_toArray, List.set_cons_zero, List.set_cons_succ]
  refine wpAnyH_take (i := 33) (v := ?_) rfl (by kernel_rfl) (by kernel_rfl) (by kernel_rfl) (fun _ _ _ h => h) (Or.inl ⟨by kernel_rfl, ?_⟩) (by assumption) ?_
  rotate_left
  · intro w hSw; (try dsimp only at hSw); go_simp; try with_reducible rfl
  try simp only [Act.put, List.getElem_toArray, List.getElem_cons_succ, List.getElem_cons_zero, List.setIfInBounds_toArray, List.set_cons_zero, List.set_cons_succ]
  refine wpAnyH_done (by kernel_rfl) ?_ _
  clear h0
  have h0 := hHeld.2
  clear hHeld
  go_wp2_with fail
  refine wp_region_held_drew (S := PX w) (by kernel_rfl) (PU.px (PU.next h0 (only_drew (only_refl _ _)))) (fun hHeld => ?_)
  replace h0 := PU.next h0 (only_drew (only_refl _ none))
  refine wpAnyH_take (i := 0) (v := ?_) rfl (by kernel_rfl) (by kernel_rfl) (by kernel_rfl) (fun _ _ _ h => h) (Or.inl ⟨by kernel_rfl, ?_⟩) (by assumption) ?_
  rotate_left
  · intro w hSw; (try dsimp only at hSw); go_simp; try with_reducible rfl
  try simp only [Act.put, List.getElem_toArray, List.getElem_cons_succ, List.getElem_cons_zero, List.setIfInBounds_toArray, List.set_cons_zero, List.set_cons_succ]
  refine wpAnyH_take (i := 3) (v := ?_) rfl (by kernel_rfl) (by kernel_rfl) (by kernel_rfl) (fun _ _ _ h => h) (Or.inl ⟨by kernel_rfl, ?_⟩) (by assumption) ?_
  rotate_left
  · intro w hSw; (try dsimp only at hSw); go_simp; try with_reducible rfl
  try simp only [Act.put, List.getElem_toArray, List.getElem_cons_succ, List.getElem_cons_zero, List.setIfInBounds_toArray, List.set_cons_zero, List.set_cons_succ]
  refine wpAnyH_take (i := 4) rfl (by kernel_rfl) (by kernel_rfl) (by kernel_rfl) (fun _ _ _ h => h) (yields_row (by kernel_rfl) 37 (.tmp 3) rfl (B + 1) 0 34 (sdf 2 fun _ => 0) rfl _ (fun W h => HB.out ▸ h.2.range) Tryd.underlying37 rfl size37) (by assumption) ?_
  try simp only [Act.put, List.getElem_toArray, List.getElem_cons_succ, List.getElem_cons_zero, List.setIfInBounds_toArray, List.set_cons_zero, List.set_cons_succ]
  refine wpAnyH_ready (rs := [1, 5]) (by kernel_rfl) (by simp) ?_
  refine AllReadyH.cons rfl (fun K hK => ?_) (AllReadyH.cons rfl (fun K hK => ?_) AllReadyH.nil)
  · have hc4 := (HB.out ▸ h0.2.1 : Blk _ B 24 5 (clf false g 1 cap)).cell (i := 4) (by omega)
    change _ = some (Value.slice (some ⟨g, 0, none⟩) 1 cap) at hc4
    go_simp
    refine hK.out _ _ (PU.px h0) (fun hHeld => ?_)
    clear hK K
    try simp only [Act.put, List.getElem_toArray, List.getElem_cons_succ, List.getElem_cons_zero, List.setIfInBounds_toArray, List.set_cons_zero, List.set_cons_succ]
    clear hc4
    refine wpAnyH_ready (rs := [2, 5]) (by kernel_rfl) (by simp) ?_
    refine AllReadyH.cons rfl (fun K hK => ?_) (AllReadyH.cons rfl (fun K hK => ?_) AllReadyH.nil)
    · go_simp
      go_at_call 26
      refine (clone_any g cap _ h0.2.2.2.2.1 h0.lt).mono ?_
      rintro e w2 ⟨v, rfl, hgr, hown0⟩
      obtain ⟨g1, cap1, rfl, hg1, _⟩ := own_slice hown0 (by omega)
      replace hown0 := own_mono (b' := w.heap.size + 3) hown0 h0.2.2.2.1.lt
      replace hg1 := Nat.le_trans h0.2.2.2.1.lt hg1
      replace h0 := PU.next h0 hgr
      have hown := hown0
      refine hK.out _ _ (PU.px h0) (fun hHeld => ?_)
      clear hK K
      try simp only [Act.put, List.getElem_toArray, List.getElem_cons_succ, List.getElem_cons_zero, List.setIfInBounds_toArray, List.set_cons_zero, List.set_cons_succ]
      clear hown0
      refine wpAnyH_ready (rs := [5]) (by kernel_rfl) (by simp) ?_
      refine AllReadyH.cons rfl (fun K hK => ?_) AllReadyH.nil
      rw [if_pos (by kernel_rfl)]
      refine opw_slice34' (.tmp 66) rfl _ rfl fun q W1 hgr hqN hqE => ?_
      clear hqE
      replace h0 := PU.next h0 hgr
      replace hown := World.ownsRow.kept hown hgr (by simp [Value.ownBlock])
      have hq := hqN
      refine hK.out _ _ (PU.px h0) (fun hHeld => ?_)
      clear hK K
      try simp only [Act.put, List.getElem_toArray, List.getElem_cons_succ, List.getElem_cons_zero, List.setIfInBounds_toArray, List.set_cons_zero, List.set_cons_succ]
      clear hqN
      refine wpAnyH_ready (rs := [6]) (by kernel_rfl) (by simp) ?_
      refine AllReadyH.cons rfl (fun K hK => ?_) AllReadyH.nil
      go_simp
      go_at_call 25
      refine (insert_any (w.heap.size + 3) g1 cap1 q _ (Row 34 (sdf 1 fun _ => 0)).toList (Row 34 (sdf 2 fun _ => 0)).toList h0.2.2.2.1.lt hown (len34 _) (fun j u hu => by rw [Addr.add_lit]; exact hq.range j u hu) (sdf_list_one _ _)).mono ?_
      rintro e w3 ⟨v2, rfl, hgr2, hown2⟩
      replace h0 := PU.nextRow h0 hgr2 hg1
      obtain ⟨g2, cap2, rfl, hg2, hlt2, hcap2, hcs⟩ := own_slice hown2 (by omega)
      refine hK.out _ _ (PU.px h0) (fun hHeld => ?_)
      clear hK K
      try simp only [Act.put, List.getElem_toArray, List.getElem_cons_succ, List.getElem_cons_zero, List.setIfInBounds_toArray, List.set_cons_zero, List.set_cons_succ]
      refine wpAnyH_take (i := 7) (v := ?_) rfl (by kernel_rfl) (by kernel_rfl) (by kernel_rfl) (fun _ _ _ h => h) (Or.inl ⟨by kernel_rfl, ?_⟩) (by assumption) ?_
      rotate_left
      · intro w hSw; (try dsimp only at hSw); go_simp; try with_reducible rfl
      try simp only [Act.put, List.getElem_toArray, List.getElem_cons_succ, List.getElem_cons_zero, List.setIfInBounds_toArray, List.set_cons_zero, List.set_cons_succ]
      have hs2 := SS_two hcs
      clear hcs hown2 hown hq hgr2
      have hc := (HB.out ▸ h0.2.1 : Blk _ B 24 5 (clf false g 1 cap))
      have hc4 := hc.cell (i := 4) (by omega)
      change _ = some (Value.slice (some ⟨g, 0, none⟩) 1 cap) at hc4
      have hf4 := hc.free 4
      refine wpAnyH_ready (rs := [8]) (by kernel_rfl) (by simp) ?_
      refine AllReadyH.cons rfl (fun K hK => ?_) AllReadyH.nil
      go_simp
      have hB1 : w.heap.size ≤ B := by rw [HB.out]; exact Nat.le_refl _
      have hfin := only_setCell h0.1 (p := ⟨B, 4, none⟩) (.inr hB1) (Value.slice (some ⟨g2, 0, none⟩) 2 cap2)
      have hc' := (hc.set_ 4 (Value.slice (some ⟨g2, 0, none⟩) 2 cap2)).congr (g' := clf false g2 2 cap2) (fun i hi => by match i, hi with | 0, _ => rfl | 1, _ => rfl | 2, _ => rfl | 3, _ => rfl | 4, _ => rfl)
      have hz' := (HB.out ▸ h0.2.2.2.1 : Blk _ (B + 2) 24 5 zcl).far (p := ⟨B, 4, none⟩) (by simp) (Value.slice (some ⟨g2, 0, none⟩) 2 cap2)
      have hx' := h0.2.2.1.far (p := ⟨B, 4, none⟩) (by have := HB.out; simp; omega) (Value.slice (some ⟨g2, 0, none⟩) 2 cap2)
      have hs' := SS_set hs2 (p := ⟨B, 4, none⟩) (by have := HB.out; simp; omega) (Value.slice (some ⟨g2, 0, none⟩) 2 cap2)
      have hl' : g2 < (World.setCell _ ⟨B, 4, none⟩ (Value.slice (some ⟨g2, 0, none⟩) 2 cap2)).heap.size := Nat.lt_of_lt_of_le hlt2 (only_setCell (only_refl _ (some B)) (p := ⟨B, 4, none⟩) (.inl rfl) _).size
      clear hs2 hlt2 h0 hc hc4 hf4
      generalize World.setCell _ _ _ = W5 at *
      refine hK.out _ _ ⟨hfin, hx'⟩ (fun hHeld => ?_)
      clear hK K
      try simp only [Act.put, List.getElem_toArray, List.getElem_cons_succ, List.getElem_cons_zero, List.setIfInBounds_toArray, List.set_cons_zero, List.set_cons_succ]
      refine wpAnyH_done (by kernel_rfl) ?_ _
      have c4 := hc'.cell (i := 4) (by omega)
      change _ = some (Value.slice (some ⟨g2, 0, none⟩) 2 cap2) at c4
      have f4 := hc'.free 4
      have hcap3 : (2 : Int) ≤ (cap2 : Int) := by omega
      have hc2 := (hc'.set_ 4 (Value.slice (some ⟨g2, 0, none⟩) 2 cap2)).congr (g' := clf false g2 2 cap2) (fun i hi => by match i, hi with | 0, _ => rfl | 1, _ => rfl | 2, _ => rfl | 3, _ => rfl | 4, _ => rfl)
      have hz2 := hz'.far (p := ⟨B, 4, none⟩) (by simp) (Value.slice (some ⟨g2, 0, none⟩) 2 cap2)
      have hs2 := SS_set hs' (p := ⟨B, 4, none⟩) (by have := HB.out; simp; omega) (Value.slice (some ⟨g2, 0, none⟩) 2 cap2)
      have hfin2 := only_setCell hfin (p := ⟨B, 4, none⟩) (.inr hB1) (Value.slice (some ⟨g2, 0, none⟩) 2 cap2)
      have hl2 : g2 < (World.setCell W5 ⟨B, 4, none⟩ (Value.slice (some ⟨g2, 0, none⟩) 2 cap2)).heap.size := Nat.lt_of_lt_of_le hl' (only_setCell (only_refl _ (some B)) (p := ⟨B, 4, none⟩) (.inl rfl) _).size
      have HF := Lib.hid (And.intro hfin2 (And.intro hs2 hl2))
      clear hHeld hc' hz' hs' hfin hl' hx' hs2 hfin2 hl2
      go_wp2_with (first
        | (refine wpList_load_blk rfl 24 (.tmp 2) rfl B 24 5 (clf false g2 2 cap2) rfl hc2 _ Tryd.underlying24 rfl size24 ?_)
        | (refine wpList_store_blk rfl 24 (.tmp 4) (.tmp 79) rfl (B + 2) 24 5 zcl (clf false g2 2 cap2) _ rfl rfl rfl hz2 size24 (fun i _ => clf_one _ _ _ _ i) ?_))
      obtain ⟨hfin2, hs2, hl2⟩ := HF.out
      refine bodyPost_ret (results_blk rfl _ _ (B + 2) 24 5 (clf false g2 2 cap2) rfl (hz2.setRow_ _) _ Tryd.underlying24 rfl size24) rfl ⟨g2, cap2, by rw [← cl_row], below_of_only (only_setRow hfin2 (.inr (by omega)) _), SS_setRow hs2 (by have := HB.out; omega) _, by omega, by rw [setRow_size]; exact hl2⟩
    · rw [if_pos (by kernel_rfl)]
      refine opw_slice34' (.tmp 66) rfl _ rfl fun q W1 hgr hqN hqE => ?_
      clear hqE
      replace h0 := PU.next h0 hgr
      have hq := hqN
      refine hK.out _ _ (PU.px h0) (fun hHeld => ?_)
      clear hK K
      try simp only [Act.put, List.getElem_toArray, List.getElem_cons_succ, List.getElem_cons_zero, List.setIfInBounds_toArray, List.set_cons_zero, List.set_cons_succ]
      clear hqN
      refine wpAnyH_ready (rs := [2]) (by kernel_rfl) (by simp) ?_
      refine AllReadyH.cons rfl (fun K hK => ?_) AllReadyH.nil
      go_simp
      go_at_call 26
      refine (clone_any g cap _ h0.2.2.2.2.1 h0.lt).mono ?_
      rintro e w2 ⟨v, rfl, hgr, hown0⟩
      obtain ⟨g1, cap1, rfl, hg1, _⟩ := own_slice hown0 (by omega)
      replace hown0 := own_mono (b' := w.heap.size + 3) hown0 h0.2.2.2.1.lt
      replace hg1 := Nat.le_trans h0.2.2.2.1.lt hg1
      replace h0 := PU.next h0 hgr
      replace hq := hq.grown hgr (by simp)
      have hown := hown0
      refine hK.out _ _ (PU.px h0) (fun hHeld => ?_)
      clear hK K
      try simp only [Act.put, List.getElem_toArray, List.getElem_cons_succ, List.getElem_cons_zero, List.setIfInBounds_toArray, List.set_cons_zero, List.set_cons_succ]
      clear hown0
      refine wpAnyH_ready (rs := [6]) (by kernel_rfl) (by simp) ?_
      refine AllReadyH.cons rfl (fun K hK => ?_) AllReadyH.nil
      go_simp
      go_at_call 25
      refine (insert_any (w.heap.size + 3) g1 cap1 q _ (Row 34 (sdf 1 fun _ => 0)).toList (Row 34 (sdf 2 fun _ => 0)).toList h0.2.2.2.1.lt hown (len34 _) (fun j u hu => by rw [Addr.add_lit]; exact hq.range j u hu) (sdf_list_one _ _)).mono ?_
      rintro e w3 ⟨v2, rfl, hgr2, hown2⟩
      replace h0 := PU.nextRow h0 hgr2 hg1
      obtain ⟨g2, cap2, rfl, hg2, hlt2, hcap2, hcs⟩ := own_slice hown2 (by omega)
      refine hK.out _ _ (PU.px h0) (fun hHeld => ?_)
      clear hK K
      try simp only [Act.put, List.getElem_toArray, List.getElem_cons_succ, List.getElem_cons_zero, List.setIfInBounds_toArray, List.set_cons_zero, List.set_cons_succ]
      refine wpAnyH_take (i := 7) (v := ?_) rfl (by kernel_rfl) (by kernel_rfl) (by kernel_rfl) (fun _ _ _ h => h) (Or.inl ⟨by kernel_rfl, ?_⟩) (by assumption) ?_
      rotate_left
      · intro w hSw; (try dsimp only at hSw); go_simp; try with_reducible rfl
      try simp only [Act.put, List.getElem_toArray, List.getElem_cons_succ, List.getElem_cons_zero, List.setIfInBounds_toArray, List.set_cons_zero, List.set_cons_succ]
      have hs2 := SS_two hcs
      clear hcs hown2 hown hq hgr2
      have hc := (HB.out ▸ h0.2.1 : Blk _ B 24 5 (clf false g 1 cap))
      have hc4 := hc.cell (i := 4) (by omega)
      change _ = some (Value.slice (some ⟨g, 0, none⟩) 1 cap) at hc4
      have hf4 := hc.free 4
      refine wpAnyH_ready (rs := [8]) (by kernel_rfl) (by simp) ?_
      refine AllReadyH.cons rfl (fun K hK => ?_) AllReadyH.nil
      go_simp
      have hB1 : w.heap.size ≤ B := by rw [HB.out]; exact Nat.le_refl _
      have hfin := only_setCell h0.1 (p := ⟨B, 4, none⟩) (.inr hB1) (Value.slice (some ⟨g2, 0, none⟩) 2 cap2)
      have hc' := (hc.set_ 4 (Value.slice (some ⟨g2, 0, none⟩) 2 cap2)).congr (g' := clf false g2 2 cap2) (fun i hi => by match i, hi with | 0, _ => rfl | 1, _ => rfl | 2, _ => rfl | 3, _ => rfl | 4, _ => rfl)
      have hz' := (HB.out ▸ h0.2.2.2.1 : Blk _ (B + 2) 24 5 zcl).far (p := ⟨B, 4, none⟩) (by simp) (Value.slice (some ⟨g2, 0, none⟩) 2 cap2)
      have hx' := h0.2.2.1.far (p := ⟨B, 4, none⟩) (by have := HB.out; simp; omega) (Value.slice (some ⟨g2, 0, none⟩) 2 cap2)
      have hs' := SS_set hs2 (p := ⟨B, 4, none⟩) (by have := HB.out; simp; omega) (Value.slice (some ⟨g2, 0, none⟩) 2 cap2)
      have hl' : g2 < (World.setCell _ ⟨B, 4, none⟩ (Value.slice (some ⟨g2, 0, none⟩) 2 cap2)).heap.size := Nat.lt_of_lt_of_le hlt2 (only_setCell (only_refl _ (some B)) (p := ⟨B, 4, none⟩) (.inl rfl) _).size
      clear hs2 hlt2 h0 hc hc4 hf4
      generalize World.setCell _ _ _ = W5 at *
      refine hK.out _ _ ⟨hfin, hx'⟩ (fun hHeld => ?_)
      clear hK K
      try simp only [Act.put, List.getElem_toArray, List.getElem_cons_succ, List.getElem_cons_zero, List.setIfInBounds_toArray, List.set_cons_zero, List.set_cons_succ]
      refine wpAnyH_done (by kernel_rfl) ?_ _
      have c4 := hc'.cell (i := 4) (by omega)
      change _ = some (Value.slice (some ⟨g2, 0, none⟩) 2 cap2) at c4
      have f4 := hc'.free 4
      have hcap3 : (2 : Int) ≤ (cap2 : Int) := by omega
      have hc2 := (hc'.set_ 4 (Value.slice (some ⟨g2, 0, none⟩) 2 cap2)).congr (g' := clf false g2 2 cap2) (fun i hi => by match i, hi with | 0, _ => rfl | 1, _ => rfl | 2, _ => rfl | 3, _ => rfl | 4, _ => rfl)
      have hz2 := hz'.far (p := ⟨B, 4, none⟩) (by simp) (Value.slice (some ⟨g2, 0, none⟩) 2 cap2)
      have hs2 := SS_set hs' (p := ⟨B, 4, none⟩) (by have := HB.out; simp; omega) (Value.slice (some ⟨g2, 0, none⟩) 2 cap2)
      have hfin2 := only_setCell hfin (p := ⟨B, 4, none⟩) (.inr hB1) (Value.slice (some ⟨g2, 0, none⟩) 2 cap2)
      have hl2 : g2 < (World.setCell W5 ⟨B, 4, none⟩ (Value.slice (some ⟨g2, 0, none⟩) 2 cap2)).heap.size := Nat.lt_of_lt_of_le hl' (only_setCell (only_refl _ (some B)) (p := ⟨B, 4, none⟩) (.inl rfl) _).size
      have HF := Lib.hid (And.intro hfin2 (And.intro hs2 hl2))
      clear hHeld hc' hz' hs' hfin hl' hx' hs2 hfin2 hl2
      go_wp2_with (first
        | (refine wpList_load_blk rfl 24 (.tmp 2) rfl B 24 5 (clf false g2 2 cap2) rfl hc2 _ Tryd.underlying24 rfl size24 ?_)
        | (refine wpList_store_blk rfl 24 (.tmp 4) (.tmp 79) rfl (B + 2) 24 5 zcl (clf false g2 2 cap2) _ rfl rfl rfl hz2 size24 (fun i _ => clf_one _ _ _ _ i) ?_))
      obtain ⟨hfin2, hs2, hl2⟩ := HF.out
      refine bodyPost_ret (results_blk rfl _ _ (B + 2) 24 5 (clf false g2 2 cap2) rfl (hz2.setRow_ _) _ Tryd.underlying24 rfl size24) rfl ⟨g2, cap2, by rw [← cl_row], below_of_only (only_setRow hfin2 (.inr (by omega)) _), SS_setRow hs2 (by have := HB.out; omega) _, by omega, by rw [setRow_size]; exact hl2⟩
  · rw [if_pos (by kernel_rfl)]
    refine opw_slice34' (.tmp 66) rfl _ rfl fun q W1 hgr hqN hqE => ?_
    clear hqE
    replace h0 := PU.next h0 hgr
    have hq := hqN
    refine hK.out _ _ (PU.px h0) (fun hHeld => ?_)
    clear hK K
    try simp only [Act.put, List.getElem_toArray, List.getElem_cons_succ, List.getElem_cons_zero, List.setIfInBounds_toArray, List.set_cons_zero, List.set_cons_succ]
    clear hqN
    refine wpAnyH_ready (rs := [1]) (by kernel_rfl) (by simp) ?_
    refine AllReadyH.cons rfl (fun K hK => ?_) AllReadyH.nil
    have hc4 := (HB.out ▸ h0.2.1 : Blk _ B 24 5 (clf false g 1 cap)).cell (i := 4) (by omega)
    change _ = some (Value.slice (some ⟨g, 0, none⟩) 1 cap) at hc4
    go_simp
    refine hK.out _ _ (PU.px h0) (fun hHeld => ?_)
    clear hK K
    try simp only [Act.put, List.getElem_toArray, List.getElem_cons_succ, List.getElem_cons_zero, List.setIfInBounds_toArray, List.set_cons_zero, List.set_cons_succ]
    clear hc4
    refine wpAnyH_ready (rs := [2]) (by kernel_rfl) (by simp) ?_
    refine AllReadyH.cons rfl (fun K hK => ?_) AllReadyH.nil
    go_simp
    go_at_call 26
    refine (clone_any g cap _ h0.2.2.2.2.1 h0.lt).mono ?_
    rintro e w2 ⟨v, rfl, hgr, hown0⟩
    obtain ⟨g1, cap1, rfl, hg1, _⟩ := own_slice hown0 (by omega)
    replace hown0 := own_mono (b' := w.heap.size + 3) hown0 h0.2.2.2.1.lt
    replace hg1 := Nat.le_trans h0.2.2.2.1.lt hg1
    replace h0 := PU.next h0 hgr
    replace hq := hq.grown hgr (by simp)
    have hown := hown0
    refine hK.out _ _ (PU.px h0) (fun hHeld => ?_)
    clear hK K
    try simp only [Act.put, List.getElem_toArray, List.getElem_cons_succ, List.getElem_cons_zero, List.setIfInBounds_toArray, List.set_cons_zero, List.set_cons_succ]
    clear hown0
    refine wpAnyH_ready (rs := [6]) (by kernel_rfl) (by simp) ?_
    refine AllReadyH.cons rfl (fun K hK => ?_) AllReadyH.nil
    go_simp
    go_at_call 25
    refine (insert_any (w.heap.size + 3) g1 cap1 q _ (Row 34 (sdf 1 fun _ => 0)).toList (Row 34 (sdf 2 fun _ => 0)).toList h0.2.2.2.1.lt hown (len34 _) (fun j u hu => by rw [Addr.add_lit]; exact hq.range j u hu) (sdf_list_one _ _)).mono ?_
    rintro e w3 ⟨v2, rfl, hgr2, hown2⟩
    replace h0 := PU.nextRow h0 hgr2 hg1
    obtain ⟨g2, cap2, rfl, hg2, hlt2, hcap2, hcs⟩ := own_slice hown2 (by omega)
    refine hK.out _ _ (PU.px h0) (fun hHeld => ?_)
    clear hK K
    try simp only [Act.put, List.getElem_toArray, List.getElem_cons_succ, List.getElem_cons_zero, List.setIfInBounds_toArray, List.set_cons_zero, List.set_cons_succ]
    refine wpAnyH_take (i := 7) (v := ?_) rfl (by kernel_rfl) (by kernel_rfl) (by kernel_rfl) (fun _ _ _ h => h) (Or.inl ⟨by kernel_rfl, ?_⟩) (by assumption) ?_
    rotate_left
    · intro w hSw; (try dsimp only at hSw); go_simp; try with_reducible rfl
    try simp only [Act.put, List.getElem_toArray, List.getElem_cons_succ, List.getElem_cons_zero, List.setIfInBounds_toArray, List.set_cons_zero, List.set_cons_succ]
    have hs2 := SS_two hcs
    clear hcs hown2 hown hq hgr2
    have hc := (HB.out ▸ h0.2.1 : Blk _ B 24 5 (clf false g 1 cap))
    have hc4 := hc.cell (i := 4) (by omega)
    change _ = some (Value.slice (some ⟨g, 0, none⟩) 1 cap) at hc4
    have hf4 := hc.free 4
    refine wpAnyH_ready (rs := [8]) (by kernel_rfl) (by simp) ?_
    refine AllReadyH.cons rfl (fun K hK => ?_) AllReadyH.nil
    go_simp
    have hB1 : w.heap.size ≤ B := by rw [HB.out]; exact Nat.le_refl _
    have hfin := only_setCell h0.1 (p := ⟨B, 4, none⟩) (.inr hB1) (Value.slice (some ⟨g2, 0, none⟩) 2 cap2)
    have hc' := (hc.set_ 4 (Value.slice (some ⟨g2, 0, none⟩) 2 cap2)).congr (g' := clf false g2 2 cap2) (fun i hi => by match i, hi with | 0, _ => rfl | 1, _ => rfl | 2, _ => rfl | 3, _ => rfl | 4, _ => rfl)
    have hz' := (HB.out ▸ h0.2.2.2.1 : Blk _ (B + 2) 24 5 zcl).far (p := ⟨B, 4, none⟩) (by simp) (Value.slice (some ⟨g2, 0, none⟩) 2 cap2)
    have hx' := h0.2.2.1.far (p := ⟨B, 4, none⟩) (by have := HB.out; simp; omega) (Value.slice (some ⟨g2, 0, none⟩) 2 cap2)
    have hs' := SS_set hs2 (p := ⟨B, 4, none⟩) (by have := HB.out; simp; omega) (Value.slice (some ⟨g2, 0, none⟩) 2 cap2)
    have hl' : g2 < (World.setCell _ ⟨B, 4, none⟩ (Value.slice (some ⟨g2, 0, none⟩) 2 cap2)).heap.size := Nat.lt_of_lt_of_le hlt2 (only_setCell (only_refl _ (some B)) (p := ⟨B, 4, none⟩) (.inl rfl) _).size
    clear hs2 hlt2 h0 hc hc4 hf4
    generalize World.setCell _ _ _ = W5 at *
    refine hK.out _ _ ⟨hfin, hx'⟩ (fun hHeld => ?_)
    clear hK K
    try simp only [Act.put, List.getElem_toArray, List.getElem_cons_succ, List.getElem_cons_zero, List.setIfInBounds_toArray, List.set_cons_zero, List.set_cons_succ]
    refine wpAnyH_done (by kernel_rfl) ?_ _
    have c4 := hc'.cell (i := 4) (by omega)
    change _ = some (Value.slice (some ⟨g2, 0, none⟩) 2 cap2) at c4
    have f4 := hc'.free 4
    have hcap3 : (2 : Int) ≤ (cap2 : Int) := by omega
    have hc2 := (hc'.set_ 4 (Value.slice (some ⟨g2, 0, none⟩) 2 cap2)).congr (g' := clf false g2 2 cap2) (fun i hi => by match i, hi with | 0, _ => rfl | 1, _ => rfl | 2, _ => rfl | 3, _ => rfl | 4, _ => rfl)
    have hz2 := hz'.far (p := ⟨B, 4, none⟩) (by simp) (Value.slice (some ⟨g2, 0, none⟩) 2 cap2)
    have hs2 := SS_set hs' (p := ⟨B, 4, none⟩) (by have := HB.out; simp; omega) (Value.slice (some ⟨g2, 0, none⟩) 2 cap2)
    have hfin2 := only_setCell hfin (p := ⟨B, 4, none⟩) (.inr hB1) (Value.slice (some ⟨g2, 0, none⟩) 2 cap2)
    have hl2 : g2 < (World.setCell W5 ⟨B, 4, none⟩ (Value.slice (some ⟨g2, 0, none⟩) 2 cap2)).heap.size := Nat.lt_of_lt_of_le hl' (only_setCell (only_refl _ (some B)) (p := ⟨B, 4, none⟩) (.inl rfl) _).size
    have HF := Lib.hid (And.intro hfin2 (And.intro hs2 hl2))
    clear hHeld hc' hz' hs' hfin hl' hx' hs2 hfin2 hl2
    go_wp2_with (first
      | (refine wpList_load_blk rfl 24 (.tmp 2) rfl B 24 5 (clf false g2 2 cap2) rfl hc2 _ Tryd.underlying24 rfl size24 ?_)
      | (refine wpList_store_blk rfl 24 (.tmp 4) (.tmp 79) rfl (B + 2) 24 5 zcl (clf false g2 2 cap2) _ rfl rfl rfl hz2 size24 (fun i _ => clf_one _ _ _ _ i) ?_))
    obtain ⟨hfin2, hs2, hl2⟩ := HF.out
    refine bodyPost_ret (results_blk rfl _ _ (B + 2) 24 5 (clf false g2 2 cap2) rfl (hz2.setRow_ _) _ Tryd.underlying24 rfl size24) rfl ⟨g2, cap2, by rw [← cl_row], below_of_only (only_setRow hfin2 (.inr (by omega)) _), SS_setRow hs2 (by have := HB.out; omega) _, by omega, by rw [setRow_size]; exact hl2⟩
end Go.Proofs.YtlfcaagogeclpaaDoor
