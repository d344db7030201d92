/-
  client.may of the example's client with one state.
-/
import Derived.Test.YtlfcaagogeclpaaDoorJ3
import Derived.Scope
set_option linter.unusedSimpArgs false
set_option linter.unusedVariables false
namespace Go.Proofs.YtlfcaagogeclpaaDoor
open Go.RowKit
theorem row34 (f : Nat → Value) : #[f 0, f 1, f 2, f 3, f 4, f 5, f 6, f 7, f 8, f 9, f 10, f 11, f 12, f 13, f 14, f 15, f 16, f 17, f 18, f 19, f 20, f 21, f 22, f 23, f 24, f 25, f 26, f 27, f 28, f 29, f 30, f 31, f 32, f 33] = Row 34 f := by kernel_rfl
theorem row35 (f : Nat → Value) : #[f 0, f 1, f 2, f 3, f 4, f 5, f 6, f 7, f 8, f 9, f 10, f 11, f 12, f 13, f 14, f 15, f 16, f 17, f 18, f 19, f 20, f 21, f 22, f 23, f 24, f 25, f 26, f 27, f 28, f 29, f 30, f 31, f 32, f 33, f 34] = Row 35 f := by kernel_rfl
theorem header19_ex (ht : Int) (rt : Nat → BitVec 8) (f : Nat → Value) (hf : f = sdf ht rt) (w : World) : Calls Tryd.prog 19 #[.string ⟨#[97]⟩, .agg #[f 0, f 1, f 2, f 3, f 4, f 5, f 6, f 7, f 8, f 9, f 10, f 11, f 12, f 13, f 14, f 15, f 16, f 17, f 18, f 19, f 20, f 21, f 22, f 23, f 24, f 25, f 26, f 27, f 28, f 29, f 30, f 31, f 32, f 33]] w fun e w' => e = .returned (.agg (Row 35 (hdf ht rt))) ∧ Below w.heap.size w w' := by
  rw [row34 f, hf]; exact header19_any ht rt w
theorem Blk.range {w : World} {b t n : Nat} {g : Nat → Value} (h : Blk w b t n g) : w.rangeAt b 0 (Row n g).toList := fun j v hv => by
  rw [Array.getElem?_toList] at hv
  by_cases hj : j < n
  · rw [Row_get hj] at hv
    injection hv with hv
    subst hv
    rw [Nat.zero_add]; exact h.cell hj
  · rw [Row_get_none (by omega)] at hv; cases hv
theorem SS_setRow {w : World} {g n b : Nat} (h : SS w g n) (hne : g ≠ b) (cs : Array Value) : SS (w.setRow b cs) g n := fun j hj i v hv => by
  rw [cell_of_heap (setRow_other w b g cs hne)]; exact h j hj i v hv
def HM (w : World) (B X : Nat) (g : Nat) (W : World) : Prop := HA w B false g 1 1 W ∧ Blk W X 37 34 (sdf 1 fun _ => 0)
theorem HM.next {w : World} {B X g : Nat} {W W2 : World} (h : HM w B X g W) (hb : W.grownBy W2 none) : HM w B X g W2 := ⟨h.1.next hb, h.2.grown hb (by simp)⟩
theorem HM.next2 {w : World} {B X g : Nat} {W W2 : World} (hb : Below W.heap.size W W2) (h : HM w B X g W) : HM w B X g W2 := h.next (only_of_below hb none)
theorem HM.facts {w : World} {B X g : Nat} {W : World} (h : HM w B X g W) : W.cell? ⟨B, 0, none⟩ = some (.string ⟨#[97]⟩) ∧ (∀ i, i < 34 → W.cell? ⟨X, i, none⟩ = some (sdf 1 (fun _ => 0) i)) ∧ HM w B X g W :=
  ⟨h.1.1.cell (by omega), fun i hi => h.2.cell hi, h⟩
theorem of3 {A B C : Prop} (h : A ∧ B ∧ C) : C := h.2.2
theorem len34 (g : Nat → Value) : (Row 34 g).toList.length = 34 := by rw [Array.length_toList, Row_size]
theorem yields_row {P : Program} {ops : Array Oper} {S : World → Prop} {op : Oper} {a : Act} (hw : Region.wanted op (yielded ops a.tmps) = true) (ty : TypeId) (x : Operand) (ho : op.op = .load ty x)
    (b o n : Nat) (g : Nat → Value) (hx : a.eval x = .pointer (some ⟨b, o, none⟩)) (d : TypeDesc) (hS : ∀ w, S w → w.rangeAt b o (Row n g).toList)
    (hu : P.underlying ty = some d) (hd : d.isRow = true) (hi : (P.info? ty).map (·.size) = some n) : YieldsIf P ops S op (.agg (Row n g)) a := by
  have h := yieldsIf_load_mid hw ty x ho b o hx (Row n g).toList d hS hu hd (by rw [Array.length_toList, Row_size]; exact hi)
  have e : (Row n g).toList.toArray = Row n g := Array.toArray_toList
  rw [e] at h
  exact h
theorem HM.facts2 {w : World} {B X : Nat} {g : Nat} {W : World} (h : HM w B X g W) : W.cell? ⟨B, 0, none⟩ = some (.string ⟨#[97]⟩) ∧ HM w B X g W := ⟨h.1.1.cell (by omega), h⟩
set_option maxRecDepth 100000 in
set_option maxHeartbeats 8000000 in
theorem may_any (g : Nat) (w : World) (hs : SS w g 1) (hg : g < w.heap.size) : Calls Tryd.prog 12 #[cl false g 1 1] w fun e w' => e = .returned (.bool true) ∧ Below w.heap.size w w' := by
  have h0 : HA w w.heap.size false g 1 1 (w.alloc (.cells #[Value.string ⟨#[97]⟩, Value.string ⟨#[107]⟩, Value.int .i64 10, Value.bool false, Value.slice (some ⟨g, 0, none⟩) 1 1] 24)) :=
    ⟨Blk.new w 24 (cl_row false g 1 1), hs.next hg (only_alloc (only_refl _ _) _), by simp; omega, only_alloc (only_refl _ _) _⟩
  have hw0 := only_alloc (only_refl (w.alloc (.cells #[Value.string ⟨#[97]⟩, Value.string ⟨#[107]⟩, Value.int .i64 10, Value.bool false, Value.slice (some ⟨g, 0, none⟩) 1 1] 24)) none) (.cells (Row 34 (sdf 0 fun _ => 0)) 37)
  have hX := Blk.new (w.alloc (.cells #[Value.string ⟨#[97]⟩, Value.string ⟨#[107]⟩, Value.int .i64 10, Value.bool false, Value.slice (some ⟨g, 0, none⟩) 1 1] 24)) 37 zeros34
  rw [← zeros34] at hw0
  rw [World.size_alloc] at hX
  have RG := Lib.hid (h0.2.1 0 (by omega))
  have HX := Lib.hid hX
  have h1 := h0.next hw0
  have H1 := Lib.hid h1
  have hu := Tryd.underlying37
  have hi37 : (Tryd.prog.info? 37).map (·.size) = some (Row 34 (sdf 1 fun _ => 0)).toList.length := by rw [len34]; exact size37
  obtain ⟨k0, k1, k2, k3, k4, _⟩ := h0.facts
  clear h0 hw0 hX h1 hs
  unfold cl
  go_enter Tryd.func12, Tryd.ntmps12
  go_wp2_with fail
  refine wp_scope_straight ?_
  go_wp2_with fail
  refine wp_label ?_
  go_wp2_with fail
  refine wp_loop_rounds 2 ?_
  rw [rounds_succ]
  go_wp2_with (first
    | (refine wpList_load_range rfl 37 (.tmp 38) rfl g 0 34 (sdf 1 fun _ => 0) rfl RG.out _ Tryd.underlying37 rfl size37 ?_)
    | (refine wpList_store_blk rfl 37 (.tmp 5) (.tmp 39) rfl (w.heap.size + 1) 37 34 _ (sdf 1 fun _ => 0) _ rfl rfl rfl HX.out size37 (fun i _ => sdf_one _ _ i) ?_))
  have hm : HM w w.heap.size (w.heap.size + 1) g _ := ⟨⟨H1.out.1.setRow_far (by omega) (Row 34 (sdf 1 fun _ => 0)), SS_setRow H1.out.2.1 (by omega) _, by rw [setRow_size]; exact H1.out.2.2.1, only_setRow H1.out.2.2.2 (.inr (Nat.le_succ _)) _⟩, HX.out.setRow_ (n' := 34) (sdf 1 fun _ => 0)⟩
  clear H1 HX RG k0 k1 k2 k3 k4
  generalize World.setRow _ _ _ = W at hm ⊢
  generalize hB : w.heap.size = B at hm ⊢
  refine wp_region_held_drew (S := fun W => W.cell? ⟨B, 0, none⟩ = some (.string ⟨#[97]⟩) ∧ HM w B (B + 1) g W) (by kernel_rfl) (HM.facts2 (HM.next hm (only_drew (only_refl _ _)))) (fun hHeld => ?_)
  refine wpAnyH_take (i := 0) (v := ?_) rfl (by kernel_rfl) (by kernel_rfl) (by kernel_rfl) (fun _ _ _ h => h) (Or.inl ⟨by kernel_rfl, ?_⟩) (by assumption) ?_
  rotate_left
  · intro w hSw; (try dsimp only at hSw); go_simp; try with_reducible rfl
  try simp only [Act.put, List.setIfInBounds_toArray, List.set_cons_zero, List.set_cons_succ]
  refine wpAnyH_take (i := 1) (v := ?_) rfl (by kernel_rfl) (by kernel_rfl) (by kernel_rfl) (fun _ _ _ h => h) (Or.inl ⟨by kernel_rfl, ?_⟩) (by assumption) ?_
  rotate_left
  · intro w hSw; (try dsimp only at hSw); go_simp; try with_reducible rfl
  try simp only [Act.put, List.setIfInBounds_toArray, List.set_cons_zero, List.set_cons_succ]
  refine wpAnyH_take (i := 2) rfl (by kernel_rfl) (by kernel_rfl) (by kernel_rfl) (fun _ _ _ h => h) (yields_row (by kernel_rfl) 37 (.tmp 5) rfl (B + 1) 0 34 (sdf 1 fun _ => 0) rfl _ (fun W h => h.2.2.range) hu rfl size37) (by assumption) ?_
  try simp only [Act.put, List.setIfInBounds_toArray, List.set_cons_zero, List.set_cons_succ]
  refine wpAnyH_ready (rs := [3]) (by kernel_rfl) (by simp) ?_
  refine AllReadyH.cons rfl (fun K hK => ?_) AllReadyH.nil
  go_simp
  go_at_call 19
  refine (header19_any 1 (fun _ => 0) _).mono ?_
  rintro e w2 ⟨rfl, hb2⟩
  refine hK.out _ _ (HM.facts2 (HM.next2 hb2 hHeld.2)) (fun hHeld => ?_)
  clear hK K
  try simp only [Act.put, List.setIfInBounds_toArray, List.set_cons_zero, List.set_cons_succ]
  refine wpAnyH_ready (rs := [4]) (by kernel_rfl) (by simp) ?_
  refine AllReadyH.cons rfl (fun K hK => ?_) AllReadyH.nil
  go_simp
  go_at_call 14
  refine (check_any 1 (by omega) (by omega) _ _).mono ?_
  rintro e w2 ⟨rfl, hb2⟩
  refine hK.out _ _ (HM.facts2 (HM.next2 hb2 hHeld.2)) (fun hHeld => ?_)
  clear hK K
  try simp only [Act.put, List.setIfInBounds_toArray, List.set_cons_zero, List.set_cons_succ]
  refine wpAnyH_take (i := 5) (v := ?_) rfl (by kernel_rfl) (by kernel_rfl) (by kernel_rfl) (fun _ _ _ h => h) (Or.inl ⟨by kernel_rfl, ?_⟩) (by assumption) ?_
  rotate_left
  · intro w hSw; (try dsimp only at hSw); go_simp; try with_reducible rfl
  try simp only [Act.put, List.setIfInBounds_toArray, List.set_cons_zero, List.set_cons_succ]
  refine wpAnyH_take (i := 6) (v := ?_) rfl (by kernel_rfl) (by kernel_rfl) (by kernel_rfl) (fun _ _ _ h => h) (Or.inl ⟨by kernel_rfl, ?_⟩) (by assumption) ?_
  rotate_left
  · intro w hSw; (try dsimp only at hSw); go_simp; try with_reducible rfl
  try simp only [Act.put, List.setIfInBounds_toArray, List.set_cons_zero, List.set_cons_succ]
  refine wpAnyH_take (i := 7) (v := ?_) rfl (by kernel_rfl) (by kernel_rfl) (by kernel_rfl) (fun _ _ _ h => h) (Or.inl ⟨by kernel_rfl, ?_⟩) (by assumption) ?_
  rotate_left
  · intro w hSw; (try dsimp only at hSw); go_simp; try with_reducible rfl
  try simp only [Act.put, List.setIfInBounds_toArray, List.set_cons_zero, List.set_cons_succ]
  refine wpAnyH_take (i := 8) (v := ?_) rfl (by kernel_rfl) (by kernel_rfl) (by kernel_rfl) (fun _ _ _ h => h) (Or.inl ⟨by kernel_rfl, ?_⟩) (by assumption) ?_
  rotate_left
  · intro w hSw; (try dsimp only at hSw); go_simp; try with_reducible rfl
  try simp only [Act.put, List.setIfInBounds_toArray, List.set_cons_zero, List.set_cons_succ]
  refine wpAnyH_take (i := 9) (v := undef) rfl (by kernel_rfl) (by kernel_rfl) (by kernel_rfl) (fun _ _ _ h => h) (Or.inr ⟨by kernel_rfl, rfl⟩) (by assumption) ?_
  try simp only [Act.put, List.setIfInBounds_toArray, List.set_cons_zero, List.set_cons_succ]
  refine wpAnyH_take (i := 10) (v := undef) rfl (by kernel_rfl) (by kernel_rfl) (by kernel_rfl) (fun _ _ _ h => h) (Or.inr ⟨by kernel_rfl, rfl⟩) (by assumption) ?_
  try simp only [Act.put, List.setIfInBounds_toArray, List.set_cons_zero, List.set_cons_succ]
  refine wpAnyH_take (i := 11) (v := undef) rfl (by kernel_rfl) (by kernel_rfl) (by kernel_rfl) (fun _ _ _ h => h) (Or.inr ⟨by kernel_rfl, rfl⟩) (by assumption) ?_
  try simp only [Act.put, List.setIfInBounds_toArray, List.set_cons_zero, List.set_cons_succ]
  refine wpAnyH_take (i := 12) (v := undef) rfl (by kernel_rfl) (by kernel_rfl) (by kernel_rfl) (fun _ _ _ h => h) (Or.inr ⟨by kernel_rfl, rfl⟩) (by assumption) ?_
  try simp only [Act.put, List.setIfInBounds_toArray, List.set_cons_zero, List.set_cons_succ]
  refine wpAnyH_take (i := 13) (v := undef) rfl (by kernel_rfl) (by kernel_rfl) (by kernel_rfl) (fun _ _ _ h => h) (Or.inr ⟨by kernel_rfl, rfl⟩) (by assumption) ?_
  try simp only [Act.put, List.setIfInBounds_toArray, List.set_cons_zero, List.set_cons_succ]
  refine wpAnyH_take (i := 14) (v := undef) rfl (by kernel_rfl) (by kernel_rfl) (by kernel_rfl) (fun _ _ _ h => h) (Or.inr ⟨by kernel_rfl, rfl⟩) (by assumption) ?_
  try simp only [Act.put, List.setIfInBounds_toArray, List.set_cons_zero, List.set_cons_succ]
  refine wpAnyH_take (i := 15) (v := undef) rfl (by kernel_rfl) (by kernel_rfl) (by kernel_rfl) (fun _ _ _ h => h) (Or.inr ⟨by kernel_rfl, rfl⟩) (by assumption) ?_
  try simp only [Act.put, List.setIfInBounds_toArray, List.set_cons_zero, List.set_cons_succ]
  refine wpAnyH_take (i := 16) (v := undef) rfl (by kernel_rfl) (by kernel_rfl) (by kernel_rfl) (fun _ _ _ h => h) (Or.inr ⟨by kernel_rfl, rfl⟩) (by assumption) ?_
  try simp only [Act.put, List.setIfInBounds_toArray, List.set_cons_zero, List.set_cons_succ]
  refine wpAnyH_take (i := 17) (v := ?_) rfl (by kernel_rfl) (by kernel_rfl) (by kernel_rfl) (fun _ _ _ h => h) (Or.inl ⟨by kernel_rfl, ?_⟩) (by assumption) ?_
  rotate_left
  · intro w hSw; (try dsimp only at hSw); go_simp; try with_reducible rfl
  try simp only [Act.put, List.setIfInBounds_toArray, List.set_cons_zero, List.set_cons_succ]
  refine wpAnyH_take (i := 18) (v := ?_) rfl (by kernel_rfl) (by kernel_rfl) (by kernel_rfl) (fun _ _ _ h => h) (Or.inl ⟨by kernel_rfl, ?_⟩) (by assumption) ?_
  rotate_left
  · intro w hSw; (try dsimp only at hSw); go_simp; try with_reducible rfl
  try simp only [Act.put, List.setIfInBounds_toArray, List.set_cons_zero, List.set_cons_succ]
  refine wpAnyH_take (i := 19) (v := ?_) rfl (by kernel_rfl) (by kernel_rfl) (by kernel_rfl) (fun _ _ _ h => h) (Or.inl ⟨by kernel_rfl, ?_⟩) (by assumption) ?_
  rotate_left
  · intro w hSw; (try dsimp only at hSw); go_simp; try with_reducible rfl
  try simp only [Act.put, List.setIfInBounds_toArray, List.set_cons_zero, List.set_cons_succ]
  refine wpAnyH_done (by kernel_rfl) ?_ _
  have hfin := hHeld.2.1.2.2.2
  clear hHeld hm
  go_wp2_with fail
  rw [rounds_succ]
  go_wp2_with fail
  unfold Exit.noGoto
  dsimp only
  go_at_K
  go_ret
  exact ⟨rfl, below_of_only hfin⟩
end Go.Proofs.YtlfcaagogeclpaaDoor
