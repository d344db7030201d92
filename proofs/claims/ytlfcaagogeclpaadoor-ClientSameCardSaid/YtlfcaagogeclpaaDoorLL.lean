/-
  Laws for single operations in regions that are walked by hand; pair results.
-/
import Derived.Test.YtlfcaagogeclpaaDoorJ4
import Derived.Great.BuildSlice
import Derived.ArgAppend
import Derived.Lib.AppendZeros
import Derived.Lib.BufferMore
import Derived.Test.YtlfcaagogeclpaaDoorK0
set_option linter.unusedSimpArgs false
set_option linter.unusedVariables false
namespace Go.Proofs.YtlfcaagogeclpaaDoor
open Go.RowKit
set_option maxRecDepth 100000 in
theorem fill34 (f : Nat → Value) : ∃ ie z, Tryd.prog.info? 37 = some ie ∧ ie.zero = some z ∧ ie.size = 34 ∧ Instr.fill (fun i => some (i * ie.size, ie.size)) ((Array.range (1 * ie.size)).map (z.cells[· % z.cells.size]!)) [(0, .agg (Row 34 f))] = some (Row 34 f) := ⟨_, _, rfl, rfl, rfl, by kernel_rfl⟩
section
variable {o : Oper} {a : Act} {w : World} {K : Act → World → Prop} {Q : Exit → Act → World → Prop}
/-- A slice literal of one state. -/
theorem opw_slice34 (x : Operand) (ho : o.op = .buildSlice 22 1 #[(0, x)]) (f : Nat → Value) (hx : a.eval x = .agg (Row 34 f))
    (h : K (a.put o.dst (.slice (some ⟨w.heap.size, 0, none⟩) 1 1)) (w.alloc (.cells (Row 34 f) 37))) : o.wp Tryd.prog a w K Q := by
  obtain ⟨ie, z, h1, h2, h3, h4⟩ := fill34 f
  refine wp_buildSlice 22 37 1 _ ho (Row 34 f) ie z Tryd.underlying22 h1 h2 (by rw [h3]; decide) (by rw [h3]; decide) ?_ h
  have e : (#[(0, x)].map fun (p : Nat × Operand) => (p.1, a.eval p.2)).toList = [(0, .agg (Row 34 f))] := by simp [hx]
  exact (congrArg _ e).trans h4
/-- A block is stored over. -/
theorem opw_store_blk {P : Program} (ty : TypeId) (x y : Operand) (ho : o.op = .store ty x y) (b t n : Nat) (g g' : Nat → Value) (hx : a.eval x = .pointer (some ⟨b, 0, none⟩)) (hy : a.eval y = .agg (Row n g')) (hb : Blk w b t n g)
    (hi : (P.info? ty).map (·.size) = some n) (h1 : ∀ i, i < n → (g' i).oneCell' = true) (h : K (a.put o.dst undef) (w.setRow b (Row n g'))) : o.wp P a w K Q := by
  refine wp_store_row ty x y ho b _ hx hy t _ hb (by rw [Row_size]; exact hi) (by rw [Row_size, Row_size]) (Array.all_eq_true_iff_forall_mem.2 fun u hu => ?_) h
  obtain ⟨i, hi, rfl⟩ := Row_mem (n := n) (g := g') (u := u) (by simpa using hu)
  exact h1 i hi
/-- A struct literal is built. -/
theorem yields_build {P : Program} {ops : Array Oper} {S : World → Prop} (hw : Region.wanted o (yielded ops a.tmps) = true) (t : TypeId) (parts : Array (Nat × Operand)) (ho : o.op = .build t parts)
    (l : List (Nat × Value)) (hl : parts.toList.map (fun x => (x.1, a.eval x.2)) = l) (cells : Array Value) (hb : P.built t l = some cells) : YieldsIf P ops S o (.agg cells) a :=
  .inl ⟨hw, fun w _ => by
    unfold execOp
    subst hl
    have hb' : P.built t (parts.map fun (i, x) => (i, a.eval x)).toList = some cells := by rw [Array.toList_map]; exact hb
    simp only [ho, Sem.run_bind, run_build w t _ _ hb', Result.andThen_ok]
    rfl⟩
end
theorem built24 (g : Nat) : Tryd.prog.built 24 [(0, .string ⟨#[97]⟩), (1, .string ⟨#[107]⟩), (2, .int .i64 10), (4, .slice (some ⟨g, 0, none⟩) 1 1)] = some (Row 5 (clf false g 1 1)) := by kernel_rfl
/-- Two results: a block and a slot. -/
theorem results_blk_tmp {P : Program} {fn : Func} {p u : Tmp} {ty : TypeId} (h : fn.results = #[.cell p ty, .tmp u]) (tmps : Array Value) (w : World) (b t n : Nat) (g : Nat → Value)
    (hp : tmps.getD p undef = .pointer (some ⟨b, 0, none⟩)) (hb : Blk w b t n g) (d : TypeDesc) (hu : P.underlying ty = some d) (hd : (match d with | .struct _ | .array _ _ => true | _ => false) = true) (hi : (P.info? ty).map (·.size) = some n) :
    (results fn tmps).run P w = .ok (.tuple #[.agg (Row n g), tmps.getD u undef]) w := by
  have hp' : tmps[p]?.getD undef = .pointer (some ⟨b, 0, none⟩) := by simpa using hp
  simp [results, h, hp', asAddr, run_loadVar_row w b t ty _ _ d hb hu hd (by rw [Row_size]; exact hi)]
/-- The cells of the zero client. -/
def zcl : Nat → Value
  | 0 => .string ⟨#[]⟩
  | 1 => .string ⟨#[]⟩
  | 2 => .int .i64 0
  | 3 => .bool false
  | _ => .slice none 0 0
theorem zcl_row : (#[.string ⟨#[]⟩, .string ⟨#[]⟩, .int .i64 0, .bool false, .slice none 0 0] : Array Value) = Row 5 zcl := by kernel_rfl
theorem SS_new (w : World) : SS (w.alloc (.cells (Row 34 (sdf 1 fun _ => 0)) 37)) w.heap.size 1 := fun j hj => by
  obtain rfl : j = 0 := by omega
  exact (Blk.new w 37 (rfl : Row 34 (sdf 1 fun _ => 0) = Row 34 (sdf 1 fun _ => 0))).range
theorem opw_alloc24 {o : Oper} {a : Act} {w : World} {K : Act → World → Prop} {Q : Exit → Act → World → Prop} (ho : o.op = .alloc 24)
    (h : ∀ b W, w.grownBy W none → Blk W b 24 5 zcl → b = w.heap.size → K (a.put o.dst (.pointer (some ⟨b, 0, none⟩))) W) : o.wp Tryd.prog a w K Q := by
  have h2 := h _ _ (only_alloc (only_refl w none) (.cells (Row 5 zcl) 24)) (Blk.new w 24 rfl) rfl
  unfold Oper.wp execOp
  simp only [ho]
  go_simp
  rw [zcl_row]
  exact h2
theorem opw_slice34' {o : Oper} {a : Act} {w : World} {K : Act → World → Prop} {Q : Exit → Act → World → Prop} (x : Operand) (ho : o.op = .buildSlice 22 1 #[(0, x)]) (f : Nat → Value) (hx : a.eval x = .agg (Row 34 f))
    (h : ∀ g W, w.grownBy W none → Blk W g 37 34 f → g = w.heap.size → K (a.put o.dst (.slice (some ⟨g, 0, none⟩) 1 1)) W) : o.wp Tryd.prog a w K Q :=
  opw_slice34 x ho f hx (h _ _ (only_alloc (only_refl w none) _) (Blk.new w 37 rfl) rfl)
theorem SS_one {w : World} {g t : Nat} (h : Blk w g t 34 (sdf 1 fun _ => 0)) : SS w g 1 := fun j hj => by
  obtain rfl : j = 0 := by omega
  exact h.range
theorem SS.grown {w w' : World} {g n : Nat} (h : SS w g n) (hb : w.grownBy w' none) (hg : g < w.heap.size) : SS w' g n := h.next hg hb
end Go.Proofs.YtlfcaagogeclpaaDoor
/-
  client.New of the example's.
-/
namespace Go.Proofs.YtlfcaagogeclpaaDoor
open Go.RowKit
/-- What stands while New's struct is built: the header's copy and the result. -/
def N0 (w : World) (W : World) : Prop := w.grownBy W none ∧ Blk W w.heap.size 30 35 (hdf 1 fun _ => 0) ∧ Blk W (w.heap.size + 1) 24 5 zcl
theorem N0.next {w W W2 : World} (h : N0 w W) (hb : W.grownBy W2 none) : N0 w W2 := ⟨only_trans h.1 hb, h.2.1.grown hb (by simp), h.2.2.grown hb (by simp)⟩
theorem N0.below {w W W2 : World} (h : N0 w W) (hb : Below W.heap.size W W2) : N0 w W2 := h.next (only_of_below hb none)
theorem N0.setRow {w W : World} (h : N0 w W) {b : Nat} (hb : w.heap.size + 2 ≤ b) (cs : Array Value) : N0 w (W.setRow b cs) :=
  ⟨only_setRow h.1 (.inr (by omega)) cs, h.2.1.setRow_far (by omega) cs, h.2.2.setRow_far (by omega) cs⟩
theorem N0.size {w W : World} (h : N0 w W) : w.heap.size + 2 ≤ W.heap.size := h.2.2.lt
/-- The region's end. -/
def N1 (w : World) (b g : Nat) (W : World) : Prop := N0 w W ∧ Blk W b 24 5 (clf false g 1 1) ∧ SS W g 1 ∧ g < W.heap.size ∧ w.heap.size + 2 ≤ b ∧ w.heap.size + 2 ≤ g
theorem cl_eq (fz : Bool) (g n cap : Nat) : cl fz g n cap = .agg (Row 5 (clf fz g n cap)) := by unfold cl; rw [cl_row]
theorem N1.fin {w V : World} {b g : Nat} (h0 : N0 w V) (hb : Blk V b 24 5 zcl) (hs : SS V g 1) (hg : g < V.heap.size) (h1 : w.heap.size + 2 ≤ b) (h2 : w.heap.size + 2 ≤ g) (hne : g ≠ b) : N1 w b g (V.setRow b (Row 5 (clf false g 1 1))) :=
  ⟨h0.setRow h1 _, hb.setRow_ _, SS_setRow hs hne _, by rw [setRow_size]; exact hg, h1, h2⟩
theorem N0.str {w W : World} {B : Nat} (HB : Go.RowKit.Hid (w.heap.size = B)) (h : N0 w W) : W.cell? ⟨B, 0, none⟩ = some (.string ⟨#[97]⟩) ∧ N0 w W := ⟨HB.out ▸ h.2.1.cell (by omega), h⟩
set_option maxRecDepth 100000 in
set_option maxHeartbeats 4000000 in
theorem cnew_any (w : World) : Calls Tryd.prog 7 #[.string ⟨#[107]⟩, .int .i64 10, .agg (Row 35 (hdf 1 fun _ => 0))] w fun e w' => ∃ g, e = .returned (.tuple #[cl false g 1 1, .int .i64 0]) ∧ Below w.heap.size w w' ∧ SS w' g 1 ∧ w.heap.size ≤ g ∧ g < w'.heap.size := by
  obtain ⟨hw, hb, hz⟩ := two_more w _ _ 30 24 35 5 _ _ (rfl : Row 35 (hdf 1 fun _ => 0) = Row 35 (hdf 1 fun _ => 0)) zcl_row
  have h0 : N0 w _ := ⟨hw, hb, hz⟩
  have H0 := Lib.hid h0
  clear hw hb hz h0
  go_enter Tryd.func7, Tryd.ntmps7
  go_wp2_with fail
  generalize World.alloc (World.alloc w _) _ = W at H0 ⊢
  have h0 := H0.out
  clear H0
  generalize hB : w.heap.size = B at *
  have HB := Lib.hid hB
  clear hB
  refine Code.wp_mono (Q := fun e a W => e = .normal ∧ ∃ b g u9 u10 u11 u12 u13 u14 u15 u16, a = { tmps := #[.string ⟨#[107]⟩, .int .i64 10, .agg (Row 35 (hdf 1 fun _ => 0)), undef, undef, .pointer (some ⟨B, 0, none⟩), .pointer (some ⟨B + 1, 0, none⟩), .int .i64 0, .pointer (some ⟨b, 0, none⟩), u9, u10, u11, u12, u13, u14, u15, u16, undef, undef, undef, undef, undef], defers := [] } ∧ N1 w b g W) ?_ ?_
  rotate_left
  · refine wp_region_held_drew (S := fun W => W.cell? ⟨B, 0, none⟩ = some (.string ⟨#[97]⟩) ∧ N0 w W) (by kernel_rfl) (N0.str HB (N0.next h0 (only_drew (only_refl _ _)))) (fun hHeld => ?_)
    refine wpAnyH_take (i := 0) (v := ?_) rfl (by kernel_rfl) (by kernel_rfl) (by kernel_rfl) (fun _ _ _ h => nomatch h.1) (Or.inl ⟨by kernel_rfl, ?_⟩) (by assumption) ?_
    rotate_left
    · intro w hSw; (try dsimp only at hSw); go_simp; try with_reducible rfl
    try simp only [Act.put, List.getElem_toArray, List.getElem_cons_succ, List.getElem_cons_zero, List.setIfInBounds_toArray, List.set_cons_zero, List.set_cons_succ]
    refine wpAnyH_take (i := 1) (v := ?_) rfl (by kernel_rfl) (by kernel_rfl) (by kernel_rfl) (fun _ _ _ h => nomatch h.1) (Or.inl ⟨by kernel_rfl, ?_⟩) (by assumption) ?_
    rotate_left
    · intro w hSw; (try dsimp only at hSw); go_simp; try with_reducible rfl
    try simp only [Act.put, List.getElem_toArray, List.getElem_cons_succ, List.getElem_cons_zero, List.setIfInBounds_toArray, List.set_cons_zero, List.set_cons_succ]
    refine wpAnyH_take (i := 2) (v := ?_) rfl (by kernel_rfl) (by kernel_rfl) (by kernel_rfl) (fun _ _ _ h => nomatch h.1) (Or.inl ⟨by kernel_rfl, ?_⟩) (by assumption) ?_
    rotate_left
    · intro w hSw; (try dsimp only at hSw); go_simp; try with_reducible rfl
    try simp only [Act.put, List.getElem_toArray, List.getElem_cons_succ, List.getElem_cons_zero, List.setIfInBounds_toArray, List.set_cons_zero, List.set_cons_succ]
    refine wpAnyH_take (i := 3) (v := ?_) rfl (by kernel_rfl) (by kernel_rfl) (by kernel_rfl) (fun _ _ _ h => nomatch h.1) (Or.inl ⟨by kernel_rfl, ?_⟩) (by assumption) ?_
    rotate_left
    · intro w hSw; (try dsimp only at hSw); go_simp; try with_reducible rfl
    try simp only [Act.put, List.getElem_toArray, List.getElem_cons_succ, List.getElem_cons_zero, List.setIfInBounds_toArray, List.set_cons_zero, List.set_cons_succ]
    refine wpAnyH_take (i := 4) rfl (by kernel_rfl) (by kernel_rfl) (by kernel_rfl) (fun _ _ _ h => nomatch h.1) (yields_row (by kernel_rfl) 30 (.tmp 5) rfl B 0 35 (hdf 1 fun _ => 0) rfl _ (fun W h => HB.out ▸ h.2.2.1.range) Tryd.underlying30 rfl size30) (by assumption) ?_
    try simp only [Act.put, List.getElem_toArray, List.getElem_cons_succ, List.getElem_cons_zero, List.setIfInBounds_toArray, List.set_cons_zero, List.set_cons_succ]
    refine wpAnyH_ready (rs := [5, 8]) (by kernel_rfl) (by simp) ?_
    refine AllReadyH.cons rfl (fun K hK => ?_) (AllReadyH.cons rfl (fun K hK => ?_) AllReadyH.nil)
    · go_simp
      go_at_call 11
      refine (state_any 1 (fun _ => 0) _).mono ?_
      rintro e w2 ⟨rfl, hb2⟩
      have hgr := only_of_below hb2 none
      refine hK.out _ _ (N0.str HB (N0.next hHeld.2 hgr)) (fun hHeld => ?_)
      clear hK K
      try simp only [Act.put, List.getElem_toArray, List.getElem_cons_succ, List.getElem_cons_zero, List.setIfInBounds_toArray, List.set_cons_zero, List.set_cons_succ]
      refine wpAnyH_ready (rs := [6, 8]) (by kernel_rfl) (by simp) ?_
      refine AllReadyH.cons rfl (fun K hK => ?_) (AllReadyH.cons rfl (fun K hK => ?_) AllReadyH.nil)
      · rw [if_pos (by kernel_rfl)]
        refine opw_slice34' (.tmp 14) rfl _ rfl fun g W1 hgr hsN hgE => ?_
        have hgB : w.heap.size + 2 ≤ g := hgE ▸ hHeld.2.size
        have hs := hsN
        clear hsN hgE
        refine hK.out _ _ (N0.str HB (N0.next hHeld.2 hgr)) (fun hHeld => ?_)
        clear hK K
        try simp only [Act.put, List.getElem_toArray, List.getElem_cons_succ, List.getElem_cons_zero, List.setIfInBounds_toArray, List.set_cons_zero, List.set_cons_succ]
        refine wpAnyH_take (i := 7) rfl (by kernel_rfl) (by kernel_rfl) (by kernel_rfl) (fun _ _ _ h => nomatch h.1) (yields_build (by kernel_rfl) 24 _ rfl [(0, .string ⟨#[97]⟩), (1, .string ⟨#[107]⟩), (2, .int .i64 10), (4, .slice (some ⟨g, 0, none⟩) 1 1)] rfl _ (built24 _)) (by assumption) ?_
        try simp only [Act.put, List.getElem_toArray, List.getElem_cons_succ, List.getElem_cons_zero, List.setIfInBounds_toArray, List.set_cons_zero, List.set_cons_succ]
        refine wpAnyH_ready (rs := [8]) (by kernel_rfl) (by simp) ?_
        refine AllReadyH.cons rfl (fun K hK => ?_) AllReadyH.nil
        rw [if_pos (by kernel_rfl)]
        refine opw_alloc24 rfl fun b W1 hgr hbN hbE => ?_
        have hbB : w.heap.size + 2 ≤ b := hbE ▸ hHeld.2.size
        have hne : g ≠ b := by have := hs.lt; omega
        replace hs := hs.grown hgr (by simp)
        have hb := hbN
        clear hbN hbE
        refine hK.out _ _ (N0.str HB (N0.next hHeld.2 hgr)) (fun hHeld => ?_)
        clear hK K
        try simp only [Act.put, List.getElem_toArray, List.getElem_cons_succ, List.getElem_cons_zero, List.setIfInBounds_toArray, List.set_cons_zero, List.set_cons_succ]
        refine wpAnyH_ready (rs := [9]) (by kernel_rfl) (by simp) ?_
        refine AllReadyH.cons rfl (fun K hK => ?_) AllReadyH.nil
        rw [if_pos (by kernel_rfl)]
        refine opw_store_blk 24 (.tmp 8) (.tmp 16) rfl b 24 5 zcl (clf false g 1 1) rfl rfl hb size24 (fun i _ => clf_one _ _ _ _ i) ?_
        have hfin := N1.fin hHeld.2 hb (SS_one hs) hs.lt hbB hgB hne
        refine hK.out _ _ (N0.str HB hfin.1) (fun hHeld => ?_)
        clear hK K
        try simp only [Act.put, List.getElem_toArray, List.getElem_cons_succ, List.getElem_cons_zero, List.setIfInBounds_toArray, List.set_cons_zero, List.set_cons_succ]
        refine wpAnyH_done (by kernel_rfl) ?_ _
        exact ⟨rfl, b, g, _, _, _, _, _, _, _, _, rfl, hfin⟩
      · rw [if_pos (by kernel_rfl)]
        refine opw_alloc24 rfl fun b W1 hgr hbN hbE => ?_
        have hbB : w.heap.size + 2 ≤ b := hbE ▸ hHeld.2.size
        have hb := hbN
        clear hbN hbE
        refine hK.out _ _ (N0.str HB (N0.next hHeld.2 hgr)) (fun hHeld => ?_)
        clear hK K
        try simp only [Act.put, List.getElem_toArray, List.getElem_cons_succ, List.getElem_cons_zero, List.setIfInBounds_toArray, List.set_cons_zero, List.set_cons_succ]
        refine wpAnyH_ready (rs := [6]) (by kernel_rfl) (by simp) ?_
        refine AllReadyH.cons rfl (fun K hK => ?_) AllReadyH.nil
        rw [if_pos (by kernel_rfl)]
        refine opw_slice34' (.tmp 14) rfl _ rfl fun g W1 hgr hsN hgE => ?_
        have hgB : w.heap.size + 2 ≤ g := hgE ▸ hHeld.2.size
        have hne : g ≠ b := by have := hb.lt; omega
        replace hb := hb.grown hgr (by simp)
        have hs := hsN
        clear hsN hgE
        refine hK.out _ _ (N0.str HB (N0.next hHeld.2 hgr)) (fun hHeld => ?_)
        clear hK K
        try simp only [Act.put, List.getElem_toArray, List.getElem_cons_succ, List.getElem_cons_zero, List.setIfInBounds_toArray, List.set_cons_zero, List.set_cons_succ]
        refine wpAnyH_take (i := 7) rfl (by kernel_rfl) (by kernel_rfl) (by kernel_rfl) (fun _ _ _ h => nomatch h.1) (yields_build (by kernel_rfl) 24 _ rfl [(0, .string ⟨#[97]⟩), (1, .string ⟨#[107]⟩), (2, .int .i64 10), (4, .slice (some ⟨g, 0, none⟩) 1 1)] rfl _ (built24 _)) (by assumption) ?_
        try simp only [Act.put, List.getElem_toArray, List.getElem_cons_succ, List.getElem_cons_zero, List.setIfInBounds_toArray, List.set_cons_zero, List.set_cons_succ]
        refine wpAnyH_ready (rs := [9]) (by kernel_rfl) (by simp) ?_
        refine AllReadyH.cons rfl (fun K hK => ?_) AllReadyH.nil
        rw [if_pos (by kernel_rfl)]
        refine opw_store_blk 24 (.tmp 8) (.tmp 16) rfl b 24 5 zcl (clf false g 1 1) rfl rfl hb size24 (fun i _ => clf_one _ _ _ _ i) ?_
        have hfin := N1.fin hHeld.2 hb (SS_one hs) hs.lt hbB hgB hne
        refine hK.out _ _ (N0.str HB hfin.1) (fun hHeld => ?_)
        clear hK K
        try simp only [Act.put, List.getElem_toArray, List.getElem_cons_succ, List.getElem_cons_zero, List.setIfInBounds_toArray, List.set_cons_zero, List.set_cons_succ]
        refine wpAnyH_done (by kernel_rfl) ?_ _
        exact ⟨rfl, b, g, _, _, _, _, _, _, _, _, rfl, hfin⟩
    · rw [if_pos (by kernel_rfl)]
      refine opw_alloc24 rfl fun b W1 hgr hbN hbE => ?_
      have hbB : w.heap.size + 2 ≤ b := hbE ▸ hHeld.2.size
      have hb := hbN
      clear hbN hbE
      refine hK.out _ _ (N0.str HB (N0.next hHeld.2 hgr)) (fun hHeld => ?_)
      clear hK K
      try simp only [Act.put, List.getElem_toArray, List.getElem_cons_succ, List.getElem_cons_zero, List.setIfInBounds_toArray, List.set_cons_zero, List.set_cons_succ]
      refine wpAnyH_ready (rs := [5]) (by kernel_rfl) (by simp) ?_
      refine AllReadyH.cons rfl (fun K hK => ?_) AllReadyH.nil
      go_simp
      go_at_call 11
      refine (state_any 1 (fun _ => 0) _).mono ?_
      rintro e w2 ⟨rfl, hb2⟩
      have hgr := only_of_below hb2 none
      replace hb := hb.grown hgr (by simp)
      refine hK.out _ _ (N0.str HB (N0.next hHeld.2 hgr)) (fun hHeld => ?_)
      clear hK K
      try simp only [Act.put, List.getElem_toArray, List.getElem_cons_succ, List.getElem_cons_zero, List.setIfInBounds_toArray, List.set_cons_zero, List.set_cons_succ]
      refine wpAnyH_ready (rs := [6]) (by kernel_rfl) (by simp) ?_
      refine AllReadyH.cons rfl (fun K hK => ?_) AllReadyH.nil
      rw [if_pos (by kernel_rfl)]
      refine opw_slice34' (.tmp 14) rfl _ rfl fun g W1 hgr hsN hgE => ?_
      have hgB : w.heap.size + 2 ≤ g := hgE ▸ hHeld.2.size
      have hne : g ≠ b := by have := hb.lt; omega
      replace hb := hb.grown hgr (by simp)
      have hs := hsN
      clear hsN hgE
      refine hK.out _ _ (N0.str HB (N0.next hHeld.2 hgr)) (fun hHeld => ?_)
      clear hK K
      try simp only [Act.put, List.getElem_toArray, List.getElem_cons_succ, List.getElem_cons_zero, List.setIfInBounds_toArray, List.set_cons_zero, List.set_cons_succ]
      refine wpAnyH_take (i := 7) rfl (by kernel_rfl) (by kernel_rfl) (by kernel_rfl) (fun _ _ _ h => nomatch h.1) (yields_build (by kernel_rfl) 24 _ rfl [(0, .string ⟨#[97]⟩), (1, .string ⟨#[107]⟩), (2, .int .i64 10), (4, .slice (some ⟨g, 0, none⟩) 1 1)] rfl _ (built24 _)) (by assumption) ?_
      try simp only [Act.put, List.getElem_toArray, List.getElem_cons_succ, List.getElem_cons_zero, List.setIfInBounds_toArray, List.set_cons_zero, List.set_cons_succ]
      refine wpAnyH_ready (rs := [9]) (by kernel_rfl) (by simp) ?_
      refine AllReadyH.cons rfl (fun K hK => ?_) AllReadyH.nil
      rw [if_pos (by kernel_rfl)]
      refine opw_store_blk 24 (.tmp 8) (.tmp 16) rfl b 24 5 zcl (clf false g 1 1) rfl rfl hb size24 (fun i _ => clf_one _ _ _ _ i) ?_
      have hfin := N1.fin hHeld.2 hb (SS_one hs) hs.lt hbB hgB hne
      refine hK.out _ _ (N0.str HB hfin.1) (fun hHeld => ?_)
      clear hK K
      try simp only [Act.put, List.getElem_toArray, List.getElem_cons_succ, List.getElem_cons_zero, List.setIfInBounds_toArray, List.set_cons_zero, List.set_cons_succ]
      refine wpAnyH_done (by kernel_rfl) ?_ _
      exact ⟨rfl, b, g, _, _, _, _, _, _, _, _, rfl, hfin⟩
  rintro e a W3 ⟨rfl, b, g, u9, u10, u11, u12, u13, u14, u15, u16, rfl, h1⟩
  clear h0
  obtain ⟨h0, hb, hs, hg, hbB, hgB⟩ := h1
  go_wp2_with (first
    | (refine wpList_load_blk rfl 24 (.tmp 8) rfl b 24 5 (clf false g 1 1) rfl hb _ Tryd.underlying24 rfl size24 ?_))
  have hm := may_any g W3 hs hg
  rw [cl_eq] at hm
  refine hm.mono ?_
  rintro e w2 ⟨rfl, hb2⟩
  replace h0 := h0.below hb2
  replace hb := hb.below hb2 hb.lt
  replace hs := hs.next hg (only_of_below hb2 none)
  replace hg := Nat.lt_of_lt_of_le hg hb2.size
  clear hm hb2
  have HX := Lib.hid hbB
  have h2 := HB.out ▸ h0.2.2
  go_wp2_with (first
    | (refine wpList_load_blk rfl 24 (.tmp 8) rfl b 24 5 (clf false g 1 1) rfl hb _ Tryd.underlying24 rfl size24 ?_)
    | (refine wpList_store_blk rfl 24 (.tmp 6) (.tmp 21) rfl (B + 1) 24 5 zcl (clf false g 1 1) _ rfl rfl rfl h2 size24 (fun i _ => clf_one _ _ _ _ i) ?_))
  refine bodyPost_ret (results_blk_tmp rfl _ _ (B + 1) 24 5 (clf false g 1 1) rfl (h2.setRow_ _) _ Tryd.underlying24 rfl size24) rfl ⟨g, ?_, below_of_only (only_setRow h0.1 (.inr (by have := HB.out; omega)) _), SS_setRow hs (by have := HB.out; omega) _, by omega, by rw [setRow_size]; exact hg⟩
  rw [cl_eq]
  rfl
end Go.Proofs.YtlfcaagogeclpaaDoor
/-
  client.at and the search under it, of the example's states.
-/
namespace Go.Proofs.YtlfcaagogeclpaaDoor
open Go.RowKit
set_option maxRecDepth 100000 in
set_option maxHeartbeats 1000000 in
theorem at1_any (h : Int) (rt : Nat → BitVec 8) (X : Nat) (k : Int) (w : World) (hk : w.cell? ⟨X, 0, none⟩ = some (.int .i64 k)) : Calls Tryd.prog 38 #[.agg (Row 34 (sdf h rt)), .pointer (some ⟨X, 0, none⟩)] w fun e w' => e = .returned (.bool (decide (k ≤ h))) ∧ Below w.heap.size w w' := by
  have hb0 : Blk (w.alloc (.cells (Row 34 (sdf h rt)) 37)) w.heap.size 37 34 (sdf h rt) := Blk.new w 37 rfl
  have c0 : (w.alloc (.cells (Row 34 (sdf h rt)) 37)).cell? ⟨w.heap.size, 0, none⟩ = some (.int .i64 h) := hb0.cell (by omega)
  have c1 : (w.alloc (.cells (Row 34 (sdf h rt)) 37)).cell? ⟨X, 0, none⟩ = some (.int .i64 k) := only_cell (only_alloc (only_refl w none) _) hk
  have HF := Lib.hid (below_of_only (only_alloc (only_refl w none) (.cells (Row 34 (sdf h rt)) 37)))
  clear hb0 hk
  go_enter Tryd.func38, Tryd.ntmps38
  go_wp2_with fail
  go_ret
  exact ⟨by simp, HF.out⟩
set_option maxRecDepth 100000 in
set_option maxHeartbeats 1000000 in
theorem index1_any (g cap X : Nat) (w : World) (hs : SS w g 1) (hg : g < w.heap.size) (hk : w.cell? ⟨X, 0, none⟩ = some (.int .i64 2)) : Calls Tryd.prog 37 #[.slice (some ⟨g, 0, none⟩) 1 cap, .func (.func 38) #[] #[.pointer (some ⟨X, 0, none⟩)]] w fun e w' => e = .returned (.int .i64 (-1)) ∧ Below w.heap.size w w' := by
  have RG := Lib.hid (hs 0 (by omega))
  have hc := at1_any 1 (fun _ => 0) X 2 w hk
  clear hs
  go_enter Tryd.func37, Tryd.ntmps37
  go_wp2_with fail
  refine wp_loop_rounds 2 ?_
  rw [rounds_succ]
  go_wp2_with (first
    | (refine wpList_load_range rfl 37 (.tmp 14) rfl g 0 34 (sdf 1 fun _ => 0) rfl RG.out _ Tryd.underlying37 rfl size37 ?_))
  refine hc.mono ?_
  rintro e w2 ⟨rfl, hb2⟩
  go_wp2_with fail
  rw [rounds_succ]
  go_wp2_with fail
  go_ret
  exact ⟨rfl, hb2⟩
set_option maxRecDepth 100000 in
set_option maxHeartbeats 1000000 in
theorem index2_any (g cap X : Nat) (w : World) (hs : SS w g 2) (hg : g < w.heap.size) (hk : w.cell? ⟨X, 0, none⟩ = some (.int .i64 2)) : Calls Tryd.prog 37 #[.slice (some ⟨g, 0, none⟩) 2 cap, .func (.func 38) #[] #[.pointer (some ⟨X, 0, none⟩)]] w fun e w' => e = .returned (.int .i64 1) ∧ Below w.heap.size w w' := by
  have RG := Lib.hid (hs 0 (by omega))
  have HS := Lib.hid hs
  have hc := at1_any 1 (fun _ => 0) X 2 w hk
  clear hs
  go_enter Tryd.func37, Tryd.ntmps37
  go_wp2_with fail
  refine wp_loop_rounds 3 ?_
  rw [rounds_succ]
  go_wp2_with (first
    | (refine wpList_load_range rfl 37 (.tmp 14) rfl g 0 34 (sdf 1 fun _ => 0) rfl RG.out _ Tryd.underlying37 rfl size37 ?_))
  refine hc.mono ?_
  rintro e w2 ⟨rfl, hb2⟩
  have hk2 := only_cell (only_of_below hb2 none) hk
  have RG2 := Lib.hid (HS.out.next hg (only_of_below hb2 none) 1 (by omega))
  have hc2 := at1_any 2 (fun _ => 0) X 2 w2 hk2
  clear hc RG HS hk hk2
  go_wp2_with fail
  rw [rounds_succ]
  go_wp2_with (first
    | (refine wpList_load_range rfl 37 (.tmp 14) rfl g 34 34 (sdf 2 fun _ => 0) rfl RG2.out _ Tryd.underlying37 rfl size37 ?_))
  refine hc2.mono ?_
  rintro e w3 ⟨rfl, hb3⟩
  go_wp2_with fail
  go_ret
  exact ⟨rfl, below_of_only (only_trans (only_of_below hb2 none) (only_of_below hb3 none))⟩
theorem int_row (n : Int) : #[Value.int .i64 n] = Row 1 fun _ => Value.int .i64 n := by kernel_rfl
set_option maxRecDepth 100000 in
set_option maxHeartbeats 1000000 in
theorem atn_any (g cap : Nat) (w : World) (hs : SS w g 1) (hg : g < w.heap.size) : Calls Tryd.prog 24 #[cl false g 1 cap, .int .i64 2] w fun e w' => e = .returned (.tuple #[.int .i64 1, .bool false]) ∧ Below w.heap.size w w' := by
  obtain ⟨hw, hb, hz⟩ := two_more w _ _ 24 3 5 1 _ _ (cl_row false g 1 cap) (int_row 2)
  have hk := hz.cell (i := 0) (by omega)
  have hs' := hs.next hg hw
  have c4 := hb.cell (i := 4) (by omega)
  change _ = some (Value.slice (some ⟨g, 0, none⟩) 1 cap) at c4
  unfold cl
  have hi := index1_any g cap (w.heap.size + 1) _ hs' (by simp; omega) hk
  have HW := Lib.hid hw
  have HB := Lib.hid hb
  have HS := Lib.hid hs'
  have HK := Lib.hid hk
  clear hw hz hs hs' hk hb
  go_enter Tryd.func24, Tryd.ntmps24
  go_wp2_with fail
  refine hi.mono ?_
  rintro e w2 ⟨rfl, hb2⟩
  have hfin := only_next HW.out hb2
  replace c4 := only_cell (only_of_below hb2 none) c4
  clear HS HK hi HB hb2
  go_wp2_with fail
  go_ret2
  exact ⟨rfl, below_of_only hfin⟩
set_option maxRecDepth 100000 in
set_option maxHeartbeats 1000000 in
theorem aty_any (g cap : Nat) (w : World) (hs : SS w g 2) (hg : g < w.heap.size) : Calls Tryd.prog 24 #[cl false g 2 cap, .int .i64 2] w fun e w' => e = .returned (.tuple #[.int .i64 1, .bool true]) ∧ Below w.heap.size w w' := by
  obtain ⟨hw, hb, hz⟩ := two_more w _ _ 24 3 5 1 _ _ (cl_row false g 2 cap) (int_row 2)
  have hk := hz.cell (i := 0) (by omega)
  have hs' := hs.next hg hw
  have c4 := hb.cell (i := 4) (by omega)
  change _ = some (Value.slice (some ⟨g, 0, none⟩) 2 cap) at c4
  unfold cl
  have hi := index2_any g cap (w.heap.size + 1) _ hs' (by simp; omega) hk
  have HW := Lib.hid hw
  have HB := Lib.hid hb
  have HS := Lib.hid hs'
  have HK := Lib.hid hk
  clear hw hz hs hs' hk hb
  go_enter Tryd.func24, Tryd.ntmps24
  go_wp2_with fail
  refine hi.mono ?_
  rintro e w2 ⟨rfl, hb2⟩
  have hfin := only_next HW.out hb2
  have c4' := only_cell (only_of_below hb2 none) c4
  have c2 := HS.out.next (by simp; omega) (only_of_below hb2 none) 1 (by omega) 0 (.int .i64 2) rfl
  have c3 := only_cell (only_of_below hb2 none) HK.out
  clear HS HK hi HB c4
  generalize w.heap.size = B at *
  clear hb2
  go_wp2_with fail
  refine wp_region_held_drew (S := fun W => W.cell? ⟨B, 4, none⟩ = some (.slice (some ⟨g, 0, none⟩) 2 cap) ∧ W.cell? ⟨g, 34, none⟩ = some (.int .i64 2) ∧ W.cell? ⟨B + 1, 0, none⟩ = some (.int .i64 2)) (by kernel_rfl) ⟨c4', c2, c3⟩ (fun hHeld => ?_)
  refine wpAnyH_take (i := 0) (v := ?_) rfl (by kernel_rfl) (by kernel_rfl) (by kernel_rfl) (fun _ _ _ h => h) (Or.inl ⟨by kernel_rfl, ?_⟩) (by assumption) ?_
  rotate_left
  · intro w hSw; (try dsimp only at hSw); go_simp; try with_reducible rfl
  try simp only [Act.put, List.getElem_toArray, List.getElem_cons_succ, List.getElem_cons_zero, List.setIfInBounds_toArray, List.set_cons_zero, List.set_cons_succ]
  refine wpAnyH_take (i := 1) (v := ?_) rfl (by kernel_rfl) (by kernel_rfl) (by kernel_rfl) (fun _ _ _ h => h) (Or.inl ⟨by kernel_rfl, ?_⟩) (by assumption) ?_
  rotate_left
  · intro w hSw; (try dsimp only at hSw); go_simp; try with_reducible rfl
  try simp only [Act.put, List.getElem_toArray, List.getElem_cons_succ, List.getElem_cons_zero, List.setIfInBounds_toArray, List.set_cons_zero, List.set_cons_succ]
  refine wpAnyH_take (i := 2) (v := ?_) rfl (by kernel_rfl) (by kernel_rfl) (by kernel_rfl) (fun _ _ _ h => h) (Or.inl ⟨by kernel_rfl, ?_⟩) (by assumption) ?_
  rotate_left
  · intro w hSw; (try dsimp only at hSw); go_simp; try with_reducible rfl
  try simp only [Act.put, List.getElem_toArray, List.getElem_cons_succ, List.getElem_cons_zero, List.setIfInBounds_toArray, List.set_cons_zero, List.set_cons_succ]
  refine wpAnyH_take (i := 3) (v := ?_) rfl (by kernel_rfl) (by kernel_rfl) (by kernel_rfl) (fun _ _ _ h => h) (Or.inl ⟨by kernel_rfl, ?_⟩) (by assumption) ?_
  rotate_left
  · intro w hSw; (try dsimp only at hSw); go_simp; try with_reducible rfl
  try simp only [Act.put, List.getElem_toArray, List.getElem_cons_succ, List.getElem_cons_zero, List.setIfInBounds_toArray, List.set_cons_zero, List.set_cons_succ]
  refine wpAnyH_take (i := 4) (v := ?_) rfl (by kernel_rfl) (by kernel_rfl) (by kernel_rfl) (fun _ _ _ h => h) (Or.inl ⟨by kernel_rfl, ?_⟩) (by assumption) ?_
  rotate_left
  · intro w hSw; (try dsimp only at hSw); go_simp; try with_reducible rfl
  try simp only [Act.put, List.getElem_toArray, List.getElem_cons_succ, List.getElem_cons_zero, List.setIfInBounds_toArray, List.set_cons_zero, List.set_cons_succ]
  refine wpAnyH_take (i := 5) (v := ?_) rfl (by kernel_rfl) (by kernel_rfl) (by kernel_rfl) (fun _ _ _ h => h) (Or.inl ⟨by kernel_rfl, ?_⟩) (by assumption) ?_
  rotate_left
  · intro w hSw; (try dsimp only at hSw); go_simp; try with_reducible rfl
  try simp only [Act.put, List.getElem_toArray, List.getElem_cons_succ, List.getElem_cons_zero, List.setIfInBounds_toArray, List.set_cons_zero, List.set_cons_succ]
  refine wpAnyH_take (i := 6) (v := ?_) rfl (by kernel_rfl) (by kernel_rfl) (by kernel_rfl) (fun _ _ _ h => h) (Or.inl ⟨by kernel_rfl, ?_⟩) (by assumption) ?_
  rotate_left
  · intro w hSw; (try dsimp only at hSw); go_simp; try with_reducible rfl
  try simp only [Act.put, List.getElem_toArray, List.getElem_cons_succ, List.getElem_cons_zero, List.setIfInBounds_toArray, List.set_cons_zero, List.set_cons_succ]
  refine wpAnyH_take (i := 7) (v := ?_) rfl (by kernel_rfl) (by kernel_rfl) (by kernel_rfl) (fun _ _ _ h => h) (Or.inl ⟨by kernel_rfl, ?_⟩) (by assumption) ?_
  rotate_left
  · intro w hSw; (try dsimp only at hSw); go_simp; try with_reducible rfl
  try simp only [Act.put, List.getElem_toArray, List.getElem_cons_succ, List.getElem_cons_zero, List.setIfInBounds_toArray, List.set_cons_zero, List.set_cons_succ]
  refine wpAnyH_take (i := 8) (v := ?_) rfl (by kernel_rfl) (by kernel_rfl) (by kernel_rfl) (fun _ _ _ h => h) (Or.inl ⟨by kernel_rfl, ?_⟩) (by assumption) ?_
  rotate_left
  · intro w hSw; (try dsimp only at hSw); go_simp; try with_reducible rfl
  try simp only [Act.put, List.getElem_toArray, List.getElem_cons_succ, List.getElem_cons_zero, List.setIfInBounds_toArray, List.set_cons_zero, List.set_cons_succ]
  refine wpAnyH_take (i := 9) (v := ?_) rfl (by kernel_rfl) (by kernel_rfl) (by kernel_rfl) (fun _ _ _ h => h) (Or.inl ⟨by kernel_rfl, ?_⟩) (by assumption) ?_
  rotate_left
  · intro w hSw; (try dsimp only at hSw); go_simp; try with_reducible rfl
  try simp only [Act.put, List.getElem_toArray, List.getElem_cons_succ, List.getElem_cons_zero, List.setIfInBounds_toArray, List.set_cons_zero, List.set_cons_succ]
  refine wpAnyH_take (i := 10) (v := ?_) rfl (by kernel_rfl) (by kernel_rfl) (by kernel_rfl) (fun _ _ _ h => h) (Or.inl ⟨by kernel_rfl, ?_⟩) (by assumption) ?_
  rotate_left
  · intro w hSw; (try dsimp only at hSw); go_simp; try with_reducible rfl
  try simp only [Act.put, List.getElem_toArray, List.getElem_cons_succ, List.getElem_cons_zero, List.setIfInBounds_toArray, List.set_cons_zero, List.set_cons_succ]
  refine wpAnyH_done (by kernel_rfl) ?_ _
  go_wp2_with fail
  go_ret2
  exact ⟨rfl, below_of_only (only_drew hfin)⟩
end Go.Proofs.YtlfcaagogeclpaaDoor
/-
  slices.Clone of one state, slices.Insert of a state behind one.
-/
namespace Go.Proofs.YtlfcaagogeclpaaDoor
open Go.RowKit
set_option maxRecDepth 100000 in
theorem info37 : ∃ i z, Tryd.prog.info? 37 = some i ∧ i.zero = some z ∧ i.size = 34 ∧ i.bytes = 48 ∧ z.cells.size = 34 := ⟨_, _, rfl, rfl, rfl, rfl, by kernel_rfl⟩
theorem sdf_list_one (ht : Int) (rt : Nat → BitVec 8) : ∀ u ∈ (Row 34 (sdf ht rt)).toList, u.oneCell' = true := fun u hu => by
  obtain ⟨i, _, rfl⟩ := Row_mem hu
  exact sdf_one _ _ _
theorem SS.cells {w : World} {g : Nat} (hs : SS w g 1) : ∀ j u, (Row 34 (sdf 1 fun _ => 0)).toList[j]? = some u → w.cell? ((⟨g, 0, none⟩ : Addr).add j) = some u := fun j u hu => by
  have h := hs 0 (by omega) j u hu
  rw [Addr.add_lit]
  simpa using h
theorem own_mono {w : World} {b b' e size n : Nat} {v : Value} {xs : List Value} (h : w.ownsRow b e size v n xs) (hb : b' ≤ b) : w.ownsRow b' e size v n xs := by
  obtain ⟨hl, h | ⟨g, cap, cur, h1, h2, h3⟩⟩ := h
  · exact ⟨hl, .inl h⟩
  · exact ⟨hl, .inr ⟨g, cap, cur, h1, Nat.le_trans hb h2, h3⟩⟩
set_option maxRecDepth 100000 in
set_option maxHeartbeats 1000000 in
theorem clone_any (g cap : Nat) (w : World) (hs : SS w g 1) (hg : g < w.heap.size) : Calls Tryd.prog 26 #[.slice (some ⟨g, 0, none⟩) 1 cap] w fun e w' => ∃ v, e = .returned v ∧ w.grownBy w' none ∧ w'.ownsRow w.heap.size 37 34 v 1 (Row 34 (sdf 1 fun _ => 0)).toList := by
  obtain ⟨i, z, h1, h2, h3, h4, h5⟩ := info37
  have hga := only_alloc (only_refl w none) (.cells #[] 37)
  have hr := run_append_arg_grows (P := Tryd.prog) (w.alloc (.cells #[] 37)) 22 22 37 i z 34 48 Tryd.underlying22 h1 h2 h3 h4 h5 (by omega) ⟨w.heap.size, 0, none⟩ 0 0 [] rfl (fun j u hu => by cases hu) ⟨g, 0, none⟩ 1 cap (Row 34 (sdf 1 fun _ => 0)).toList (by rw [len34]) (hs.next hg hga).cells (by omega) (by simp [maxLen]) (by omega)
  obtain ⟨v', w', hrun, hown, hgr⟩ := hr
  rw [List.nil_append, Nat.zero_add] at hown
  have hown' := Lib.hid (own_mono (b' := w.heap.size) hown (by simp))
  have HG := Lib.hid (only_trans hga hgr)
  have hnil : ∀ W : World, (binOp .eql 22 (.slice (some ⟨g, 0, none⟩) 1 cap) (.slice none 0 0)).run Tryd.prog W = .ok (.bool false) W := fun W => Lib.run_eql_slice_some_nil W _ _ _ Tryd.underlying22
  clear h1 h2 h3 h4 h5 hown hga hgr
  go_enter Tryd.func26, Tryd.ntmps26
  go_wp2_with (first
    | (at_builtin; refine Lib.wpList_append_run _ rfl (.tmp 5) (.tmp 6) 22 22 rfl _ _ rfl rfl _ _ hrun ?_))
  go_ret
  exact ⟨v', rfl, HG.out, hown'.out⟩
set_option maxRecDepth 100000 in
set_option maxHeartbeats 1000000 in
theorem insert_any (base g cap q : Nat) (w : World) (xs ys : List Value) (hb : base ≤ w.heap.size) (hx : w.ownsRow base 37 34 (.slice (some ⟨g, 0, none⟩) 1 cap) 1 xs)
    (hl : ys.length = 34) (hy : ∀ j u, ys[j]? = some u → w.cell? ((⟨q, 0, none⟩ : Addr).add j) = some u) (h1 : ∀ u ∈ ys, u.oneCell' = true) :
    Calls Tryd.prog 25 #[.slice (some ⟨g, 0, none⟩) 1 cap, .int .i64 1, .slice (some ⟨q, 0, none⟩) 1 1] w fun e w' => ∃ v, e = .returned v ∧ w.grownBy w' (some g) ∧ w'.ownsRow base 37 34 v 2 (xs ++ ys) := by
  obtain ⟨i, z, k1, k2, k3, k4, k5⟩ := info37
  obtain ⟨v', w', hrun, hown, hgr, _⟩ := run_append_own (P := Tryd.prog) w base 22 22 37 i z 34 48 Tryd.underlying22 k1 k2 k3 k4 k5 (by omega) (.slice (some ⟨g, 0, none⟩) 1 cap) 1 xs hx ⟨q, 0, none⟩ 1 1 ys (by rw [hl]) hy h1 (by simp [maxLen]) (by omega) hb
  have hcap : 1 ≤ cap := by
    obtain ⟨_, ⟨h, _⟩ | ⟨g', cap', cur, h, _, _, h2, _⟩⟩ := hx
    · cases h
    · cases h; exact h2
  have hcap' : (1 : Int) ≤ (cap : Int) := by omega
  have HO := Lib.hid hown
  have HG := Lib.hid hgr
  clear k1 k2 k3 k4 k5 hown hgr hx hy h1 hl
  go_enter Tryd.func25, Tryd.ntmps25
  go_wp2_with (first
    | (at_builtin; refine Lib.wpList_append_run _ rfl (.tmp 23) (.tmp 24) 22 22 rfl _ _ rfl rfl _ _ hrun ?_))
  all_goals (go_ret; exact ⟨v', rfl, HG.out, HO.out⟩)
end Go.Proofs.YtlfcaagogeclpaaDoor
/-
  client.put of the example's: what is the same in its three cases.
-/
namespace Go.Proofs.YtlfcaagogeclpaaDoor
open Go.RowKit
theorem yields_agg_bin {ops : Array Oper} {S : World → Prop} {o : Oper} {a : Act} (hw : Region.wanted o (yielded ops a.tmps) = true) (op : BinOp) (ty ty' : TypeId) (x y : Operand) (ho : o.op = .binOp op ty x y ty') (xs ys : Array Value)
    (hx : a.eval x = .agg xs) (hy : a.eval y = .agg ys) (hm : Tryd.prog.eqGuardType Tryd.prog.depth ty = false) (v : Value) (h : ∀ W : World, (binOp op ty (.agg xs) (.agg ys)).run Tryd.prog W = .ok v W) : YieldsIf Tryd.prog ops S o v a :=
  .inl ⟨hw, fun w _ => by
    unfold execOp
    simp only [ho, hx, hy, Sem.run_bind, run_eqGuard_agg w op ty x y xs ys hm, Result.andThen_ok, h w]
    rfl⟩
theorem guard37 : Tryd.prog.eqGuardType Tryd.prog.depth 37 = false := by kernel_rfl
theorem guard28 : Tryd.prog.eqGuardType Tryd.prog.depth 28 = false := by kernel_rfl
theorem sdf_stf (h : Int) (rt : Nat → BitVec 8) : sdf h rt = stf h 0 fun i => (rt i).toNat := rfl
theorem eql_sdf (h : Int) (r1 r2 : Nat → BitVec 8) (v : Bool) (hv : ((List.range 32).all fun i => ((r1 i).toNat : Int) == ((r2 i).toNat : Int)) = v) (w : World) : (binOp .eql 37 (.agg (Row 34 (sdf h r1))) (.agg (Row 34 (sdf h r2)))).run Tryd.prog w = .ok (.bool v) w := by
  rw [run_eql_struct, sdf_stf, sdf_stf, eq_state 9997 h 0 h 0 _ _ w]
  subst hv
  simp
/-- What stands in put: the client's copy, the state's, the result. -/
def PU (w : World) (fz : Bool) (g n cap : Nat) (rt : Nat → BitVec 8) (W : World) : Prop :=
  w.grownBy W none ∧ Blk W w.heap.size 24 5 (clf fz g n cap) ∧ Blk W (w.heap.size + 1) 37 34 (sdf 2 rt) ∧ Blk W (w.heap.size + 2) 24 5 zcl ∧ SS W g n ∧ g < w.heap.size
theorem PU.next {w : World} {fz : Bool} {g n cap : Nat} {rt : Nat → BitVec 8} {W W2 : World} (h : PU w fz g n cap rt W) (hb : W.grownBy W2 none) : PU w fz g n cap rt W2 := by
  obtain ⟨h1, h2, h3, h4, h5, h6⟩ := h
  exact ⟨only_trans h1 hb, h2.grown hb (by simp), h3.grown hb (by simp), h4.grown hb (by simp), h5.next (Nat.lt_of_lt_of_le h6 h1.size) hb, h6⟩
theorem PU.below {w : World} {fz : Bool} {g n cap : Nat} {rt : Nat → BitVec 8} {W W2 : World} (h : PU w fz g n cap rt W) (hb : Below W.heap.size W W2) : PU w fz g n cap rt W2 := h.next (only_of_below hb none)
theorem PU.lt {w : World} {fz : Bool} {g n cap : Nat} {rt : Nat → BitVec 8} {W : World} (h : PU w fz g n cap rt W) : g < W.heap.size := Nat.lt_of_lt_of_le h.2.2.2.2.2 h.1.size
theorem PU.sl {w : World} {B : Nat} (HB : Go.RowKit.Hid (w.heap.size = B)) {fz : Bool} {g n cap : Nat} {rt : Nat → BitVec 8} {W : World} (h : PU w fz g n cap rt W) : W.cell? ⟨B, 4, none⟩ = some (.slice (some ⟨g, 0, none⟩) n cap) ∧ PU w fz g n cap rt W := ⟨HB.out ▸ h.2.1.cell (by omega), h⟩
theorem PU.start (w : World) (fz : Bool) (g n cap : Nat) (rt : Nat → BitVec 8) (hs : SS w g n) (hg : g < w.heap.size) (Z1 Z2 Z3 : Array Value) (h1 : Z1 = Row 5 (clf fz g n cap)) (h2 : Z2 = Row 34 (sdf 2 rt)) (h3 : Z3 = Row 5 zcl) :
    PU w fz g n cap rt (((w.alloc (.cells Z1 24)).alloc (.cells Z2 37)).alloc (.cells Z3 24)) := by
  obtain ⟨hw, hb, hz⟩ := two_more w Z1 Z2 24 37 5 34 _ _ h1 h2
  have h4 := Blk.new ((w.alloc (.cells Z1 24)).alloc (.cells Z2 37)) 24 h3
  rw [World.size_alloc, World.size_alloc] at h4
  exact ⟨only_alloc hw _, hb.alloc _, hz.alloc _, h4, hs.next hg (only_alloc hw _), hg⟩
end Go.Proofs.YtlfcaagogeclpaaDoor
