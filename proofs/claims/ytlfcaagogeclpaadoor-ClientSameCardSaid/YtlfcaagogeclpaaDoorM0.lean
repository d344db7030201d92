/-
  twinspanlaw14.awake: the chapter's example.
-/
import Derived.Test.YtlfcaagogeclpaaDoorL9
import Derived.Test.YtlfcaagogeclpaaDoorI2
import Derived.Test.YtlfcaagogeclpaaDoorKK
set_option linter.unusedSimpArgs false
set_option linter.unusedVariables false
namespace Go.Proofs.YtlfcaagogeclpaaDoor
open Go.RowKit
theorem built30' : Tryd.prog.built 30 [(0, .string ⟨#[97]⟩), (1, .int .i64 1)] = some (Row 35 (hdf 1 fun _ => 0)) := by kernel_rfl
theorem one_new (w : World) (Z : Array Value) (t n : Nat) (g : Nat → Value) (h : Z = Row n g) : w.grownBy (w.alloc (.cells Z t)) none ∧ Blk (w.alloc (.cells Z t)) w.heap.size t n g := ⟨only_alloc (only_refl w none) _, Blk.new w t h⟩
theorem GL.set {w : World} (h : GL w) {p : Addr} (hb : 1 < p.block) (v : Value) : GL (w.setCell p v) := ⟨fun i hi => by rw [cell_of_heap (Below.heap_setCell w p v 1 (by omega))]; exact h.1 i hi, fun i hi => by rw [cell_of_heap (Below.heap_setCell w p v 0 (by omega))]; exact h.2 i hi⟩
theorem CB.set {x : CD} {W : World} (h : CB x W) {p : Addr} (h1 : x.b ≠ p.block) (h2 : x.g ≠ p.block) (v : Value) : CB x (W.setCell p v) :=
  ⟨h.1.far h1 v, SS_set h.2.1 h2 v, Nat.lt_of_lt_of_le h.2.2 (only_setCell (only_refl W (some p.block)) (.inl rfl) v).size⟩
theorem CB.facts {x : CD} {W : World} (h : CB x W) : W.cell? ⟨x.b, 0, none⟩ = some (.string ⟨#[97]⟩) ∧ W.cell? ⟨x.b, 1, none⟩ = some (.string ⟨#[107]⟩) ∧ W.cell? ⟨x.b, 2, none⟩ = some (.int .i64 10) ∧ W.cell? ⟨x.b, 3, none⟩ = some (.bool x.fz) ∧ W.cell? ⟨x.b, 4, none⟩ = some (.slice (some ⟨x.g, 0, none⟩) x.n x.cap) :=
  ⟨h.1.cell (by omega), h.1.cell (by omega), h.1.cell (by omega), h.1.cell (by omega), h.1.cell (by omega)⟩
theorem eqTo_self (s : Nat → Stt) (n : Nat) : eqTo s s n = true := List.all_eq_true.2 fun j _ => Stt.eq_self _
theorem Cl.same_self (x : Cl) : x.same x = true := by simp [Cl.same, eqTo_self]
theorem SS_ok {w : World} {g c : Nat} (h : SS w g 2) : Cl.ok ⟨⟨#[97]⟩, ⟨#[107]⟩, 10, false, some ⟨g, 0, none⟩, 2, c, fun j => ⟨j + 1, 0, fun _ => 0⟩⟩ w := by
  refine ⟨.inr ⟨g, 0, rfl, fun j hj i hi => ?_⟩, by simp⟩
  have := h j hj i (sdf ((j : Int) + 1) (fun _ => 0) i) (by rw [Array.getElem?_toList, Row_get hi])
  rw [show 0 + j * 34 + i = 34 * j + i by omega, this]
  rfl
theorem hdf_two : ∀ i, i < 35 → upd (hdf 1 fun _ => 0) 1 (.int .i64 2) i = hdf 2 (fun _ => 0) i := fun i _ => by
  unfold upd hdf
  by_cases h : i = 1
  · subst h; rfl
  · rw [if_neg h, if_neg h, if_neg h]
theorem hdf_rt1 : ∀ i, i < 35 → upd (hdf 2 fun _ => 0) 3 (.int .u8 1) i = hdf 2 rt1 i := fun i _ => by
  unfold upd hdf rt1
  by_cases h : i = 3
  · subst h; rfl
  · rw [if_neg h]
    by_cases h0 : i = 0
    · rw [if_pos h0, if_pos h0]
    · rw [if_neg h0, if_neg h0]
      by_cases h1 : i = 1
      · rw [if_pos h1, if_pos h1]
      · rw [if_neg h1, if_neg h1]
        by_cases h2 : i = 2
        · rw [if_pos h2, if_pos h2]
        · rw [if_neg h2, if_neg h2, if_neg (by omega)]
theorem AQ.first {w w2 : World} {B g : Nat} (HB : w.heap.size = B) (A1 : Blk w2 B 30 35 (hdf 1 fun _ => 0)) (A2 : w.grownBy w2 none) (A3 : SS w2 g 1) (A4 : GL w2) (hlt : g < w2.heap.size) (hge : B + 1 ≤ g) (hz : 1 < B) (Z : Array Value) (hZ : Z = Row 5 zcl) :
    AQ w B (fun _ => 0) [⟨w2.heap.size, false, g, 1, 1⟩] (((w2.alloc (.cells Z 24)).setRow w2.heap.size (Row 5 (clf false g 1 1))).setCell ⟨B, 1, none⟩ (.int .i64 2)) := by
  obtain ⟨k1, k2⟩ := one_new w2 Z 24 5 _ hZ
  have hB2 := A1.lt
  have hs := A3.next hlt k1
  have hl : g < (w2.alloc (.cells Z 24)).heap.size := Nat.lt_of_lt_of_le hlt k1.size
  refine ⟨only_setCell (only_setRow (only_alloc A2 _) (.inr (by omega)) _) (p := ⟨B, 1, none⟩) (.inr (Nat.le_of_eq HB)) _, ((((A1.alloc _).setRow_far (by omega) _).set_ 1 (.int .i64 2)).congr hdf_two), ((A4.next k1).setRow (by omega) _).set (p := ⟨B, 1, none⟩) hz _, Nat.le_of_eq HB, by omega, fun x hx => ?_⟩
  rcases List.mem_cons.1 hx with rfl | hx
  · exact CB.set (x := ⟨w2.heap.size, false, g, 1, 1⟩) (p := ⟨B, 1, none⟩) ⟨k2.setRow_ _, SS_setRow hs (Nat.ne_of_lt hlt) _, by rw [setRow_size]; exact hl⟩ (show w2.heap.size ≠ B by omega) (show g ≠ B by omega) _
  · cases hx
/-- The header's root turns. -/
theorem AQ.turn {w W : World} {B : Nat} {L : List CD} (h : AQ w B (fun _ => 0) L W) (hL : ∀ x ∈ L, x.b ≠ B ∧ x.g ≠ B) : AQ w B rt1 L (W.setCell ⟨B, 3, none⟩ (.int .u8 1)) := by
  obtain ⟨h1, h2, h3, h4, h5, h6⟩ := h
  exact ⟨only_setCell h1 (p := ⟨B, 3, none⟩) (.inr h4) _, (h2.set_ 3 (.int .u8 1)).congr hdf_rt1, h3.set (p := ⟨B, 3, none⟩) (Nat.lt_of_lt_of_le h5 h4) _, h4, h5, fun x hx => (h6 x hx).set (p := ⟨B, 3, none⟩) (hL x hx).1 (hL x hx).2 _⟩
theorem AQ.next_drew {w : World} {H : Nat} {rt : Nat → BitVec 8} {L : List CD} {W : World} (h : AQ w H rt L W) : AQ w H rt L W.drew := h.next (only_drew (only_refl _ none))
set_option maxRecDepth 100000 in
set_option maxHeartbeats 8000000 in
theorem awake_any (w : World) (hG : GL w) : Calls Tryd.prog 4 #[] w fun e w' => e = .returned (.bool true) ∧ Below w.heap.size w w' := by
  have HZ := Lib.hid (one_new w _ 30 35 _ zeros35)
  have HG := Lib.hid hG
  clear hG
  go_enter Tryd.func4, Tryd.ntmps4
  go_wp2_with (first
    | (refine wpList_build_all rfl 30 #[(0, .const (.string ⟨#[97]⟩)), (1, .const (.int .i64 1))] rfl [(0, .string ⟨#[97]⟩), (1, .int .i64 1)] rfl _ built30' ?_)
    | (refine wpList_store_blk rfl 30 (.tmp 1) (.tmp 10) rfl w.heap.size 30 35 _ (hdf 1 fun _ => 0) _ rfl rfl rfl HZ.out.2 size30 (fun i _ => hdf_one _ _ i) ?_)
    | (refine wpList_load_blk rfl 30 (.tmp 1) rfl w.heap.size 30 35 (hdf 1 fun _ => 0) rfl (HZ.out.2.setRow_ _) _ Tryd.underlying30 rfl size30 ?_))
  have h1 := HZ.out.2.setRow_ (n' := 35) (hdf 1 fun _ => 0)
  have hw1 := only_setRow HZ.out.1 (.inr (Nat.le_refl _)) (Row 35 (hdf 1 fun _ => 0))
  refine (cnew_any _).mono ?_
  rintro e w2 ⟨g, rfl, hb2, hs, hge, hlt⟩
  replace h1 := h1.below hb2 h1.lt
  replace hw1 := only_next hw1 hb2
  rw [setRow_size, World.size_alloc] at hge
  clear HZ hb2
  have hg := HG.out.next hw1
  have hz := HG.out.size
  clear HG
  rw [cl_eq]
  have HY := Lib.hid (one_new w2 _ 24 5 _ zcl_row)
  have hlt2 := h1.lt
  have A1 := Lib.hid h1
  have A2 := Lib.hid hw1
  have A3 := Lib.hid hs
  have A4 := Lib.hid hg
  generalize hB : w.heap.size = B at *
  have HB := Lib.hid hB
  have hA := Lib.hid (AQ.first HB.out A1.out A2.out A3.out A4.out hlt hge hz _ zcl_row)
  have hf1 : ∀ o : Obj, ((w2.alloc o).setRow w2.heap.size (Row 5 (clf false g 1 1))).frozen? ⟨B, 1, none⟩ = false := fun o => ((h1.alloc o).setRow_far (Nat.ne_of_lt hlt2) _).free 1
  have hc1 : ∀ o : Obj, ((w2.alloc o).setRow w2.heap.size (Row 5 (clf false g 1 1))).cell? ⟨B, 1, none⟩ = some (.int .i64 1) := fun o => ((h1.alloc o).setRow_far (Nat.ne_of_lt hlt2) _).cell (by omega)
  clear hB h1 hw1 hs hg A1 A2 A3 A4
  go_wp2_with (first
    | (refine wpList_store_blk rfl 24 (.tmp 2) (.tmp 14) rfl w2.heap.size 24 5 _ (clf false g 1 1) _ rfl rfl rfl HY.out.2 size24 (fun i _ => clf_one _ _ _ _ i) ?_))
  clear HY hf1 hc1
  generalize World.setCell _ _ _ = W4 at hA ⊢
  have hQ := hA.out
  have hne : g ≠ B := by omega
  have hne2 : w2.heap.size ≠ B := by omega
  generalize w2.heap.size = b2 at hQ hne2 ⊢
  clear hA hlt hlt2 hge HB
  refine Code.wp_mono (Q := fun e a W => e = .normal ∧ ∃ b4 g4 c4 u10 u11 u12 u13 u14 u15 u16 u17 u18 u19 u20 u21 u22 u23 u24, a = { tmps := #[.bool false, .pointer (some ⟨B, 0, none⟩), .pointer (some ⟨b2, 0, none⟩), .int .i64 0, .pointer (some ⟨b4, 0, none⟩), .int .i64 0, undef, undef, undef, undef, u10, u11, u12, u13, u14, u15, u16, u17, u18, u19, u20, u21, u22, u23, u24, undef, undef, undef, undef, undef, undef, undef, undef, undef, undef, undef, undef, undef, undef, undef, undef, undef, undef, undef, undef, undef, undef, undef, undef, undef, undef, undef, undef, undef, undef, undef, undef, undef, undef, undef, undef, undef, undef, undef, undef, undef, undef, undef, undef, undef, undef, undef, undef, undef, undef, undef, undef], defers := [] } ∧ AQ w B (fun _ => 0) [⟨b4, false, g4, 2, c4⟩, ⟨b2, false, g, 1, 1⟩] W ∧ b4 ≠ B ∧ g4 ≠ B) ?_ ?_
  rotate_left
  · refine wp_region_held_drew (S := AQ w B (fun _ => 0) [⟨b2, false, g, 1, 1⟩]) (by kernel_rfl) hQ.next_drew (fun hHeld => ?_)
    clear hQ
    refine wpAnyH_take (i := 0) rfl (by kernel_rfl) (by kernel_rfl) (by kernel_rfl) (fun _ _ _ h => nomatch h.1) (yields_row (by kernel_rfl) 24 (.tmp 2) rfl b2 0 5 (clf false g 1 1) rfl _ (fun W h => (h.get (x := ⟨b2, false, g, 1, 1⟩) (by simp)).1.range) Tryd.underlying24 rfl size24) (by assumption) ?_
    try simp only [Act.put, List.getElem_toArray, List.getElem_cons_succ, List.getElem_cons_zero, List.setIfInBounds_toArray, List.set_cons_zero, List.set_cons_succ]
    refine wpAnyH_take (i := 1) rfl (by kernel_rfl) (by kernel_rfl) (by kernel_rfl) (fun _ _ _ h => nomatch h.1) (yields_row (by kernel_rfl) 30 (.tmp 1) rfl B 0 35 (hdf 2 (fun _ => 0)) rfl _ (fun W h => h.2.1.range) Tryd.underlying30 rfl size30) (by assumption) ?_
    try simp only [Act.put, List.getElem_toArray, List.getElem_cons_succ, List.getElem_cons_zero, List.setIfInBounds_toArray, List.set_cons_zero, List.set_cons_succ]
    refine wpAnyH_take (i := 2) rfl (by kernel_rfl) (by kernel_rfl) (by kernel_rfl) (fun _ _ _ h => nomatch h.1) (yields_row (by kernel_rfl) 30 (.tmp 1) rfl B 0 35 (hdf 2 (fun _ => 0)) rfl _ (fun W h => h.2.1.range) Tryd.underlying30 rfl size30) (by assumption) ?_
    try simp only [Act.put, List.getElem_toArray, List.getElem_cons_succ, List.getElem_cons_zero, List.setIfInBounds_toArray, List.set_cons_zero, List.set_cons_succ]
    refine wpAnyH_ready (rs := [3, 8]) (by kernel_rfl) (by simp) ?_
    refine AllReadyH.cons rfl (fun K hK => ?_) (AllReadyH.cons rfl (fun K hK => ?_) AllReadyH.nil)
    · go_simp
      go_at_call 9
      refine (refseal_any (fun _ => 0) _).mono ?_
      rintro e w5 ⟨rfl, hb2⟩
      have hgr := only_of_below hb2 none
      clear hb2
      refine hK.out _ _ (hHeld.next hgr) (fun hHeld => ?_)
      clear hK K hgr
      try simp only [Act.put, List.getElem_toArray, List.getElem_cons_succ, List.getElem_cons_zero, List.setIfInBounds_toArray, List.set_cons_zero, List.set_cons_succ]
      refine wpAnyH_ready (rs := [4, 8]) (by kernel_rfl) (by simp) ?_
      refine AllReadyH.cons rfl (fun K hK => ?_) (AllReadyH.cons rfl (fun K hK => ?_) AllReadyH.nil)
      · have hX := hHeld.get (x := ⟨b2, false, g, 1, 1⟩) (by simp)
        go_simp
        go_at_call 8
        refine (upd1_any g 1 _ hX.2.1 hX.2.2 hHeld.2.2.1).mono ?_
        rintro e w6 ⟨fz, g4, n2, c4, rfl, hb2, hs2, hg2, hgg, hC⟩
        have hgB : g4 ≠ B := by have := hHeld.2.1.lt; omega
        obtain ⟨rfl, rfl⟩ := hC
        have hgr := only_of_below hb2 none
        clear hb2 hgg hX
        refine hK.out _ _ (hHeld.next hgr) (fun hHeld => ?_)
        clear hK K hgr
        try simp only [Act.put, List.getElem_toArray, List.getElem_cons_succ, List.getElem_cons_zero, List.setIfInBounds_toArray, List.set_cons_zero, List.set_cons_succ]
        refine wpAnyH_take (i := 5) (v := ?_) rfl (by kernel_rfl) (by kernel_rfl) (by kernel_rfl) (fun _ _ _ h => nomatch h.1) (Or.inl ⟨by kernel_rfl, ?_⟩) (by assumption) ?_
        rotate_left
        · intro w hSw; (try dsimp only at hSw); go_simp; try with_reducible rfl
        try simp only [Act.put, List.getElem_toArray, List.getElem_cons_succ, List.getElem_cons_zero, List.setIfInBounds_toArray, List.set_cons_zero, List.set_cons_succ]
        refine wpAnyH_take (i := 6) (v := ?_) rfl (by kernel_rfl) (by kernel_rfl) (by kernel_rfl) (fun _ _ _ h => nomatch h.1) (Or.inl ⟨by kernel_rfl, ?_⟩) (by assumption) ?_
        rotate_left
        · intro w hSw; (try dsimp only at hSw); go_simp; try with_reducible rfl
        try simp only [Act.put, List.getElem_toArray, List.getElem_cons_succ, List.getElem_cons_zero, List.setIfInBounds_toArray, List.set_cons_zero, List.set_cons_succ]
        refine wpAnyH_take (i := 7) (v := ?_) rfl (by kernel_rfl) (by kernel_rfl) (by kernel_rfl) (fun _ _ _ h => nomatch h.1) (Or.inl ⟨by kernel_rfl, ?_⟩) (by assumption) ?_
        rotate_left
        · intro w hSw; (try dsimp only at hSw); go_simp; try with_reducible rfl
        try simp only [Act.put, List.getElem_toArray, List.getElem_cons_succ, List.getElem_cons_zero, List.setIfInBounds_toArray, List.set_cons_zero, List.set_cons_succ]
        refine wpAnyH_ready (rs := [8]) (by kernel_rfl) (by simp) ?_
        refine AllReadyH.cons rfl (fun K hK => ?_) AllReadyH.nil
        rw [if_pos (by kernel_rfl)]
        refine opw_alloc24 rfl fun b4 W1 hgr hbN hbE => ?_
        have hcl : Clear w B [⟨b2, false, g, 1, 1⟩] b4 := hbE ▸ hHeld.clear
        have hne2 : g4 ≠ b4 := by omega
        clear hbE
        replace hs2 := hs2.next hg2 hgr
        replace hg2 := Nat.lt_of_lt_of_le hg2 hgr.size
        have hb := hbN
        clear hbN
        refine hK.out _ _ (hHeld.next hgr) (fun hHeld => ?_)
        clear hK K hgr
        try simp only [Act.put, List.getElem_toArray, List.getElem_cons_succ, List.getElem_cons_zero, List.setIfInBounds_toArray, List.set_cons_zero, List.set_cons_succ]
        refine wpAnyH_ready (rs := [9]) (by kernel_rfl) (by simp) ?_
        refine AllReadyH.cons rfl (fun K hK => ?_) AllReadyH.nil
        rw [if_pos (by kernel_rfl)]
        refine opw_store_blk 24 (.tmp 4) (.tmp 23) rfl b4 24 5 zcl (clf false g4 2 c4) rfl rfl hb size24 (fun i _ => clf_one _ _ _ _ i) ?_
        have hN := hHeld.store hcl hb (fz := false) (cap := c4) hs2 hg2 hne2
        refine hK.out _ _ hN.drop (fun hHeld => ?_)
        clear hK K
        try simp only [Act.put, List.getElem_toArray, List.getElem_cons_succ, List.getElem_cons_zero, List.setIfInBounds_toArray, List.set_cons_zero, List.set_cons_succ]
        refine wpAnyH_take (i := 10) (v := ?_) rfl (by kernel_rfl) (by kernel_rfl) (by kernel_rfl) (fun _ _ _ h => nomatch h.1) (Or.inl ⟨by kernel_rfl, ?_⟩) (by assumption) ?_
        rotate_left
        · intro w hSw; (try dsimp only at hSw); go_simp; try with_reducible rfl
        try simp only [Act.put, List.getElem_toArray, List.getElem_cons_succ, List.getElem_cons_zero, List.setIfInBounds_toArray, List.set_cons_zero, List.set_cons_succ]
        refine wpAnyH_done (by kernel_rfl) ?_ _
        exact ⟨rfl, b4, g4, c4, _, _, _, _, _, _, _, _, _, _, _, _, _, _, _, rfl, hN, (Ne.symm hcl.2.1), hgB⟩
      · rw [if_pos (by kernel_rfl)]
        refine opw_alloc24 rfl fun b4 W1 hgr hbN hbE => ?_
        have hcl : Clear w B [⟨b2, false, g, 1, 1⟩] b4 := hbE ▸ hHeld.clear
        clear hbE
        have hb := hbN
        clear hbN
        refine hK.out _ _ (hHeld.next hgr) (fun hHeld => ?_)
        clear hK K hgr
        try simp only [Act.put, List.getElem_toArray, List.getElem_cons_succ, List.getElem_cons_zero, List.setIfInBounds_toArray, List.set_cons_zero, List.set_cons_succ]
        refine wpAnyH_ready (rs := [4]) (by kernel_rfl) (by simp) ?_
        refine AllReadyH.cons rfl (fun K hK => ?_) AllReadyH.nil
        have hX := hHeld.get (x := ⟨b2, false, g, 1, 1⟩) (by simp)
        go_simp
        go_at_call 8
        refine (upd1_any g 1 _ hX.2.1 hX.2.2 hHeld.2.2.1).mono ?_
        rintro e w6 ⟨fz, g4, n2, c4, rfl, hb2, hs2, hg2, hgg, hC⟩
        have hgB : g4 ≠ B := by have := hHeld.2.1.lt; omega
        have hcg := (hcl.2.2 ⟨b2, false, g, 1, 1⟩ (by simp)).2
        dsimp only at hcg
        have hne2 : g4 ≠ b4 := by have := hb.lt; omega
        obtain ⟨rfl, rfl⟩ := hC
        have hgr := only_of_below hb2 none
        clear hb2 hgg hX
        replace hb := hb.grown hgr (by simp)
        refine hK.out _ _ (hHeld.next hgr) (fun hHeld => ?_)
        clear hK K hgr
        try simp only [Act.put, List.getElem_toArray, List.getElem_cons_succ, List.getElem_cons_zero, List.setIfInBounds_toArray, List.set_cons_zero, List.set_cons_succ]
        refine wpAnyH_take (i := 5) (v := ?_) rfl (by kernel_rfl) (by kernel_rfl) (by kernel_rfl) (fun _ _ _ h => nomatch h.1) (Or.inl ⟨by kernel_rfl, ?_⟩) (by assumption) ?_
        rotate_left
        · intro w hSw; (try dsimp only at hSw); go_simp; try with_reducible rfl
        try simp only [Act.put, List.getElem_toArray, List.getElem_cons_succ, List.getElem_cons_zero, List.setIfInBounds_toArray, List.set_cons_zero, List.set_cons_succ]
        refine wpAnyH_take (i := 6) (v := ?_) rfl (by kernel_rfl) (by kernel_rfl) (by kernel_rfl) (fun _ _ _ h => nomatch h.1) (Or.inl ⟨by kernel_rfl, ?_⟩) (by assumption) ?_
        rotate_left
        · intro w hSw; (try dsimp only at hSw); go_simp; try with_reducible rfl
        try simp only [Act.put, List.getElem_toArray, List.getElem_cons_succ, List.getElem_cons_zero, List.setIfInBounds_toArray, List.set_cons_zero, List.set_cons_succ]
        refine wpAnyH_take (i := 7) (v := ?_) rfl (by kernel_rfl) (by kernel_rfl) (by kernel_rfl) (fun _ _ _ h => nomatch h.1) (Or.inl ⟨by kernel_rfl, ?_⟩) (by assumption) ?_
        rotate_left
        · intro w hSw; (try dsimp only at hSw); go_simp; try with_reducible rfl
        try simp only [Act.put, List.getElem_toArray, List.getElem_cons_succ, List.getElem_cons_zero, List.setIfInBounds_toArray, List.set_cons_zero, List.set_cons_succ]
        refine wpAnyH_ready (rs := [9]) (by kernel_rfl) (by simp) ?_
        refine AllReadyH.cons rfl (fun K hK => ?_) AllReadyH.nil
        rw [if_pos (by kernel_rfl)]
        refine opw_store_blk 24 (.tmp 4) (.tmp 23) rfl b4 24 5 zcl (clf false g4 2 c4) rfl rfl hb size24 (fun i _ => clf_one _ _ _ _ i) ?_
        have hN := hHeld.store hcl hb (fz := false) (cap := c4) hs2 hg2 hne2
        refine hK.out _ _ hN.drop (fun hHeld => ?_)
        clear hK K
        try simp only [Act.put, List.getElem_toArray, List.getElem_cons_succ, List.getElem_cons_zero, List.setIfInBounds_toArray, List.set_cons_zero, List.set_cons_succ]
        refine wpAnyH_take (i := 10) (v := ?_) rfl (by kernel_rfl) (by kernel_rfl) (by kernel_rfl) (fun _ _ _ h => nomatch h.1) (Or.inl ⟨by kernel_rfl, ?_⟩) (by assumption) ?_
        rotate_left
        · intro w hSw; (try dsimp only at hSw); go_simp; try with_reducible rfl
        try simp only [Act.put, List.getElem_toArray, List.getElem_cons_succ, List.getElem_cons_zero, List.setIfInBounds_toArray, List.set_cons_zero, List.set_cons_succ]
        refine wpAnyH_done (by kernel_rfl) ?_ _
        exact ⟨rfl, b4, g4, c4, _, _, _, _, _, _, _, _, _, _, _, _, _, _, _, rfl, hN, (Ne.symm hcl.2.1), hgB⟩
    · rw [if_pos (by kernel_rfl)]
      refine opw_alloc24 rfl fun b4 W1 hgr hbN hbE => ?_
      have hcl : Clear w B [⟨b2, false, g, 1, 1⟩] b4 := hbE ▸ hHeld.clear
      clear hbE
      have hb := hbN
      clear hbN
      refine hK.out _ _ (hHeld.next hgr) (fun hHeld => ?_)
      clear hK K hgr
      try simp only [Act.put, List.getElem_toArray, List.getElem_cons_succ, List.getElem_cons_zero, List.setIfInBounds_toArray, List.set_cons_zero, List.set_cons_succ]
      refine wpAnyH_ready (rs := [3]) (by kernel_rfl) (by simp) ?_
      refine AllReadyH.cons rfl (fun K hK => ?_) AllReadyH.nil
      go_simp
      go_at_call 9
      refine (refseal_any (fun _ => 0) _).mono ?_
      rintro e w5 ⟨rfl, hb2⟩
      have hgr := only_of_below hb2 none
      clear hb2
      replace hb := hb.grown hgr (by simp)
      refine hK.out _ _ (hHeld.next hgr) (fun hHeld => ?_)
      clear hK K hgr
      try simp only [Act.put, List.getElem_toArray, List.getElem_cons_succ, List.getElem_cons_zero, List.setIfInBounds_toArray, List.set_cons_zero, List.set_cons_succ]
      refine wpAnyH_ready (rs := [4]) (by kernel_rfl) (by simp) ?_
      refine AllReadyH.cons rfl (fun K hK => ?_) AllReadyH.nil
      have hX := hHeld.get (x := ⟨b2, false, g, 1, 1⟩) (by simp)
      go_simp
      go_at_call 8
      refine (upd1_any g 1 _ hX.2.1 hX.2.2 hHeld.2.2.1).mono ?_
      rintro e w6 ⟨fz, g4, n2, c4, rfl, hb2, hs2, hg2, hgg, hC⟩
      have hgB : g4 ≠ B := by have := hHeld.2.1.lt; omega
      have hcg := (hcl.2.2 ⟨b2, false, g, 1, 1⟩ (by simp)).2
      dsimp only at hcg
      have hne2 : g4 ≠ b4 := by have := hb.lt; omega
      obtain ⟨rfl, rfl⟩ := hC
      have hgr := only_of_below hb2 none
      clear hb2 hgg hX
      replace hb := hb.grown hgr (by simp)
      refine hK.out _ _ (hHeld.next hgr) (fun hHeld => ?_)
      clear hK K hgr
      try simp only [Act.put, List.getElem_toArray, List.getElem_cons_succ, List.getElem_cons_zero, List.setIfInBounds_toArray, List.set_cons_zero, List.set_cons_succ]
      refine wpAnyH_take (i := 5) (v := ?_) rfl (by kernel_rfl) (by kernel_rfl) (by kernel_rfl) (fun _ _ _ h => nomatch h.1) (Or.inl ⟨by kernel_rfl, ?_⟩) (by assumption) ?_
      rotate_left
      · intro w hSw; (try dsimp only at hSw); go_simp; try with_reducible rfl
      try simp only [Act.put, List.getElem_toArray, List.getElem_cons_succ, List.getElem_cons_zero, List.setIfInBounds_toArray, List.set_cons_zero, List.set_cons_succ]
      refine wpAnyH_take (i := 6) (v := ?_) rfl (by kernel_rfl) (by kernel_rfl) (by kernel_rfl) (fun _ _ _ h => nomatch h.1) (Or.inl ⟨by kernel_rfl, ?_⟩) (by assumption) ?_
      rotate_left
      · intro w hSw; (try dsimp only at hSw); go_simp; try with_reducible rfl
      try simp only [Act.put, List.getElem_toArray, List.getElem_cons_succ, List.getElem_cons_zero, List.setIfInBounds_toArray, List.set_cons_zero, List.set_cons_succ]
      refine wpAnyH_take (i := 7) (v := ?_) rfl (by kernel_rfl) (by kernel_rfl) (by kernel_rfl) (fun _ _ _ h => nomatch h.1) (Or.inl ⟨by kernel_rfl, ?_⟩) (by assumption) ?_
      rotate_left
      · intro w hSw; (try dsimp only at hSw); go_simp; try with_reducible rfl
      try simp only [Act.put, List.getElem_toArray, List.getElem_cons_succ, List.getElem_cons_zero, List.setIfInBounds_toArray, List.set_cons_zero, List.set_cons_succ]
      refine wpAnyH_ready (rs := [9]) (by kernel_rfl) (by simp) ?_
      refine AllReadyH.cons rfl (fun K hK => ?_) AllReadyH.nil
      rw [if_pos (by kernel_rfl)]
      refine opw_store_blk 24 (.tmp 4) (.tmp 23) rfl b4 24 5 zcl (clf false g4 2 c4) rfl rfl hb size24 (fun i _ => clf_one _ _ _ _ i) ?_
      have hN := hHeld.store hcl hb (fz := false) (cap := c4) hs2 hg2 hne2
      refine hK.out _ _ hN.drop (fun hHeld => ?_)
      clear hK K
      try simp only [Act.put, List.getElem_toArray, List.getElem_cons_succ, List.getElem_cons_zero, List.setIfInBounds_toArray, List.set_cons_zero, List.set_cons_succ]
      refine wpAnyH_take (i := 10) (v := ?_) rfl (by kernel_rfl) (by kernel_rfl) (by kernel_rfl) (fun _ _ _ h => nomatch h.1) (Or.inl ⟨by kernel_rfl, ?_⟩) (by assumption) ?_
      rotate_left
      · intro w hSw; (try dsimp only at hSw); go_simp; try with_reducible rfl
      try simp only [Act.put, List.getElem_toArray, List.getElem_cons_succ, List.getElem_cons_zero, List.setIfInBounds_toArray, List.set_cons_zero, List.set_cons_succ]
      refine wpAnyH_done (by kernel_rfl) ?_ _
      exact ⟨rfl, b4, g4, c4, _, _, _, _, _, _, _, _, _, _, _, _, _, _, _, rfl, hN, (Ne.symm hcl.2.1), hgB⟩
  clear hQ
  rintro e a W5 ⟨rfl, b4, g4, c4, u10, u11, u12, u13, u14, u15, u16, u17, u18, u19, u20, u21, u22, u23, u24, rfl, hQ, hnb4, hng4⟩
  dsimp only
  go_wp2_with fail
  refine Code.wp_mono (Q := fun e a W => e = .normal ∧ ∃ b6 u10 u11 u12 u13 u14 u15 u16 u17 u18 u19 u20 u21 u22 u23 u24 u25 u26 u27 u28 u29 u30 u31 u32, a = { tmps := #[.bool false, .pointer (some ⟨B, 0, none⟩), .pointer (some ⟨b2, 0, none⟩), .int .i64 0, .pointer (some ⟨b4, 0, none⟩), .int .i64 0, .pointer (some ⟨b6, 0, none⟩), .int .i64 0, undef, undef, u10, u11, u12, u13, u14, u15, u16, u17, u18, u19, u20, u21, u22, u23, u24, u25, u26, u27, u28, u29, u30, u31, u32, undef, undef, undef, undef, undef, undef, undef, undef, undef, undef, undef, undef, undef, undef, undef, undef, undef, undef, undef, undef, undef, undef, undef, undef, undef, undef, undef, undef, undef, undef, undef, undef, undef, undef, undef, undef, undef, undef, undef, undef, undef, undef, undef, undef], defers := [] } ∧ AQ w B (fun _ => 0) [⟨b6, false, g4, 2, c4⟩, ⟨b4, false, g4, 2, c4⟩, ⟨b2, false, g, 1, 1⟩] W ∧ b6 ≠ B ∧ g4 ≠ B) ?_ ?_
  rotate_left
  · refine wp_region_held_drew (S := AQ w B (fun _ => 0) [⟨b4, false, g4, 2, c4⟩, ⟨b2, false, g, 1, 1⟩]) (by kernel_rfl) hQ.next_drew (fun hHeld => ?_)
    clear hQ
    refine wpAnyH_take (i := 0) rfl (by kernel_rfl) (by kernel_rfl) (by kernel_rfl) (fun _ _ _ h => nomatch h.1) (yields_row (by kernel_rfl) 24 (.tmp 4) rfl b4 0 5 (clf false g4 2 c4) rfl _ (fun W h => (h.get (x := ⟨b4, false, g4, 2, c4⟩) (by simp)).1.range) Tryd.underlying24 rfl size24) (by assumption) ?_
    try simp only [Act.put, List.getElem_toArray, List.getElem_cons_succ, List.getElem_cons_zero, List.setIfInBounds_toArray, List.set_cons_zero, List.set_cons_succ]
    refine wpAnyH_take (i := 1) rfl (by kernel_rfl) (by kernel_rfl) (by kernel_rfl) (fun _ _ _ h => nomatch h.1) (yields_row (by kernel_rfl) 30 (.tmp 1) rfl B 0 35 (hdf 2 (fun _ => 0)) rfl _ (fun W h => h.2.1.range) Tryd.underlying30 rfl size30) (by assumption) ?_
    try simp only [Act.put, List.getElem_toArray, List.getElem_cons_succ, List.getElem_cons_zero, List.setIfInBounds_toArray, List.set_cons_zero, List.set_cons_succ]
    refine wpAnyH_take (i := 2) rfl (by kernel_rfl) (by kernel_rfl) (by kernel_rfl) (fun _ _ _ h => nomatch h.1) (yields_row (by kernel_rfl) 30 (.tmp 1) rfl B 0 35 (hdf 2 (fun _ => 0)) rfl _ (fun W h => h.2.1.range) Tryd.underlying30 rfl size30) (by assumption) ?_
    try simp only [Act.put, List.getElem_toArray, List.getElem_cons_succ, List.getElem_cons_zero, List.setIfInBounds_toArray, List.set_cons_zero, List.set_cons_succ]
    refine wpAnyH_ready (rs := [3, 8]) (by kernel_rfl) (by simp) ?_
    refine AllReadyH.cons rfl (fun K hK => ?_) (AllReadyH.cons rfl (fun K hK => ?_) AllReadyH.nil)
    · go_simp
      go_at_call 9
      refine (refseal_any (fun _ => 0) _).mono ?_
      rintro e w5 ⟨rfl, hb2⟩
      have hgr := only_of_below hb2 none
      clear hb2
      refine hK.out _ _ (hHeld.next hgr) (fun hHeld => ?_)
      clear hK K hgr
      try simp only [Act.put, List.getElem_toArray, List.getElem_cons_succ, List.getElem_cons_zero, List.setIfInBounds_toArray, List.set_cons_zero, List.set_cons_succ]
      refine wpAnyH_ready (rs := [4, 8]) (by kernel_rfl) (by simp) ?_
      refine AllReadyH.cons rfl (fun K hK => ?_) (AllReadyH.cons rfl (fun K hK => ?_) AllReadyH.nil)
      · have hX := hHeld.get (x := ⟨b4, false, g4, 2, c4⟩) (by simp)
        go_simp
        go_at_call 8
        refine (upd2_any g4 c4 _ hX.2.1 hX.2.2 hHeld.2.2.1).mono ?_
        rintro e w6 ⟨fz, g6, n2, c6, rfl, hb2, hs2, hg2, hgg, hC⟩
        have hgB : g6 ≠ B := by have := hHeld.2.1.lt; omega
        obtain ⟨rfl, rfl, rfl, rfl⟩ := hC
        have hgr := only_of_below hb2 none
        clear hb2 hgg hX
        refine hK.out _ _ (hHeld.next hgr) (fun hHeld => ?_)
        clear hK K hgr
        try simp only [Act.put, List.getElem_toArray, List.getElem_cons_succ, List.getElem_cons_zero, List.setIfInBounds_toArray, List.set_cons_zero, List.set_cons_succ]
        refine wpAnyH_take (i := 5) (v := ?_) rfl (by kernel_rfl) (by kernel_rfl) (by kernel_rfl) (fun _ _ _ h => nomatch h.1) (Or.inl ⟨by kernel_rfl, ?_⟩) (by assumption) ?_
        rotate_left
        · intro w hSw; (try dsimp only at hSw); go_simp; try with_reducible rfl
        try simp only [Act.put, List.getElem_toArray, List.getElem_cons_succ, List.getElem_cons_zero, List.setIfInBounds_toArray, List.set_cons_zero, List.set_cons_succ]
        refine wpAnyH_take (i := 6) (v := ?_) rfl (by kernel_rfl) (by kernel_rfl) (by kernel_rfl) (fun _ _ _ h => nomatch h.1) (Or.inl ⟨by kernel_rfl, ?_⟩) (by assumption) ?_
        rotate_left
        · intro w hSw; (try dsimp only at hSw); go_simp; try with_reducible rfl
        try simp only [Act.put, List.getElem_toArray, List.getElem_cons_succ, List.getElem_cons_zero, List.setIfInBounds_toArray, List.set_cons_zero, List.set_cons_succ]
        refine wpAnyH_take (i := 7) (v := ?_) rfl (by kernel_rfl) (by kernel_rfl) (by kernel_rfl) (fun _ _ _ h => nomatch h.1) (Or.inl ⟨by kernel_rfl, ?_⟩) (by assumption) ?_
        rotate_left
        · intro w hSw; (try dsimp only at hSw); go_simp; try with_reducible rfl
        try simp only [Act.put, List.getElem_toArray, List.getElem_cons_succ, List.getElem_cons_zero, List.setIfInBounds_toArray, List.set_cons_zero, List.set_cons_succ]
        refine wpAnyH_ready (rs := [8]) (by kernel_rfl) (by simp) ?_
        refine AllReadyH.cons rfl (fun K hK => ?_) AllReadyH.nil
        rw [if_pos (by kernel_rfl)]
        refine opw_alloc24 rfl fun b6 W1 hgr hbN hbE => ?_
        have hcl : Clear w B [⟨b4, false, g4, 2, c4⟩, ⟨b2, false, g, 1, 1⟩] b6 := hbE ▸ hHeld.clear
        have hne2 : g4 ≠ b6 := by omega
        clear hbE
        replace hs2 := hs2.next hg2 hgr
        replace hg2 := Nat.lt_of_lt_of_le hg2 hgr.size
        have hb := hbN
        clear hbN
        refine hK.out _ _ (hHeld.next hgr) (fun hHeld => ?_)
        clear hK K hgr
        try simp only [Act.put, List.getElem_toArray, List.getElem_cons_succ, List.getElem_cons_zero, List.setIfInBounds_toArray, List.set_cons_zero, List.set_cons_succ]
        refine wpAnyH_ready (rs := [9]) (by kernel_rfl) (by simp) ?_
        refine AllReadyH.cons rfl (fun K hK => ?_) AllReadyH.nil
        rw [if_pos (by kernel_rfl)]
        refine opw_store_blk 24 (.tmp 6) (.tmp 31) rfl b6 24 5 zcl (clf false g4 2 c4) rfl rfl hb size24 (fun i _ => clf_one _ _ _ _ i) ?_
        have hN := hHeld.store hcl hb (fz := false) (cap := c4) hs2 hg2 hne2
        refine hK.out _ _ hN.drop (fun hHeld => ?_)
        clear hK K
        try simp only [Act.put, List.getElem_toArray, List.getElem_cons_succ, List.getElem_cons_zero, List.setIfInBounds_toArray, List.set_cons_zero, List.set_cons_succ]
        refine wpAnyH_take (i := 10) (v := ?_) rfl (by kernel_rfl) (by kernel_rfl) (by kernel_rfl) (fun _ _ _ h => nomatch h.1) (Or.inl ⟨by kernel_rfl, ?_⟩) (by assumption) ?_
        rotate_left
        · intro w hSw; (try dsimp only at hSw); go_simp; try with_reducible rfl
        try simp only [Act.put, List.getElem_toArray, List.getElem_cons_succ, List.getElem_cons_zero, List.setIfInBounds_toArray, List.set_cons_zero, List.set_cons_succ]
        refine wpAnyH_done (by kernel_rfl) ?_ _
        exact ⟨rfl, b6, _, _, _, _, _, _, _, _, _, _, _, _, _, _, _, _, _, _, _, _, _, _, _, rfl, hN, (Ne.symm hcl.2.1), hgB⟩
      · rw [if_pos (by kernel_rfl)]
        refine opw_alloc24 rfl fun b6 W1 hgr hbN hbE => ?_
        have hcl : Clear w B [⟨b4, false, g4, 2, c4⟩, ⟨b2, false, g, 1, 1⟩] b6 := hbE ▸ hHeld.clear
        clear hbE
        have hb := hbN
        clear hbN
        refine hK.out _ _ (hHeld.next hgr) (fun hHeld => ?_)
        clear hK K hgr
        try simp only [Act.put, List.getElem_toArray, List.getElem_cons_succ, List.getElem_cons_zero, List.setIfInBounds_toArray, List.set_cons_zero, List.set_cons_succ]
        refine wpAnyH_ready (rs := [4]) (by kernel_rfl) (by simp) ?_
        refine AllReadyH.cons rfl (fun K hK => ?_) AllReadyH.nil
        have hX := hHeld.get (x := ⟨b4, false, g4, 2, c4⟩) (by simp)
        go_simp
        go_at_call 8
        refine (upd2_any g4 c4 _ hX.2.1 hX.2.2 hHeld.2.2.1).mono ?_
        rintro e w6 ⟨fz, g6, n2, c6, rfl, hb2, hs2, hg2, hgg, hC⟩
        have hgB : g6 ≠ B := by have := hHeld.2.1.lt; omega
        have hcg := (hcl.2.2 ⟨b4, false, g4, 2, c4⟩ (by simp)).2
        dsimp only at hcg
        have hne2 : g6 ≠ b6 := by have := hb.lt; omega
        obtain ⟨rfl, rfl, rfl, rfl⟩ := hC
        have hgr := only_of_below hb2 none
        clear hb2 hgg hX
        replace hb := hb.grown hgr (by simp)
        refine hK.out _ _ (hHeld.next hgr) (fun hHeld => ?_)
        clear hK K hgr
        try simp only [Act.put, List.getElem_toArray, List.getElem_cons_succ, List.getElem_cons_zero, List.setIfInBounds_toArray, List.set_cons_zero, List.set_cons_succ]
        refine wpAnyH_take (i := 5) (v := ?_) rfl (by kernel_rfl) (by kernel_rfl) (by kernel_rfl) (fun _ _ _ h => nomatch h.1) (Or.inl ⟨by kernel_rfl, ?_⟩) (by assumption) ?_
        rotate_left
        · intro w hSw; (try dsimp only at hSw); go_simp; try with_reducible rfl
        try simp only [Act.put, List.getElem_toArray, List.getElem_cons_succ, List.getElem_cons_zero, List.setIfInBounds_toArray, List.set_cons_zero, List.set_cons_succ]
        refine wpAnyH_take (i := 6) (v := ?_) rfl (by kernel_rfl) (by kernel_rfl) (by kernel_rfl) (fun _ _ _ h => nomatch h.1) (Or.inl ⟨by kernel_rfl, ?_⟩) (by assumption) ?_
        rotate_left
        · intro w hSw; (try dsimp only at hSw); go_simp; try with_reducible rfl
        try simp only [Act.put, List.getElem_toArray, List.getElem_cons_succ, List.getElem_cons_zero, List.setIfInBounds_toArray, List.set_cons_zero, List.set_cons_succ]
        refine wpAnyH_take (i := 7) (v := ?_) rfl (by kernel_rfl) (by kernel_rfl) (by kernel_rfl) (fun _ _ _ h => nomatch h.1) (Or.inl ⟨by kernel_rfl, ?_⟩) (by assumption) ?_
        rotate_left
        · intro w hSw; (try dsimp only at hSw); go_simp; try with_reducible rfl
        try simp only [Act.put, List.getElem_toArray, List.getElem_cons_succ, List.getElem_cons_zero, List.setIfInBounds_toArray, List.set_cons_zero, List.set_cons_succ]
        refine wpAnyH_ready (rs := [9]) (by kernel_rfl) (by simp) ?_
        refine AllReadyH.cons rfl (fun K hK => ?_) AllReadyH.nil
        rw [if_pos (by kernel_rfl)]
        refine opw_store_blk 24 (.tmp 6) (.tmp 31) rfl b6 24 5 zcl (clf false g4 2 c4) rfl rfl hb size24 (fun i _ => clf_one _ _ _ _ i) ?_
        have hN := hHeld.store hcl hb (fz := false) (cap := c4) hs2 hg2 hne2
        refine hK.out _ _ hN.drop (fun hHeld => ?_)
        clear hK K
        try simp only [Act.put, List.getElem_toArray, List.getElem_cons_succ, List.getElem_cons_zero, List.setIfInBounds_toArray, List.set_cons_zero, List.set_cons_succ]
        refine wpAnyH_take (i := 10) (v := ?_) rfl (by kernel_rfl) (by kernel_rfl) (by kernel_rfl) (fun _ _ _ h => nomatch h.1) (Or.inl ⟨by kernel_rfl, ?_⟩) (by assumption) ?_
        rotate_left
        · intro w hSw; (try dsimp only at hSw); go_simp; try with_reducible rfl
        try simp only [Act.put, List.getElem_toArray, List.getElem_cons_succ, List.getElem_cons_zero, List.setIfInBounds_toArray, List.set_cons_zero, List.set_cons_succ]
        refine wpAnyH_done (by kernel_rfl) ?_ _
        exact ⟨rfl, b6, _, _, _, _, _, _, _, _, _, _, _, _, _, _, _, _, _, _, _, _, _, _, _, rfl, hN, (Ne.symm hcl.2.1), hgB⟩
    · rw [if_pos (by kernel_rfl)]
      refine opw_alloc24 rfl fun b6 W1 hgr hbN hbE => ?_
      have hcl : Clear w B [⟨b4, false, g4, 2, c4⟩, ⟨b2, false, g, 1, 1⟩] b6 := hbE ▸ hHeld.clear
      clear hbE
      have hb := hbN
      clear hbN
      refine hK.out _ _ (hHeld.next hgr) (fun hHeld => ?_)
      clear hK K hgr
      try simp only [Act.put, List.getElem_toArray, List.getElem_cons_succ, List.getElem_cons_zero, List.setIfInBounds_toArray, List.set_cons_zero, List.set_cons_succ]
      refine wpAnyH_ready (rs := [3]) (by kernel_rfl) (by simp) ?_
      refine AllReadyH.cons rfl (fun K hK => ?_) AllReadyH.nil
      go_simp
      go_at_call 9
      refine (refseal_any (fun _ => 0) _).mono ?_
      rintro e w5 ⟨rfl, hb2⟩
      have hgr := only_of_below hb2 none
      clear hb2
      replace hb := hb.grown hgr (by simp)
      refine hK.out _ _ (hHeld.next hgr) (fun hHeld => ?_)
      clear hK K hgr
      try simp only [Act.put, List.getElem_toArray, List.getElem_cons_succ, List.getElem_cons_zero, List.setIfInBounds_toArray, List.set_cons_zero, List.set_cons_succ]
      refine wpAnyH_ready (rs := [4]) (by kernel_rfl) (by simp) ?_
      refine AllReadyH.cons rfl (fun K hK => ?_) AllReadyH.nil
      have hX := hHeld.get (x := ⟨b4, false, g4, 2, c4⟩) (by simp)
      go_simp
      go_at_call 8
      refine (upd2_any g4 c4 _ hX.2.1 hX.2.2 hHeld.2.2.1).mono ?_
      rintro e w6 ⟨fz, g6, n2, c6, rfl, hb2, hs2, hg2, hgg, hC⟩
      have hgB : g6 ≠ B := by have := hHeld.2.1.lt; omega
      have hcg := (hcl.2.2 ⟨b4, false, g4, 2, c4⟩ (by simp)).2
      dsimp only at hcg
      have hne2 : g6 ≠ b6 := by have := hb.lt; omega
      obtain ⟨rfl, rfl, rfl, rfl⟩ := hC
      have hgr := only_of_below hb2 none
      clear hb2 hgg hX
      replace hb := hb.grown hgr (by simp)
      refine hK.out _ _ (hHeld.next hgr) (fun hHeld => ?_)
      clear hK K hgr
      try simp only [Act.put, List.getElem_toArray, List.getElem_cons_succ, List.getElem_cons_zero, List.setIfInBounds_toArray, List.set_cons_zero, List.set_cons_succ]
      refine wpAnyH_take (i := 5) (v := ?_) rfl (by kernel_rfl) (by kernel_rfl) (by kernel_rfl) (fun _ _ _ h => nomatch h.1) (Or.inl ⟨by kernel_rfl, ?_⟩) (by assumption) ?_
      rotate_left
      · intro w hSw; (try dsimp only at hSw); go_simp; try with_reducible rfl
      try simp only [Act.put, List.getElem_toArray, List.getElem_cons_succ, List.getElem_cons_zero, List.setIfInBounds_toArray, List.set_cons_zero, List.set_cons_succ]
      refine wpAnyH_take (i := 6) (v := ?_) rfl (by kernel_rfl) (by kernel_rfl) (by kernel_rfl) (fun _ _ _ h => nomatch h.1) (Or.inl ⟨by kernel_rfl, ?_⟩) (by assumption) ?_
      rotate_left
      · intro w hSw; (try dsimp only at hSw); go_simp; try with_reducible rfl
      try simp only [Act.put, List.getElem_toArray, List.getElem_cons_succ, List.getElem_cons_zero, List.setIfInBounds_toArray, List.set_cons_zero, List.set_cons_succ]
      refine wpAnyH_take (i := 7) (v := ?_) rfl (by kernel_rfl) (by kernel_rfl) (by kernel_rfl) (fun _ _ _ h => nomatch h.1) (Or.inl ⟨by kernel_rfl, ?_⟩) (by assumption) ?_
      rotate_left
      · intro w hSw; (try dsimp only at hSw); go_simp; try with_reducible rfl
      try simp only [Act.put, List.getElem_toArray, List.getElem_cons_succ, List.getElem_cons_zero, List.setIfInBounds_toArray, List.set_cons_zero, List.set_cons_succ]
      refine wpAnyH_ready (rs := [9]) (by kernel_rfl) (by simp) ?_
      refine AllReadyH.cons rfl (fun K hK => ?_) AllReadyH.nil
      rw [if_pos (by kernel_rfl)]
      refine opw_store_blk 24 (.tmp 6) (.tmp 31) rfl b6 24 5 zcl (clf false g4 2 c4) rfl rfl hb size24 (fun i _ => clf_one _ _ _ _ i) ?_
      have hN := hHeld.store hcl hb (fz := false) (cap := c4) hs2 hg2 hne2
      refine hK.out _ _ hN.drop (fun hHeld => ?_)
      clear hK K
      try simp only [Act.put, List.getElem_toArray, List.getElem_cons_succ, List.getElem_cons_zero, List.setIfInBounds_toArray, List.set_cons_zero, List.set_cons_succ]
      refine wpAnyH_take (i := 10) (v := ?_) rfl (by kernel_rfl) (by kernel_rfl) (by kernel_rfl) (fun _ _ _ h => nomatch h.1) (Or.inl ⟨by kernel_rfl, ?_⟩) (by assumption) ?_
      rotate_left
      · intro w hSw; (try dsimp only at hSw); go_simp; try with_reducible rfl
      try simp only [Act.put, List.getElem_toArray, List.getElem_cons_succ, List.getElem_cons_zero, List.setIfInBounds_toArray, List.set_cons_zero, List.set_cons_succ]
      refine wpAnyH_done (by kernel_rfl) ?_ _
      exact ⟨rfl, b6, _, _, _, _, _, _, _, _, _, _, _, _, _, _, _, _, _, _, _, _, _, _, _, rfl, hN, (Ne.symm hcl.2.1), hgB⟩
  clear hQ
  rintro e a W5 ⟨rfl, b6, u10, u11, u12, u13, u14, u15, u16, u17, u18, u19, u20, u21, u22, u23, u24, u25, u26, u27, u28, u29, u30, u31, u32, rfl, hQ, hnb6, hng6⟩
  dsimp only
  have hB3 := hQ.2.1.cell (i := 3) (by omega)
  change _ = some (Value.int .u8 0) at hB3
  have hF3 := hQ.2.1.free 3
  have HQ := Lib.hid (hQ.turn (fun x hx => by
    rcases List.mem_cons.1 hx with rfl | hx
    · exact ⟨hnb6, hng6⟩
    rcases List.mem_cons.1 hx with rfl | hx
    · exact ⟨hnb4, hng4⟩
    rcases List.mem_cons.1 hx with rfl | hx
    · exact ⟨hne2, hne⟩
    · cases hx))
  clear hQ
  go_wp2_with fail
  have hQ := HQ.out
  clear HQ hB3 hF3
  generalize World.setCell _ _ _ = W6 at hQ ⊢
  refine Code.wp_mono (Q := fun e a W => e = .normal ∧ ∃ b8 g8 c8 u10 u11 u12 u13 u14 u15 u16 u17 u18 u19 u20 u21 u22 u23 u24 u25 u26 u27 u28 u29 u30 u31 u32 u33 u34 u35 u36 u37 u38 u39 u40 u41 u42, a = { tmps := #[.bool false, .pointer (some ⟨B, 0, none⟩), .pointer (some ⟨b2, 0, none⟩), .int .i64 0, .pointer (some ⟨b4, 0, none⟩), .int .i64 0, .pointer (some ⟨b6, 0, none⟩), .int .i64 0, .pointer (some ⟨b8, 0, none⟩), .int .i64 0, u10, u11, u12, u13, u14, u15, u16, u17, u18, u19, u20, u21, u22, u23, u24, u25, u26, u27, u28, u29, u30, u31, u32, u33, u34, u35, u36, u37, u38, u39, u40, u41, u42, undef, undef, undef, undef, undef, undef, undef, undef, undef, undef, undef, undef, undef, undef, undef, undef, undef, undef, undef, undef, undef, undef, undef, undef, undef, undef, undef, undef, undef, undef, undef, undef, undef, undef], defers := [] } ∧ AQ w B rt1 [⟨b8, true, g8, 2, c8⟩, ⟨b6, false, g4, 2, c4⟩, ⟨b4, false, g4, 2, c4⟩, ⟨b2, false, g, 1, 1⟩] W ∧ b8 ≠ B ∧ g8 ≠ B) ?_ ?_
  rotate_left
  · refine wp_region_held_drew (S := AQ w B rt1 [⟨b6, false, g4, 2, c4⟩, ⟨b4, false, g4, 2, c4⟩, ⟨b2, false, g, 1, 1⟩]) (by kernel_rfl) hQ.next_drew (fun hHeld => ?_)
    clear hQ
    refine wpAnyH_take (i := 0) rfl (by kernel_rfl) (by kernel_rfl) (by kernel_rfl) (fun _ _ _ h => nomatch h.1) (yields_row (by kernel_rfl) 24 (.tmp 6) rfl b6 0 5 (clf false g4 2 c4) rfl _ (fun W h => (h.get (x := ⟨b6, false, g4, 2, c4⟩) (by simp)).1.range) Tryd.underlying24 rfl size24) (by assumption) ?_
    try simp only [Act.put, List.getElem_toArray, List.getElem_cons_succ, List.getElem_cons_zero, List.setIfInBounds_toArray, List.set_cons_zero, List.set_cons_succ]
    refine wpAnyH_take (i := 1) rfl (by kernel_rfl) (by kernel_rfl) (by kernel_rfl) (fun _ _ _ h => nomatch h.1) (yields_row (by kernel_rfl) 30 (.tmp 1) rfl B 0 35 (hdf 2 rt1) rfl _ (fun W h => h.2.1.range) Tryd.underlying30 rfl size30) (by assumption) ?_
    try simp only [Act.put, List.getElem_toArray, List.getElem_cons_succ, List.getElem_cons_zero, List.setIfInBounds_toArray, List.set_cons_zero, List.set_cons_succ]
    refine wpAnyH_take (i := 2) rfl (by kernel_rfl) (by kernel_rfl) (by kernel_rfl) (fun _ _ _ h => nomatch h.1) (yields_row (by kernel_rfl) 30 (.tmp 1) rfl B 0 35 (hdf 2 rt1) rfl _ (fun W h => h.2.1.range) Tryd.underlying30 rfl size30) (by assumption) ?_
    try simp only [Act.put, List.getElem_toArray, List.getElem_cons_succ, List.getElem_cons_zero, List.setIfInBounds_toArray, List.set_cons_zero, List.set_cons_succ]
    refine wpAnyH_ready (rs := [3, 8]) (by kernel_rfl) (by simp) ?_
    refine AllReadyH.cons rfl (fun K hK => ?_) (AllReadyH.cons rfl (fun K hK => ?_) AllReadyH.nil)
    · go_simp
      go_at_call 9
      refine (refseal_any rt1 _).mono ?_
      rintro e w5 ⟨rfl, hb2⟩
      have hgr := only_of_below hb2 none
      clear hb2
      refine hK.out _ _ (hHeld.next hgr) (fun hHeld => ?_)
      clear hK K hgr
      try simp only [Act.put, List.getElem_toArray, List.getElem_cons_succ, List.getElem_cons_zero, List.setIfInBounds_toArray, List.set_cons_zero, List.set_cons_succ]
      refine wpAnyH_ready (rs := [4, 8]) (by kernel_rfl) (by simp) ?_
      refine AllReadyH.cons rfl (fun K hK => ?_) (AllReadyH.cons rfl (fun K hK => ?_) AllReadyH.nil)
      · have hX := hHeld.get (x := ⟨b6, false, g4, 2, c4⟩) (by simp)
        go_simp
        go_at_call 8
        refine (upd3_any g4 c4 _ hX.2.1 hX.2.2 hHeld.2.2.1).mono ?_
        rintro e w6 ⟨fz, g8, n2, c8, rfl, hb2, hs2, hg2, hgg, hC⟩
        have hgB : g8 ≠ B := by have := hHeld.2.1.lt; omega
        obtain ⟨rfl, rfl⟩ := hC
        have hgr := only_of_below hb2 none
        clear hb2 hgg hX
        refine hK.out _ _ (hHeld.next hgr) (fun hHeld => ?_)
        clear hK K hgr
        try simp only [Act.put, List.getElem_toArray, List.getElem_cons_succ, List.getElem_cons_zero, List.setIfInBounds_toArray, List.set_cons_zero, List.set_cons_succ]
        refine wpAnyH_take (i := 5) (v := ?_) rfl (by kernel_rfl) (by kernel_rfl) (by kernel_rfl) (fun _ _ _ h => nomatch h.1) (Or.inl ⟨by kernel_rfl, ?_⟩) (by assumption) ?_
        rotate_left
        · intro w hSw; (try dsimp only at hSw); go_simp; try with_reducible rfl
        try simp only [Act.put, List.getElem_toArray, List.getElem_cons_succ, List.getElem_cons_zero, List.setIfInBounds_toArray, List.set_cons_zero, List.set_cons_succ]
        refine wpAnyH_take (i := 6) (v := ?_) rfl (by kernel_rfl) (by kernel_rfl) (by kernel_rfl) (fun _ _ _ h => nomatch h.1) (Or.inl ⟨by kernel_rfl, ?_⟩) (by assumption) ?_
        rotate_left
        · intro w hSw; (try dsimp only at hSw); go_simp; try with_reducible rfl
        try simp only [Act.put, List.getElem_toArray, List.getElem_cons_succ, List.getElem_cons_zero, List.setIfInBounds_toArray, List.set_cons_zero, List.set_cons_succ]
        refine wpAnyH_take (i := 7) (v := ?_) rfl (by kernel_rfl) (by kernel_rfl) (by kernel_rfl) (fun _ _ _ h => nomatch h.1) (Or.inl ⟨by kernel_rfl, ?_⟩) (by assumption) ?_
        rotate_left
        · intro w hSw; (try dsimp only at hSw); go_simp; try with_reducible rfl
        try simp only [Act.put, List.getElem_toArray, List.getElem_cons_succ, List.getElem_cons_zero, List.setIfInBounds_toArray, List.set_cons_zero, List.set_cons_succ]
        refine wpAnyH_ready (rs := [8]) (by kernel_rfl) (by simp) ?_
        refine AllReadyH.cons rfl (fun K hK => ?_) AllReadyH.nil
        rw [if_pos (by kernel_rfl)]
        refine opw_alloc24 rfl fun b8 W1 hgr hbN hbE => ?_
        have hcl : Clear w B [⟨b6, false, g4, 2, c4⟩, ⟨b4, false, g4, 2, c4⟩, ⟨b2, false, g, 1, 1⟩] b8 := hbE ▸ hHeld.clear
        have hne2 : g8 ≠ b8 := by omega
        clear hbE
        replace hs2 := hs2.next hg2 hgr
        replace hg2 := Nat.lt_of_lt_of_le hg2 hgr.size
        have hb := hbN
        clear hbN
        refine hK.out _ _ (hHeld.next hgr) (fun hHeld => ?_)
        clear hK K hgr
        try simp only [Act.put, List.getElem_toArray, List.getElem_cons_succ, List.getElem_cons_zero, List.setIfInBounds_toArray, List.set_cons_zero, List.set_cons_succ]
        refine wpAnyH_ready (rs := [9]) (by kernel_rfl) (by simp) ?_
        refine AllReadyH.cons rfl (fun K hK => ?_) AllReadyH.nil
        rw [if_pos (by kernel_rfl)]
        refine opw_store_blk 24 (.tmp 8) (.tmp 41) rfl b8 24 5 zcl (clf true g8 2 c8) rfl rfl hb size24 (fun i _ => clf_one _ _ _ _ i) ?_
        have hN := hHeld.store hcl hb (fz := true) (cap := c8) hs2 hg2 hne2
        refine hK.out _ _ hN.drop (fun hHeld => ?_)
        clear hK K
        try simp only [Act.put, List.getElem_toArray, List.getElem_cons_succ, List.getElem_cons_zero, List.setIfInBounds_toArray, List.set_cons_zero, List.set_cons_succ]
        refine wpAnyH_take (i := 10) (v := ?_) rfl (by kernel_rfl) (by kernel_rfl) (by kernel_rfl) (fun _ _ _ h => nomatch h.1) (Or.inl ⟨by kernel_rfl, ?_⟩) (by assumption) ?_
        rotate_left
        · intro w hSw; (try dsimp only at hSw); go_simp; try with_reducible rfl
        try simp only [Act.put, List.getElem_toArray, List.getElem_cons_succ, List.getElem_cons_zero, List.setIfInBounds_toArray, List.set_cons_zero, List.set_cons_succ]
        refine wpAnyH_done (by kernel_rfl) ?_ _
        exact ⟨rfl, b8, g8, c8, _, _, _, _, _, _, _, _, _, _, _, _, _, _, _, _, _, _, _, _, _, _, _, _, _, _, _, _, _, _, _, _, _, rfl, hN, (Ne.symm hcl.2.1), hgB⟩
      · rw [if_pos (by kernel_rfl)]
        refine opw_alloc24 rfl fun b8 W1 hgr hbN hbE => ?_
        have hcl : Clear w B [⟨b6, false, g4, 2, c4⟩, ⟨b4, false, g4, 2, c4⟩, ⟨b2, false, g, 1, 1⟩] b8 := hbE ▸ hHeld.clear
        clear hbE
        have hb := hbN
        clear hbN
        refine hK.out _ _ (hHeld.next hgr) (fun hHeld => ?_)
        clear hK K hgr
        try simp only [Act.put, List.getElem_toArray, List.getElem_cons_succ, List.getElem_cons_zero, List.setIfInBounds_toArray, List.set_cons_zero, List.set_cons_succ]
        refine wpAnyH_ready (rs := [4]) (by kernel_rfl) (by simp) ?_
        refine AllReadyH.cons rfl (fun K hK => ?_) AllReadyH.nil
        have hX := hHeld.get (x := ⟨b6, false, g4, 2, c4⟩) (by simp)
        go_simp
        go_at_call 8
        refine (upd3_any g4 c4 _ hX.2.1 hX.2.2 hHeld.2.2.1).mono ?_
        rintro e w6 ⟨fz, g8, n2, c8, rfl, hb2, hs2, hg2, hgg, hC⟩
        have hgB : g8 ≠ B := by have := hHeld.2.1.lt; omega
        have hcg := (hcl.2.2 ⟨b6, false, g4, 2, c4⟩ (by simp)).2
        dsimp only at hcg
        have hne2 : g8 ≠ b8 := by have := hb.lt; omega
        obtain ⟨rfl, rfl⟩ := hC
        have hgr := only_of_below hb2 none
        clear hb2 hgg hX
        replace hb := hb.grown hgr (by simp)
        refine hK.out _ _ (hHeld.next hgr) (fun hHeld => ?_)
        clear hK K hgr
        try simp only [Act.put, List.getElem_toArray, List.getElem_cons_succ, List.getElem_cons_zero, List.setIfInBounds_toArray, List.set_cons_zero, List.set_cons_succ]
        refine wpAnyH_take (i := 5) (v := ?_) rfl (by kernel_rfl) (by kernel_rfl) (by kernel_rfl) (fun _ _ _ h => nomatch h.1) (Or.inl ⟨by kernel_rfl, ?_⟩) (by assumption) ?_
        rotate_left
        · intro w hSw; (try dsimp only at hSw); go_simp; try with_reducible rfl
        try simp only [Act.put, List.getElem_toArray, List.getElem_cons_succ, List.getElem_cons_zero, List.setIfInBounds_toArray, List.set_cons_zero, List.set_cons_succ]
        refine wpAnyH_take (i := 6) (v := ?_) rfl (by kernel_rfl) (by kernel_rfl) (by kernel_rfl) (fun _ _ _ h => nomatch h.1) (Or.inl ⟨by kernel_rfl, ?_⟩) (by assumption) ?_
        rotate_left
        · intro w hSw; (try dsimp only at hSw); go_simp; try with_reducible rfl
        try simp only [Act.put, List.getElem_toArray, List.getElem_cons_succ, List.getElem_cons_zero, List.setIfInBounds_toArray, List.set_cons_zero, List.set_cons_succ]
        refine wpAnyH_take (i := 7) (v := ?_) rfl (by kernel_rfl) (by kernel_rfl) (by kernel_rfl) (fun _ _ _ h => nomatch h.1) (Or.inl ⟨by kernel_rfl, ?_⟩) (by assumption) ?_
        rotate_left
        · intro w hSw; (try dsimp only at hSw); go_simp; try with_reducible rfl
        try simp only [Act.put, List.getElem_toArray, List.getElem_cons_succ, List.getElem_cons_zero, List.setIfInBounds_toArray, List.set_cons_zero, List.set_cons_succ]
        refine wpAnyH_ready (rs := [9]) (by kernel_rfl) (by simp) ?_
        refine AllReadyH.cons rfl (fun K hK => ?_) AllReadyH.nil
        rw [if_pos (by kernel_rfl)]
        refine opw_store_blk 24 (.tmp 8) (.tmp 41) rfl b8 24 5 zcl (clf true g8 2 c8) rfl rfl hb size24 (fun i _ => clf_one _ _ _ _ i) ?_
        have hN := hHeld.store hcl hb (fz := true) (cap := c8) hs2 hg2 hne2
        refine hK.out _ _ hN.drop (fun hHeld => ?_)
        clear hK K
        try simp only [Act.put, List.getElem_toArray, List.getElem_cons_succ, List.getElem_cons_zero, List.setIfInBounds_toArray, List.set_cons_zero, List.set_cons_succ]
        refine wpAnyH_take (i := 10) (v := ?_) rfl (by kernel_rfl) (by kernel_rfl) (by kernel_rfl) (fun _ _ _ h => nomatch h.1) (Or.inl ⟨by kernel_rfl, ?_⟩) (by assumption) ?_
        rotate_left
        · intro w hSw; (try dsimp only at hSw); go_simp; try with_reducible rfl
        try simp only [Act.put, List.getElem_toArray, List.getElem_cons_succ, List.getElem_cons_zero, List.setIfInBounds_toArray, List.set_cons_zero, List.set_cons_succ]
        refine wpAnyH_done (by kernel_rfl) ?_ _
        exact ⟨rfl, b8, g8, c8, _, _, _, _, _, _, _, _, _, _, _, _, _, _, _, _, _, _, _, _, _, _, _, _, _, _, _, _, _, _, _, _, _, rfl, hN, (Ne.symm hcl.2.1), hgB⟩
    · rw [if_pos (by kernel_rfl)]
      refine opw_alloc24 rfl fun b8 W1 hgr hbN hbE => ?_
      have hcl : Clear w B [⟨b6, false, g4, 2, c4⟩, ⟨b4, false, g4, 2, c4⟩, ⟨b2, false, g, 1, 1⟩] b8 := hbE ▸ hHeld.clear
      clear hbE
      have hb := hbN
      clear hbN
      refine hK.out _ _ (hHeld.next hgr) (fun hHeld => ?_)
      clear hK K hgr
      try simp only [Act.put, List.getElem_toArray, List.getElem_cons_succ, List.getElem_cons_zero, List.setIfInBounds_toArray, List.set_cons_zero, List.set_cons_succ]
      refine wpAnyH_ready (rs := [3]) (by kernel_rfl) (by simp) ?_
      refine AllReadyH.cons rfl (fun K hK => ?_) AllReadyH.nil
      go_simp
      go_at_call 9
      refine (refseal_any rt1 _).mono ?_
      rintro e w5 ⟨rfl, hb2⟩
      have hgr := only_of_below hb2 none
      clear hb2
      replace hb := hb.grown hgr (by simp)
      refine hK.out _ _ (hHeld.next hgr) (fun hHeld => ?_)
      clear hK K hgr
      try simp only [Act.put, List.getElem_toArray, List.getElem_cons_succ, List.getElem_cons_zero, List.setIfInBounds_toArray, List.set_cons_zero, List.set_cons_succ]
      refine wpAnyH_ready (rs := [4]) (by kernel_rfl) (by simp) ?_
      refine AllReadyH.cons rfl (fun K hK => ?_) AllReadyH.nil
      have hX := hHeld.get (x := ⟨b6, false, g4, 2, c4⟩) (by simp)
      go_simp
      go_at_call 8
      refine (upd3_any g4 c4 _ hX.2.1 hX.2.2 hHeld.2.2.1).mono ?_
      rintro e w6 ⟨fz, g8, n2, c8, rfl, hb2, hs2, hg2, hgg, hC⟩
      have hgB : g8 ≠ B := by have := hHeld.2.1.lt; omega
      have hcg := (hcl.2.2 ⟨b6, false, g4, 2, c4⟩ (by simp)).2
      dsimp only at hcg
      have hne2 : g8 ≠ b8 := by have := hb.lt; omega
      obtain ⟨rfl, rfl⟩ := hC
      have hgr := only_of_below hb2 none
      clear hb2 hgg hX
      replace hb := hb.grown hgr (by simp)
      refine hK.out _ _ (hHeld.next hgr) (fun hHeld => ?_)
      clear hK K hgr
      try simp only [Act.put, List.getElem_toArray, List.getElem_cons_succ, List.getElem_cons_zero, List.setIfInBounds_toArray, List.set_cons_zero, List.set_cons_succ]
      refine wpAnyH_take (i := 5) (v := ?_) rfl (by kernel_rfl) (by kernel_rfl) (by kernel_rfl) (fun _ _ _ h => nomatch h.1) (Or.inl ⟨by kernel_rfl, ?_⟩) (by assumption) ?_
      rotate_left
      · intro w hSw; (try dsimp only at hSw); go_simp; try with_reducible rfl
      try simp only [Act.put, List.getElem_toArray, List.getElem_cons_succ, List.getElem_cons_zero, List.setIfInBounds_toArray, List.set_cons_zero, List.set_cons_succ]
      refine wpAnyH_take (i := 6) (v := ?_) rfl (by kernel_rfl) (by kernel_rfl) (by kernel_rfl) (fun _ _ _ h => nomatch h.1) (Or.inl ⟨by kernel_rfl, ?_⟩) (by assumption) ?_
      rotate_left
      · intro w hSw; (try dsimp only at hSw); go_simp; try with_reducible rfl
      try simp only [Act.put, List.getElem_toArray, List.getElem_cons_succ, List.getElem_cons_zero, List.setIfInBounds_toArray, List.set_cons_zero, List.set_cons_succ]
      refine wpAnyH_take (i := 7) (v := ?_) rfl (by kernel_rfl) (by kernel_rfl) (by kernel_rfl) (fun _ _ _ h => nomatch h.1) (Or.inl ⟨by kernel_rfl, ?_⟩) (by assumption) ?_
      rotate_left
      · intro w hSw; (try dsimp only at hSw); go_simp; try with_reducible rfl
      try simp only [Act.put, List.getElem_toArray, List.getElem_cons_succ, List.getElem_cons_zero, List.setIfInBounds_toArray, List.set_cons_zero, List.set_cons_succ]
      refine wpAnyH_ready (rs := [9]) (by kernel_rfl) (by simp) ?_
      refine AllReadyH.cons rfl (fun K hK => ?_) AllReadyH.nil
      rw [if_pos (by kernel_rfl)]
      refine opw_store_blk 24 (.tmp 8) (.tmp 41) rfl b8 24 5 zcl (clf true g8 2 c8) rfl rfl hb size24 (fun i _ => clf_one _ _ _ _ i) ?_
      have hN := hHeld.store hcl hb (fz := true) (cap := c8) hs2 hg2 hne2
      refine hK.out _ _ hN.drop (fun hHeld => ?_)
      clear hK K
      try simp only [Act.put, List.getElem_toArray, List.getElem_cons_succ, List.getElem_cons_zero, List.setIfInBounds_toArray, List.set_cons_zero, List.set_cons_succ]
      refine wpAnyH_take (i := 10) (v := ?_) rfl (by kernel_rfl) (by kernel_rfl) (by kernel_rfl) (fun _ _ _ h => nomatch h.1) (Or.inl ⟨by kernel_rfl, ?_⟩) (by assumption) ?_
      rotate_left
      · intro w hSw; (try dsimp only at hSw); go_simp; try with_reducible rfl
      try simp only [Act.put, List.getElem_toArray, List.getElem_cons_succ, List.getElem_cons_zero, List.setIfInBounds_toArray, List.set_cons_zero, List.set_cons_succ]
      refine wpAnyH_done (by kernel_rfl) ?_ _
      exact ⟨rfl, b8, g8, c8, _, _, _, _, _, _, _, _, _, _, _, _, _, _, _, _, _, _, _, _, _, _, _, _, _, _, _, _, _, _, _, _, _, rfl, hN, (Ne.symm hcl.2.1), hgB⟩
  clear hQ
  rintro e a W5 ⟨rfl, b8, g8, c8, u10, u11, u12, u13, u14, u15, u16, u17, u18, u19, u20, u21, u22, u23, u24, u25, u26, u27, u28, u29, u30, u31, u32, u33, u34, u35, u36, u37, u38, u39, u40, u41, u42, rfl, hQ, hnb8, hng8⟩
  dsimp only
  have H4 := hQ.get (x := ⟨b4, false, g4, 2, c4⟩) (by simp)
  have H6 := hQ.get (x := ⟨b6, false, g4, 2, c4⟩) (by simp)
  have H8 := hQ.get (x := ⟨b8, true, g8, 2, c8⟩) (by simp)
  have hfin := hQ.1
  clear hQ
  obtain ⟨p0, p1, p2, p3, p4⟩ := CB.facts H4
  obtain ⟨q0, q1, q2, q3, q4⟩ := CB.facts H6
  obtain ⟨_, _, _, r3, _⟩ := CB.facts H8
  have hok := SS_ok (c := c4) H4.2.1
  have hsm := csame_any ⟨⟨#[97]⟩, ⟨#[107]⟩, 10, false, some ⟨g4, 0, none⟩, 2, c4, fun j => ⟨j + 1, 0, fun _ => 0⟩⟩ ⟨⟨#[97]⟩, ⟨#[107]⟩, 10, false, some ⟨g4, 0, none⟩, 2, c4, fun j => ⟨j + 1, 0, fun _ => 0⟩⟩ W5 hok hok
  rw [Cl.same_self] at hsm
  unfold Cl.v at hsm
  clear hok
  have HF := Lib.hid hfin
  clear hfin
  go_wp2_with fail
  refine hsm.mono ?_
  rintro e w9 ⟨rfl, hb2⟩
  have hfin := Lib.hid (only_next HF.out hb2)
  replace p3 := only_cell (only_of_below hb2 none) p3
  replace r3 := only_cell (only_of_below hb2 none) r3
  clear HF hb2 hsm p0 p1 p2 p4 q0 q1 q2 q3 q4 H4 H6 H8
  go_wp2_with fail
  go_ret
  exact ⟨rfl, below_of_only hfin.out⟩
  
end Go.Proofs.YtlfcaagogeclpaaDoor
