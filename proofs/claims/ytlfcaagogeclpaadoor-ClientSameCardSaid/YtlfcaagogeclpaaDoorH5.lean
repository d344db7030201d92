/-
  Two slices of bytes that grow side by side.
-/
import Derived.Test.YtlfcaagogeclpaaDoorH0
namespace Go.Proofs.YtlfcaagogeclpaaDoor
open Go.RowKit
/-- The two lie in different blocks. -/
def Apart (v v' : Value) : Prop := ∀ g, v.ownBlock = some g → v'.ownBlock ≠ some g
theorem BS.lt {base : Nat} {w : World} {v : Value} {n : Nat} {c : Nat → BitVec 8} (h : BS base w v n c) {g : Nat} (hg : v.ownBlock = some g) : g < w.heap.size := by
  rcases h with ⟨rfl, _⟩ | ⟨g', cap, rfl, h2, h3, _⟩
  · cases hg
  · simp only [Value.ownBlock, Option.some.injEq] at hg; omega
theorem BS.nextA {base : Nat} {w w' : World} {v : Value} {n : Nat} {c : Nat → BitVec 8} {row : Option Nat} (h : BS base w v n c) (hw : w.grownBy w' row) (hr : ∀ g, v.ownBlock = some g → some g ≠ row) : BS base w' v n c := by
  rcases h with h | ⟨g, cap, rfl, h2, h3, h4, h5, h6, h7, h8⟩
  · exact .inl h
  · have hg : w'.heap[g]? = w.heap[g]? := hw.block g h3 (hr g rfl)
    exact .inr ⟨g, cap, rfl, h2, Nat.lt_of_lt_of_le h3 hw.size, h4, h5, fun i hi => by rw [cell_of_heap hg]; exact h6 i hi, fun i hi => by rw [frozen_of_heap hg]; exact h7 i hi, fun i hi => by rw [cell_of_heap hg]; exact h8 i hi⟩
theorem BS.append2 (ty : TypeId) {base : Nat} {w : World} {v : Value} {n : Nat} {c : Nat → BitVec 8} (h : BS base w v n c) (hb : base ≤ w.heap.size) (q : Nat) (d : BitVec 8) (hq : w.cell? ⟨q, 0, none⟩ = some (By d)) (hn : n ≤ 1000000) :
    ∃ v' w', (Builtin.append_ #[55, 55] ty #[v, .slice (some ⟨q, 0, none⟩) 1 1]).run Tryd.prog w = .ok v' w' ∧ BS base w' v' (n + 1) (upd c n d) ∧ Below base w w' ∧ w.grownBy w' v.ownBlock ∧ (∀ g, v'.ownBlock = some g → v.ownBlock = some g ∨ w.heap.size ≤ g) := by
  obtain ⟨i, z, hi, hz, hs, hby, hzs⟩ := info5
  have hnews : ∀ j u, [By d][j]? = some u → w.cell? ((⟨q, 0, none⟩ : Addr).add j) = some u := by
    intro j u hj
    match j, hj with
    | 0, hj => simp at hj; subst hj; exact hq
  have hone : ∀ u ∈ [By d], u.oneCell' = true := by intro u hu; simp at hu; subst hu; rfl
  have hupd : ∀ i, i < n + 1 → ((List.range n).map (fun i => By (c i)) ++ [By d])[i]? = some (By (upd c n d i)) := by
    intro i hi
    unfold upd
    by_cases e : i = n
    · subst e; rw [if_pos rfl, List.getElem?_append_right (by simp)]; simp
    · rw [if_neg e, List.getElem?_append_left (by simp; omega), List.getElem?_map, List.getElem?_range (by omega)]; rfl
  have up : ∀ {w' : World} {v' : Value}, BS w.heap.size w' v' (n + 1) (upd c n d) → BS base w' v' (n + 1) (upd c n d) ∧ (∀ g, v'.ownBlock = some g → w.heap.size ≤ g) := by
    intro w' v' h9
    rcases h9 with ⟨h9, h10⟩ | ⟨g', cap', rfl, e2, e3⟩
    · exact ⟨.inl ⟨h9, h10⟩, by subst h9; intro g hg; cases hg⟩
    · exact ⟨.inr ⟨g', cap', rfl, Nat.le_trans hb e2, e3⟩, fun g hg => by simp only [Value.ownBlock, Option.some.injEq] at hg; omega⟩
  rcases h with ⟨rfl, rfl⟩ | ⟨g, cap, rfl, h2, h3, h4, h5, h6, h7, h8⟩
  · obtain ⟨v', w', hr, ho, hg, _⟩ := run_append_own (P := Tryd.prog) w w.heap.size 55 ty 5 i z 1 1 Tryd.underlying55 hi hz hs hby hzs (by omega) (.slice none 0 0) 0 [] ⟨rfl, .inl ⟨rfl, rfl⟩⟩ ⟨q, 0, none⟩ 1 1 [By d] rfl hnews hone (by simp [maxLen]) (by omega) (Nat.le_refl _)
    obtain ⟨u1, u2⟩ := up (BS.of_owns ho hupd)
    exact ⟨v', w', hr, u1, (below_of_only hg).mono hb, hg, fun g hg' => .inr (u2 g hg')⟩
  · by_cases hroom : n + 1 ≤ cap
    · have hr := run_append_room_cells (P := Tryd.prog) w 55 ty 5 i Tryd.underlying55 hi g 0 n cap ⟨q, 0, none⟩ 1 1 [By d] (by rw [hs]; rfl) hnews hone hroom
        (fun j hj => by simp at hj; subst hj; rw [hs]; simpa using h6 n (by omega)) (fun j hj => by simp at hj; subst hj; rw [hs]; simpa using h7 n (by omega))
      rw [hs, Nat.mul_one, Nat.zero_add] at hr
      refine ⟨_, _, hr, .inr ⟨g, cap, rfl, h2, ?_, hroom, h5, fun i hi => ?_, fun i hi => ?_, fun i hi => ?_⟩, ?_, ?_, fun g' hg' => .inl hg'⟩
      · simpa [World.setCells, World.setCell] using h3
      · show ((w.setCell ⟨g, n, none⟩ (By d)).cell? _).isSome = true
        by_cases e : i = n
        · subst e
          obtain ⟨u, hu⟩ := Option.isSome_iff_exists.1 (h6 i hi)
          rw [World.cell?_setCell_same _ _ _ hu]; rfl
        · rw [World.cell?_setCell_other _ _ _ _ (by intro h; injection h; omega)]; exact h6 i hi
      · show (w.setCell ⟨g, n, none⟩ (By d)).frozen? _ = false
        rw [World.frozen?_setCell]; exact h7 i hi
      · show (w.setCell ⟨g, n, none⟩ (By d)).cell? _ = _
        unfold upd
        by_cases e : i = n
        · subst e
          obtain ⟨u, hu⟩ := Option.isSome_iff_exists.1 (h6 i (by omega))
          rw [World.cell?_setCell_same _ _ _ hu, if_pos rfl]
        · rw [World.cell?_setCell_other _ _ _ _ (by intro h; injection h; omega), if_neg e]; exact h8 i (by omega)
      · show Below base w (w.setCell ⟨g, n, none⟩ (By d))
        exact ⟨rfl, rfl, rfl, by simp [World.setCell], fun k hk => Below.heap_setCell w _ _ k (by show k ≠ g; omega)⟩
      · exact only_setCell (only_refl w (some g)) (.inl rfl) (By d)
    · obtain ⟨v', w', hr, ho, hg⟩ := run_append_arg_grows (P := Tryd.prog) w 55 ty 5 i z 1 1 Tryd.underlying55 hi hz hs hby hzs (by omega) ⟨g, 0, none⟩ n cap ((List.range n).map fun i => By (c i)) (by simp)
        (fun j u hj => by
          have hj' : j < n := by
            rcases Nat.lt_or_ge j n with h | h
            · exact h
            · rw [List.getElem?_eq_none (by simpa using h)] at hj; cases hj
          rw [List.getElem?_map, List.getElem?_range hj'] at hj
          simp only [Option.map_some, Option.some.injEq] at hj
          subst hj
          have := h8 j hj'
          cases j <;> simpa [Addr.add] using this)
        ⟨q, 0, none⟩ 1 1 [By d] rfl hnews (by omega) (by simp only [maxLen]; omega) (by omega)
      obtain ⟨u1, u2⟩ := up (BS.of_owns ho hupd)
      exact ⟨v', w', hr, u1, (below_of_only hg).mono hb, ⟨hg.os, hg.tape, hg.output, hg.size, fun k hk _ => hg.block k hk (by simp)⟩, fun g hg' => .inr (u2 g hg')⟩
end Go.Proofs.YtlfcaagogeclpaaDoor
