/-
  Slices of bytes that grow by append: what they hold, whatever mark a conversion has left on their block.
-/
import Derived.Test.YtlfcaagogeclpaaDoorF1
import Derived.ArgAppend
import Derived.Lib.ConvBytes
namespace Go.Proofs.YtlfcaagogeclpaaDoor
open Go.RowKit
/-- v is a slice of n bytes c, nil or in a block from 'base' on, each of its places writable. -/
def BS (base : Nat) (w : World) (v : Value) (n : Nat) (c : Nat → BitVec 8) : Prop :=
  (v = .slice none 0 0 ∧ n = 0) ∨
  ∃ g cap, v = .slice (some ⟨g, 0, none⟩) n cap ∧ base ≤ g ∧ g < w.heap.size ∧ n ≤ cap ∧ cap ≤ maxLen ∧ (∀ i, i < cap → (w.cell? ⟨g, i, none⟩).isSome = true) ∧ (∀ i, i < cap → w.frozen? ⟨g, i, none⟩ = false) ∧ (∀ i, i < n → w.cell? ⟨g, i, none⟩ = some (By (c i)))
theorem cell_of_heap {w w' : World} {g i : Nat} (h : w'.heap[g]? = w.heap[g]?) : w'.cell? ⟨g, i, none⟩ = w.cell? ⟨g, i, none⟩ := by
  unfold World.cell?; simp only [h]
theorem frozen_of_heap {w w' : World} {g i : Nat} (h : w'.heap[g]? = w.heap[g]?) : w'.frozen? ⟨g, i, none⟩ = w.frozen? ⟨g, i, none⟩ := by
  unfold World.frozen?; simp only [h]
theorem BS.next {base : Nat} {w w' : World} {v : Value} {n : Nat} {c : Nat → BitVec 8} (h : BS base w v n c) (hw : w.grownBy w' none) : BS base w' v n c := by
  rcases h with h | ⟨g, cap, h1, h2, h3, h4, h5, h6, h7, h8⟩
  · exact .inl h
  · have hg : w'.heap[g]? = w.heap[g]? := hw.block g h3 (by simp)
    exact .inr ⟨g, cap, h1, h2, Nat.lt_of_lt_of_le h3 hw.size, h4, h5, fun i hi => by rw [cell_of_heap hg]; exact h6 i hi, fun i hi => by rw [frozen_of_heap hg]; exact h7 i hi, fun i hi => by rw [cell_of_heap hg]; exact h8 i hi⟩
theorem BS.congr {base : Nat} {w : World} {v : Value} {n : Nat} {c d : Nat → BitVec 8} (h : BS base w v n c) (hc : ∀ i, i < n → c i = d i) : BS base w v n d := by
  rcases h with h | ⟨g, cap, h1, h2, h3, h4, h5, h6, h7, h8⟩
  · exact .inl h
  · exact .inr ⟨g, cap, h1, h2, h3, h4, h5, h6, h7, fun i hi => by rw [h8 i hi, hc i hi]⟩
theorem BS.nil (base : Nat) (w : World) (c : Nat → BitVec 8) : BS base w (.slice none 0 0) 0 c := .inl ⟨rfl, rfl⟩
/-- string(b). -/
theorem BS.text {base : Nat} {w : World} {v : Value} {n : Nat} {c : Nat → BitVec 8} (h : BS base w v n c) : (convert 55 9 v).run Tryd.prog w = .ok (.string (str n c)) w := by
  rcases h with ⟨rfl, rfl⟩ | ⟨g, cap, rfl, h2, h3, h4, h5, h6, h7, h8⟩
  · rw [run_str_none w Tryd.underlying55 Tryd.underlying5 Tryd.underlying9, str_zero]
  · exact run_str w Tryd.underlying55 Tryd.underlying5 Tryd.underlying9 g 0 n cap c fun i hi => by rw [Nat.zero_add]; exact h8 i hi
theorem info5 : ∃ i z, Tryd.prog.info? 5 = some i ∧ i.zero = some z ∧ i.size = 1 ∧ i.bytes = 1 ∧ z.cells.size = 1 := by
  have h : (Tryd.prog.info? 5).map (fun i => (i.zero.map (·.cells.size), i.size, i.bytes)) = some (some 1, 1, 1) := by kernel_rfl
  cases hi : Tryd.prog.info? 5 with
  | none => rw [hi] at h; cases h
  | some i =>
    rw [hi] at h
    simp only [Option.map_some, Option.some.injEq, Prod.mk.injEq] at h
    obtain ⟨h1, h2, h3⟩ := h
    cases hz : i.zero with
    | none => rw [hz] at h1; cases h1
    | some z =>
      rw [hz] at h1
      simp only [Option.map_some, Option.some.injEq] at h1
      exact ⟨i, z, rfl, hz, h2, h3, h1⟩
theorem BS.of_owns {base : Nat} {w : World} {v : Value} {n : Nat} {c : Nat → BitVec 8} {xs : List Value} (h : w.ownsRow base 5 1 v n xs) (hx : ∀ i, i < n → xs[i]? = some (By (c i))) : BS base w v n c := by
  rcases h with ⟨hl, ⟨rfl, rfl⟩ | ⟨g, cap, cur, rfl, hb, hg, hn, hm, hs, ht⟩⟩
  · exact .inl ⟨rfl, rfl⟩
  · have hlt : g < w.heap.size := by
      rcases Nat.lt_or_ge g w.heap.size with h | h
      · exact h
      · rw [Array.getElem?_eq_none h] at hg; cases hg
    have hc : ∀ i, w.cell? ⟨g, i, none⟩ = cur[i]? := fun i => by simp [World.cell?, hg]
    refine .inr ⟨g, cap, rfl, hb, hlt, hn, hm, fun i hi => ?_, fun i _ => frozen_of_row w g i cur 5 hg, fun i hi => ?_⟩
    · rw [hc, Array.getElem?_eq_getElem (by omega)]; rfl
    · rw [hc, ← Array.getElem?_toList, ← hx i hi, ← ht, List.getElem?_take_of_lt (by omega)]
/-- append(b, d). -/
theorem BS.append (ty : TypeId) {base : Nat} {w : World} {v : Value} {n : Nat} {c : Nat → BitVec 8} (h : BS base w v n c) (hb : base ≤ w.heap.size) (q : Nat) (d : BitVec 8) (hq : w.cell? ⟨q, 0, none⟩ = some (By d)) (hn : n ≤ 1000000) :
    ∃ v' w', (Builtin.append_ #[55, 55] ty #[v, .slice (some ⟨q, 0, none⟩) 1 1]).run Tryd.prog w = .ok v' w' ∧ BS base w' v' (n + 1) (upd c n d) ∧ Below base w w' := by
  obtain ⟨i, z, hi, hz, hs, hby, hzs⟩ := info5
  have hnews : ∀ j u, [By d][j]? = some u → w.cell? ((⟨q, 0, none⟩ : Addr).add j) = some u := by
    intro j u hj
    match j, hj with
    | 0, hj => simp at hj; subst hj; exact hq
  have hone : ∀ u ∈ [By d], u.oneCell' = true := by intro u hu; simp at hu; subst hu; rfl
  have hupd : ∀ i, i < n + 1 → ((List.range n).map (fun i => By (c i)) ++ [By d])[i]? = some (By (upd c n d i)) := by
    intro i hi
    unfold upd
    by_cases e : i = n
    · subst e; rw [if_pos rfl, List.getElem?_append_right (by simp)]; simp
    · rw [if_neg e, List.getElem?_append_left (by simp; omega), List.getElem?_map, List.getElem?_range (by omega)]; rfl
  rcases h with ⟨rfl, rfl⟩ | ⟨g, cap, rfl, h2, h3, h4, h5, h6, h7, h8⟩
  · obtain ⟨v', w', hr, ho, hg, _⟩ := run_append_own (P := Tryd.prog) w base 55 ty 5 i z 1 1 Tryd.underlying55 hi hz hs hby hzs (by omega) (.slice none 0 0) 0 [] ⟨rfl, .inl ⟨rfl, rfl⟩⟩ ⟨q, 0, none⟩ 1 1 [By d] rfl hnews hone (by simp [maxLen]) (by omega) hb
    exact ⟨v', w', hr, BS.of_owns ho hupd, (below_of_only hg).mono hb⟩
  · by_cases hroom : n + 1 ≤ cap
    · have hr := run_append_room_cells (P := Tryd.prog) w 55 ty 5 i Tryd.underlying55 hi g 0 n cap ⟨q, 0, none⟩ 1 1 [By d] (by rw [hs]; rfl) hnews hone hroom
        (fun j hj => by simp at hj; subst hj; rw [hs]; simpa using h6 n (by omega)) (fun j hj => by simp at hj; subst hj; rw [hs]; simpa using h7 n (by omega))
      rw [hs, Nat.mul_one, Nat.zero_add] at hr
      refine ⟨_, _, hr, .inr ⟨g, cap, rfl, h2, ?_, hroom, h5, fun i hi => ?_, fun i hi => ?_, fun i hi => ?_⟩, ?_⟩
      · simpa [World.setCells, World.setCell] using h3
      · show ((w.setCell ⟨g, n, none⟩ (By d)).cell? _).isSome = true
        by_cases e : i = n
        · subst e
          obtain ⟨u, hu⟩ := Option.isSome_iff_exists.1 (h6 i hi)
          rw [World.cell?_setCell_same _ _ _ hu]; rfl
        · rw [World.cell?_setCell_other _ _ _ _ (by intro h; injection h; omega)]; exact h6 i hi
      · show (w.setCell ⟨g, n, none⟩ (By d)).frozen? _ = false
        rw [World.frozen?_setCell]; exact h7 i hi
      · show (w.setCell ⟨g, n, none⟩ (By d)).cell? _ = _
        unfold upd
        by_cases e : i = n
        · subst e
          obtain ⟨u, hu⟩ := Option.isSome_iff_exists.1 (h6 i (by omega))
          rw [World.cell?_setCell_same _ _ _ hu, if_pos rfl]
        · rw [World.cell?_setCell_other _ _ _ _ (by intro h; injection h; omega), if_neg e]; exact h8 i (by omega)
      · show Below base w (w.setCell ⟨g, n, none⟩ (By d))
        exact ⟨rfl, rfl, rfl, by simp [World.setCell], fun k hk => Below.heap_setCell w _ _ k (by show k ≠ g; omega)⟩
    · obtain ⟨v', w', hr, ho, hg⟩ := run_append_arg_grows (P := Tryd.prog) w 55 ty 5 i z 1 1 Tryd.underlying55 hi hz hs hby hzs (by omega) ⟨g, 0, none⟩ n cap ((List.range n).map fun i => By (c i)) (by simp)
        (fun j u hj => by
          have hj' : j < n := by
            rcases Nat.lt_or_ge j n with h | h
            · exact h
            · rw [List.getElem?_eq_none (by simpa using h)] at hj; cases hj
          rw [List.getElem?_map, List.getElem?_range hj'] at hj
          simp only [Option.map_some, Option.some.injEq] at hj
          subst hj
          have := h8 j hj'
          cases j <;> simpa [Addr.add] using this)
        ⟨q, 0, none⟩ 1 1 [By d] rfl hnews (by omega) (by simp only [maxLen]; omega) (by omega)
      refine ⟨v', w', hr, ?_, (below_of_only hg).mono hb⟩
      have h9 := BS.of_owns ho hupd
      rcases h9 with h9 | ⟨g', cap', e1, e2, e3⟩
      · exact .inl h9
      · exact .inr ⟨g', cap', e1, Nat.le_trans hb e2, e3⟩
/-- []byte(s). -/
theorem BS.bytes (base : Nat) (w : World) (s : ByteArray) (hb : base ≤ w.heap.size) (hs : s.size ≤ 1000000) : ∃ v w', (convert 9 55 (.string s)).run Tryd.prog w = .ok v w' ∧ BS base w' v s.size (sb s) ∧ Below base w w' := by
  have hge := grownCap_ge w s.size 0 5
  have hbc : (Lib.bytesCells w 5 s).size = grownCap w s.size 0 5 := by
    have h : s.data.size = s.size := rfl
    simp [Lib.bytesCells]; omega
  have hat := Lib.bytesWorld_at_new w 5 s
  refine ⟨_, _, Lib.run_convert_string_bytes (P := Tryd.prog) w 9 55 5 s Tryd.underlying9 Tryd.underlying55 Tryd.underlying5, .inr ⟨w.heap.size, _, rfl, hb, by rw [Lib.bytesWorld_size]; omega, hge, grownCap_le_maxLen _ _ _ _ (by simp only [maxLen]; omega), fun i hi => ?_, fun i hi => ?_, fun i hi => ?_⟩, ?_⟩
  · simp only [World.cell?, hat]
    rw [← hbc] at hi
    simp [hi]
  · simp only [World.frozen?, hat]
    rw [← hbc] at hi
    simp; omega
  · rw [Lib.bytesWorld_cell w 5 s i hi]
    simp [By, sb, List.getD]
  · exact ⟨rfl, rfl, rfl, by rw [Lib.bytesWorld_size]; omega, fun k hk => Lib.bytesWorld_at_old w 5 s k (by omega)⟩
end Go.Proofs.YtlfcaagogeclpaaDoor
