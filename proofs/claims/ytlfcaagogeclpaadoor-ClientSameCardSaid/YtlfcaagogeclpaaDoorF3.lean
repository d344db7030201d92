/-
  seal.put, seal.block, seal.New.
-/
import Derived.Test.YtlfcaagogeclpaaDoorE1
namespace Go.Proofs.YtlfcaagogeclpaaDoor
open Go.RowKit
/-- put$1: a byte xor the one that is held. -/
theorem each_any (c d : BitVec 8) (g : Nat) (w : World) (h : w.cell? ⟨g, 0, none⟩ = some (By d)) : Calls Tryd.prog 55 #[By c, .pointer (some ⟨g, 0, none⟩)] w fun e w' => e = .returned (By (c ^^^ d)) ∧ w = w' := by
  go_enter Tryd.func55, Tryd.ntmps55
  go_wp2_with fail
  go_ret
  exact ⟨rfl, rfl⟩
theorem copy_64 (b : Nat) (s : ByteArray) (w : World) (hb : Blk w b 71 64 (fun _ => By 0)) (hfit : s.size ≤ 64) :
    ∃ w1, (∀ ty, (Builtin.copy_ #[55, 9] ty #[.slice (some ⟨b, 0, none⟩) 64 64, .string s]).run Tryd.prog w = .ok (.int .i64 (s.size : Int)) w1) ∧ w.grownBy w1 (some b) ∧ Blk w1 b 71 64 (fun i => if i < s.size then By (sb s i) else By 0) := by
  refine ⟨_, fun ty => run_copy_str (P := Tryd.prog) w (dT := 55) (sT := 9) (ty := ty) (e := 5) Tryd.underlying55 size5 b 0 64 64 71 64 _ s hb (by omega) (by omega), only_setRow (only_refl _ _) (.inl rfl) _, (hb.setRow_ _).congr fun i hi => ?_⟩
  by_cases h : i < s.size
  · rw [if_pos (by omega), if_pos h]; rfl
  · rw [if_neg (by omega), if_neg h]
set_option maxRecDepth 100000 in
set_option maxHeartbeats 1000000 in
theorem sealblock_any (s : ByteArray) (hs : s.size ≤ 64) (w : World) : Calls Tryd.prog 43 #[.string s] w fun e w' => e = .returned (.agg (Row 64 fun i => if i < s.size then By (sb s i) else By 0)) ∧ Below w.heap.size w w' := by
  have hlen : ¬ ((s.size : Int) > 64) := by omega
  have hcut : ∀ W : World, ∀ L, (Instr.sliceAt 71 (.pointer (some ⟨L, 0, none⟩)) none none none).run Tryd.prog W = .ok (.slice (some ⟨L, 0, none⟩) 64 64) W := fun W L => run_cut_all 71 64 5 Tryd.underlying71 size5 L 0 W
  have h1 := Blk.new w 71 zeros64b
  have hw1 := only_alloc (only_refl w none) (.cells (Row 64 fun _ => By 0) 71)
  rw [← zeros64b] at hw1
  generalize hW : World.alloc w _ = W at h1 hw1
  have h2 := Blk.new W 71 zeros64b
  obtain ⟨w1, hcp, ho, hb2⟩ := copy_64 _ s _ h2 hs
  subst hW
  simp only [World.size_alloc] at hcp hb2 h2 ho
  have h1' := (h1.alloc (.cells (Row 64 fun _ => By 0) 71))
  rw [← zeros64b] at h1'
  have h1'' := h1'.grown ho (by simp)
  have ho2 := only_then (only_alloc hw1 _) ho (by simp)
  clear h1 h1' h2 ho hw1
  go_enter Tryd.func43, Tryd.ntmps43
  go_wp2_with (first
    | (refine wpList_load_blk rfl 71 (.tmp 3) rfl _ 71 64 _ rfl hb2 _ Tryd.underlying71 rfl size71 ?_)
    | (refine wpList_store_blk rfl 71 (.tmp 2) (.tmp 14) rfl w.heap.size 71 64 _ (fun i => if i < s.size then By (sb s i) else By 0) _ rfl rfl rfl h1'' size71 (fun i _ => by split <;> rfl) ?_))
  refine bodyPost_ret (results_blk rfl _ _ w.heap.size 71 64 _ rfl (h1''.setRow_ _) _ Tryd.underlying71 rfl size71) rfl ⟨rfl, below_of_only (only_setRow ho2 (.inr (by omega)) _)⟩
structure P1 (w : World) (c : Nat → BitVec 8) (d : BitVec 8) (k : Nat) (wr : World) : Prop where
  only : w.grownBy wr none
  row : Blk wr w.heap.size 71 64 (fun j => if j < k then By (c j ^^^ d) else By (c j))
  cap : wr.cell? ⟨w.heap.size + 1, 0, none⟩ = some (By d)
theorem P1.step {w : World} {c : Nat → BitVec 8} {d : BitVec 8} {k : Nat} {wr : World} (h : P1 w c d k wr) : P1 w c d (k + 1) (wr.setCell ⟨w.heap.size, k, none⟩ (By (c k ^^^ d))) := by
  refine ⟨only_setCell h.only (.inr (Nat.le_refl _)) _, (h.row.set_ _ _).congr fun i hi => ?_, ?_⟩
  · unfold upd
    by_cases e : i = k
    · subst e; rw [if_pos rfl, if_pos (by omega)]
    · rw [if_neg e]
      show (if i < k then _ else _) = _
      by_cases h1 : i < k
      · rw [if_pos h1, if_pos (by omega)]
      · rw [if_neg h1, if_neg (by omega)]
  · rw [World.cell?_setCell_other _ _ _ _ (by simp)]; exact h.cap
set_option maxRecDepth 100000 in
set_option maxHeartbeats 1000000 in
theorem sealput_any (c : Nat → BitVec 8) (d : BitVec 8) (w : World) : Calls Tryd.prog 46 #[.agg (Row 64 fun i => By (c i)), By d] w fun e w' => e = .returned (.string (str 64 fun i => c i ^^^ d)) ∧ Below w.heap.size w w' := by
  have hmf : ∀ (fn : Fn) (first cap : Array Value) (w : World), (Instr.makeFunc fn first cap).run Tryd.prog w = .ok (.func fn first cap) w := fun _ _ _ _ => rfl
  have hcut : ∀ W : World, ∀ L, (Instr.sliceAt 71 (.pointer (some ⟨L, 0, none⟩)) none none none).run Tryd.prog W = .ok (.slice (some ⟨L, 0, none⟩) 64 64) W := fun W L => run_cut_all 71 64 5 Tryd.underlying71 size5 L 0 W
  have hb := (Blk.new w 71 (rfl : Row 64 (fun i => By (c i)) = Row 64 (fun i => By (c i)))).alloc (.cells #[By d] 5)
  have h0 : P1 w c d 0 ((w.alloc (.cells (Row 64 fun i => By (c i)) 71)).alloc (.cells #[By d] 5)) := ⟨only_alloc (only_alloc (only_refl _ _) _) _, hb.congr fun i hi => by rw [if_neg (by omega)], by rw [World.cell?_alloc_at _ _ _ _ (by simp)]; rfl⟩
  go_enter Tryd.func46, Tryd.ntmps46
  go_wp2_with (first
    | (refine wpList_load_blk rfl 71 (.tmp 2) rfl _ 71 64 _ rfl hb _ Tryd.underlying71 rfl size71 ?_))
  clear hb hmf
  go_loopw [10] (fun i wr => ∃ k : Nat, k ≤ 64 ∧ i = .int .i64 k ∧ P1 w c d k wr) (fun i _ => 64 - (intOf i).toNat)
  case atStart => exact ⟨0, by omega, rfl, h0⟩
  case round =>
    clear h0
    obtain ⟨k, hk, rfl, hr⟩ := hrel
    by_cases hkt : k < 64
    · have hix := run_index_row (P := Tryd.prog) 71 64 5 Tryd.underlying71 size5 _ Tryd.underlying5 rfl (fun i => By (c i)) k hkt wr
      have hc0 : wr.cell? ⟨w.heap.size, k, none⟩ = some (By (c k)) := by rw [hr.row.cell (by omega), if_neg (by omega)]
      have hf0 : wr.frozen? ⟨w.heap.size, k, none⟩ = false := hr.row.free _
      have hcp := hr.cap
      go_wp2_with fail
      refine (each_any (c k) d _ wr hcp).mono ?_
      rintro e w2 ⟨rfl, rfl⟩
      go_wp2_with fail
      go_roundw
      case rel => exact ⟨k + 1, by omega, by go_num, hr.step⟩
      case measure => simp [intOf]; omega
    · obtain rfl : k = 64 := by omega
      have cv := run_str wr Tryd.underlying55 Tryd.underlying5 Tryd.underlying9 w.heap.size 0 64 64 (fun i => c i ^^^ d) (fun i hi => by rw [Nat.zero_add, hr.row.cell hi, if_pos hi])
      go_wp2_with fail
      go_ret
      exact ⟨rfl, below_of_only hr.only⟩
theorem wpList_build_one {P : Program} {ops : Array Oper} {rest : List Oper} {o : Oper} {a : Act} {w : World} {Q : Exit → Act → World → Prop} (hg : o.guard = none) (t : TypeId) (x : Operand) (ho : o.op = .build t #[(0, x)])
    (v : Value) (hx : a.eval x = v) (cells : Array Value) (hb : P.built t [(0, v)] = some cells)
    (h : wpList P ops Q rest (a.put o.dst (.agg cells)) w) : wpList P ops Q (o :: rest) a w := by
  refine wpList_plain hg fun _ hK => ?_
  unfold Oper.wp execOp
  subst hx
  have hb' : P.built t (#[(0, x)].map fun (i, x) => (i, a.eval x)).toList = some cells := by simpa using hb
  simp only [ho, Sem.run_bind, run_build w t _ _ hb', Result.andThen_ok]
  exact hK _ _ h
theorem built74 (g : Nat → BitVec 8) : Tryd.prog.built 74 [(0, .agg (Row 64 fun i => By (g i)))] = some (Row 64 fun i => By (g i)) := by kernel_rfl
/-- seal.New: a block of 64 with the key. -/
def keyb (s : ByteArray) (i : Nat) : BitVec 8 := if i < s.size then sb s i else 0
set_option maxRecDepth 100000 in
set_option maxHeartbeats 1000000 in
theorem sealnew_any (s : ByteArray) (hs : s.size ≤ 64) (w : World) : Calls Tryd.prog 32 #[.string s] w fun e w' => ∃ g, w.heap.size ≤ g ∧ e = .returned (.pointer (some ⟨g, 0, none⟩)) ∧ Below w.heap.size w w' ∧ Blk w' g 74 64 (fun i => By (keyb s i)) := by
  go_enter Tryd.func32, Tryd.ntmps32
  go_wp2_with fail
  refine (sealblock_any s hs w).mono ?_
  rintro e w2 ⟨rfl, hb2⟩
  have hk : (Row 64 fun i => if i < s.size then By (sb s i) else By 0) = Row 64 fun i => By (keyb s i) := Row_congr fun i _ => by unfold keyb; split <;> rfl
  rw [hk]
  simp only []
  go_at_K
  go_step
  refine wpList_build_one rfl 74 (.tmp 4) rfl _ rfl _ (built74 _) ?_
  go_step
  go_step
  go_wp2_with fail
  go_ret
  exact ⟨_, hb2.size, rfl, below_of_only (only_alloc (only_of_below hb2 _) _), Blk.new w2 74 rfl⟩
end Go.Proofs.YtlfcaagogeclpaaDoor
