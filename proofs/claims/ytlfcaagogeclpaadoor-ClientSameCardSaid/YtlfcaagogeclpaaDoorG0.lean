/-
  tlv: heads, Text, digits, Num, Int of the numbers that the example asks.
-/
import Derived.Test.YtlfcaagogeclpaaDoorH0
import Derived.Lib.AppendZeros
namespace Go.Proofs.YtlfcaagogeclpaaDoor
open Go.RowKit
theorem size81 : (Tryd.prog.info? 81).map (·.size) = some 4 := by kernel_rfl
/-- The head of n bytes. -/
def hd (l : BitVec 8) (n i : Nat) : BitVec 8 := if i = 0 then l else if i = 3 then BitVec.ofNat 8 n else 0
theorem hd_row (l : BitVec 8) (n : Nat) (m : Int) (h : Value.int .u8 m = By (BitVec.ofNat 8 n)) : (#[By l, Value.int .u8 0, Value.int .u8 0, Value.int .u8 m] : Array Value) = Row 4 fun i => By (hd l n i) := by
  rw [h]; rfl
set_option maxHeartbeats 1000000 in
theorem heads_any (l : BitVec 8) (n : Nat) (hn : n = 0 ∨ n = 1 ∨ n = 32) (w : World) : Calls Tryd.prog 49 #[By l, .int .i64 (n : Int)] w fun e w' => e = .returned (.agg (Row 4 fun i => By (hd l n i))) ∧ Below w.heap.size w w' := by
  rcases hn with rfl | rfl | rfl
  · have hb := Blk.new w 81 (hd_row l 0 0 rfl)
    go_enter Tryd.func49, Tryd.ntmps49
    go_wp2_with fail
    exact bodyPost_ret (results_blk rfl _ _ w.heap.size 81 4 _ rfl hb _ Tryd.underlying81 rfl size81) rfl ⟨rfl, below_of_only (only_alloc (only_refl _ _) _)⟩
  · have hb := Blk.new w 81 (hd_row l 1 1 rfl)
    go_enter Tryd.func49, Tryd.ntmps49
    go_wp2_with fail
    exact bodyPost_ret (results_blk rfl _ _ w.heap.size 81 4 _ rfl hb _ Tryd.underlying81 rfl size81) rfl ⟨rfl, below_of_only (only_alloc (only_refl _ _) _)⟩
  · have hb := Blk.new w 81 (hd_row l 32 32 rfl)
    go_enter Tryd.func49, Tryd.ntmps49
    go_wp2_with fail
    exact bodyPost_ret (results_blk rfl _ _ w.heap.size 81 4 _ rfl hb _ Tryd.underlying81 rfl size81) rfl ⟨rfl, below_of_only (only_alloc (only_refl _ _) _)⟩
theorem digits0 (w : World) : Calls Tryd.prog 57 #[.int .u64 0] w fun e w' => e = .returned (.string (str 0 fun _ => 0)) ∧ Below w.heap.size w w' := by
  have hcv := (BS.nil w.heap.size w (fun _ => 0)).text
  go_enter Tryd.func57, Tryd.ntmps57
  go_wp2_with fail
  refine wp_loop_rounds 9 ?_
  iterate 9 (rw [rounds_succ]; go_wp2_with fail)
  go_ret
  exact ⟨rfl, Below.refl _ _⟩
theorem digits2 (w : World) : Calls Tryd.prog 57 #[.int .u64 2] w fun e w' => e = .returned (.string (str 1 fun _ => 2)) ∧ Below w.heap.size w w' := by
  have hbs : Blk (w.alloc (.cells #[.int .u8 2] 5)) w.heap.size 5 1 (fun _ => By 2) := Blk.new w 5 rfl
  obtain ⟨v', w', hrun, hv', hw'⟩ := (BS.nil w.heap.size (w.alloc (.cells #[.int .u8 2] 5)) (fun _ => 2)).append 55 (by simp) w.heap.size 2 (hbs.cell (by omega)) (by omega)
  have hcv := (hv'.congr (d := fun _ => 2) fun i _ => by unfold upd; split <;> rfl).text
  have hfin := (below_of_only (only_alloc (only_refl w none) (.cells #[.int .u8 2] 5))).trans hw'
  go_enter Tryd.func57, Tryd.ntmps57
  go_wp2_with fail
  refine wp_loop_rounds 9 ?_
  iterate 7 (rw [rounds_succ]; go_wp2_with fail)
  rw [rounds_succ]
  go_wp2_with (first | (at_builtin; refine Lib.wpList_append_run _ rfl (.tmp 21) (.tmp 23) 55 55 rfl _ _ rfl rfl _ _ hrun ?_))
  rw [rounds_succ]
  go_wp2_with fail
  go_ret
  exact ⟨rfl, hfin⟩
theorem zeros4b : (#[Value.int .u8 0, Value.int .u8 0, Value.int .u8 0, Value.int .u8 0] : Array Value) = Row 4 (fun _ => By 0) := rfl
theorem str_all (n : Nat) (d : Nat → BitVec 8) : (str n d).extract 0 n = str n d := by
  conv => lhs; arg 3; rw [← str_size n d]
  simp
set_option maxHeartbeats 2000000 in
theorem tlvtext_any (l : BitVec 8) (n : Nat) (d : Nat → BitVec 8) (hn : n = 0 ∨ n = 1 ∨ n = 32) (w : World) : Calls Tryd.prog 34 #[By l, .string (str n d)] w fun e w' => e = .returned (.string (str (4 + n) fun i => if i < 4 then hd l n i else d (i - 4))) ∧ Below w.heap.size w w' := by
  have hcut : ∀ W : World, ∀ L, (Instr.sliceAt 81 (.pointer (some ⟨L, 0, none⟩)) none none none).run Tryd.prog W = .ok (.slice (some ⟨L, 0, none⟩) 4 4) W := fun W L => run_cut_all 81 4 5 Tryd.underlying81 size5 L 0 W
  have key : ∀ w2, Below w.heap.size w w2 → Below w.heap.size w ((w2.alloc (.cells #[Value.int .u8 0, Value.int .u8 0, Value.int .u8 0, Value.int .u8 0] 81)).setRow w2.heap.size (Row 4 fun i => By (hd l n i))) := fun w2 h => below_of_only (only_setRow (only_alloc (only_of_below h none) _) (.inr h.size) _)
  have hb : ∀ w2 : World, Blk (w2.alloc (.cells #[Value.int .u8 0, Value.int .u8 0, Value.int .u8 0, Value.int .u8 0] 81)) w2.heap.size 81 4 (fun _ => By 0) := fun w2 => Blk.new w2 81 zeros4b
  have cv : ∀ w2 : World, (convert 55 9 (.slice (some ⟨w2.heap.size, 0, none⟩) 4 4)).run Tryd.prog ((w2.alloc (.cells #[Value.int .u8 0, Value.int .u8 0, Value.int .u8 0, Value.int .u8 0] 81)).setRow w2.heap.size (Row 4 fun i => By (hd l n i))) = .ok (.string (str 4 (hd l n))) ((w2.alloc (.cells #[Value.int .u8 0, Value.int .u8 0, Value.int .u8 0, Value.int .u8 0] 81)).setRow w2.heap.size (Row 4 fun i => By (hd l n i))) := fun w2 =>
    run_str _ Tryd.underlying55 Tryd.underlying5 Tryd.underlying9 w2.heap.size 0 4 4 _ (fun i hi => by rw [Nat.zero_add]; exact ((hb w2).setRow_ _).cell hi)
  have hsz : (str n d).size = n := str_size n d
  have hex : (str n d).extract 0 n = str n d := str_all n d
  rcases hn with rfl | rfl | rfl
  · have hmn : min (0 : Int) 16777215 = 0 := by decide
    go_enter Tryd.func34, Tryd.ntmps34
    go_wp2_with fail
    refine (heads_any l 0 (by omega) w).mono ?_
    rintro e w2 ⟨rfl, hb2⟩
    have key2 := key w2 hb2
    have hbw := hb w2
    clear key hb
    go_wp2_with (first
      | (refine wpList_store_blk rfl 81 (.tmp 5) (.tmp 14) rfl w2.heap.size 81 4 _ (fun i => By (hd l 0 i)) _ rfl rfl rfl hbw size81 (fun i _ => rfl) ?_))
    go_ret
    exact ⟨rfl, key2⟩
  · have hmn : min (1 : Int) 16777215 = 1 := by decide
    go_enter Tryd.func34, Tryd.ntmps34
    go_wp2_with fail
    refine (heads_any l 1 (by omega) w).mono ?_
    rintro e w2 ⟨rfl, hb2⟩
    have key2 := key w2 hb2
    have hbw := hb w2
    clear key hb
    go_wp2_with (first
      | (refine wpList_store_blk rfl 81 (.tmp 5) (.tmp 14) rfl w2.heap.size 81 4 _ (fun i => By (hd l 1 i)) _ rfl rfl rfl hbw size81 (fun i _ => rfl) ?_))
    go_ret
    exact ⟨rfl, key2⟩
  · have hmn : min (32 : Int) 16777215 = 32 := by decide
    go_enter Tryd.func34, Tryd.ntmps34
    go_wp2_with fail
    refine (heads_any l 32 (by omega) w).mono ?_
    rintro e w2 ⟨rfl, hb2⟩
    have key2 := key w2 hb2
    have hbw := hb w2
    clear key hb
    go_wp2_with (first
      | (refine wpList_store_blk rfl 81 (.tmp 5) (.tmp 14) rfl w2.heap.size 81 4 _ (fun i => By (hd l 32 i)) _ rfl rfl rfl hbw size81 (fun i _ => rfl) ?_))
    go_ret
    exact ⟨rfl, key2⟩
end Go.Proofs.YtlfcaagogeclpaaDoor
