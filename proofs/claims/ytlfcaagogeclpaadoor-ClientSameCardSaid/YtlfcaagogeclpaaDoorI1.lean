/-
  twinspanref01: Text, digits, Num, Int of what the example asks.
-/
import Derived.Test.YtlfcaagogeclpaaDoorG1
namespace Go.Proofs.YtlfcaagogeclpaaDoor
open Go.RowKit
theorem rdigits0 (w : World) : Calls Tryd.prog 53 #[.int .u64 0] w fun e w' => e = .returned (.string (str 0 fun _ => 0)) ∧ Below w.heap.size w w' := by
  go_enter Tryd.func53, Tryd.ntmps53
  go_wp2_with fail
  refine wp_loop_rounds 1 ?_
  rw [rounds_succ]
  go_wp2_with fail
  go_ret
  exact ⟨rfl, Below.refl _ _⟩
set_option maxRecDepth 100000 in
theorem rdigits2 (w : World) : Calls Tryd.prog 53 #[.int .u64 2] w fun e w' => e = .returned (.string (str 1 fun _ => 2)) ∧ Below w.heap.size w w' := by
  have hbs : Blk (w.alloc (.cells #[.int .u8 2] 5)) w.heap.size 5 1 (fun _ => By 2) := Blk.new w 5 rfl
  have hcv := run_str _ Tryd.underlying55 Tryd.underlying5 Tryd.underlying9 w.heap.size 0 1 1 (fun _ => 2) (fun i hi => by rw [Nat.zero_add]; exact hbs.cell hi)
  have hfin := below_of_only (only_alloc (only_refl w none) (.cells #[.int .u8 2] 5))
  go_enter Tryd.func53, Tryd.ntmps53
  go_wp2_with fail
  refine wp_loop_rounds 2 ?_
  rw [rounds_succ]
  go_wp2_with fail
  rw [rounds_succ]
  go_wp2_with fail
  have he : (str 1 fun _ => 2#8) ++ (⟨#[]⟩ : ByteArray) = str 1 fun _ => 2#8 := by kernel_rfl
  rw [he]
  go_ret
  exact ⟨rfl, hfin⟩
set_option maxRecDepth 100000 in
set_option maxHeartbeats 2000000 in
theorem rtext_any (l : BitVec 8) (n : Nat) (d : Nat → BitVec 8) (hn : n = 0 ∨ n = 1 ∨ n = 32) (w : World) : Calls Tryd.prog 29 #[By l, .string (str n d)] w fun e w' => e = .returned (.string (str (4 + n) fun i => if i < 4 then hd l n i else d (i - 4))) ∧ Below w.heap.size w w' := by
  have hsz : (str n d).size = n := str_size n d
  have cv : ∀ (m : Int) (_ : Value.int .u8 m = By (BitVec.ofNat 8 n)), (convert 55 9 (.slice (some ⟨w.heap.size, 0, none⟩) 4 4)).run Tryd.prog (w.alloc (.cells #[By l, .int .u8 0, .int .u8 0, .int .u8 m] 5)) = .ok (.string (str 4 (hd l n))) (w.alloc (.cells #[By l, .int .u8 0, .int .u8 0, .int .u8 m] 5)) := fun m h =>
    run_str _ Tryd.underlying55 Tryd.underlying5 Tryd.underlying9 w.heap.size 0 4 4 _ (fun i hi => by rw [Nat.zero_add]; exact (Blk.new w 5 (hd_row l n m h)).cell hi)
  have hfin : ∀ o : Obj, Below w.heap.size w (w.alloc o) := fun o => below_of_only (only_alloc (only_refl w none) o)
  rcases hn with rfl | rfl | rfl
  · have cv' := cv 0 rfl
    clear cv
    go_enter Tryd.func29, Tryd.ntmps29
    go_wp2_with fail
    go_ret
    exact ⟨rfl, hfin _⟩
  · have cv' := cv 1 rfl
    clear cv
    go_enter Tryd.func29, Tryd.ntmps29
    go_wp2_with fail
    go_ret
    exact ⟨rfl, hfin _⟩
  · have cv' := cv 32 rfl
    clear cv
    go_enter Tryd.func29, Tryd.ntmps29
    go_wp2_with fail
    go_ret
    exact ⟨rfl, hfin _⟩
theorem rnum0 (l : BitVec 8) (w : World) : Calls Tryd.prog 42 #[By l, .int .u64 0] w fun e w' => e = .returned (.string (str 4 fun i => if i < 4 then hd l 0 i else 0)) ∧ Below w.heap.size w w' := by
  go_enter Tryd.func42, Tryd.ntmps42
  go_wp2_with fail
  refine (rdigits0 w).mono ?_
  rintro e w2 ⟨rfl, hb2⟩
  go_wp2_with fail
  refine (rtext_any l 0 _ (by omega) w2).mono ?_
  rintro e w3 ⟨rfl, hb3⟩
  go_wp2_with fail
  go_ret
  exact ⟨rfl, hb2.trans (hb3.mono hb2.size)⟩
theorem rnum2 (l : BitVec 8) (w : World) : Calls Tryd.prog 42 #[By l, .int .u64 2] w fun e w' => e = .returned (.string (str 5 fun i => if i < 4 then hd l 1 i else 2)) ∧ Below w.heap.size w w' := by
  go_enter Tryd.func42, Tryd.ntmps42
  go_wp2_with fail
  refine (rdigits2 w).mono ?_
  rintro e w2 ⟨rfl, hb2⟩
  go_wp2_with fail
  refine (rtext_any l 1 _ (by omega) w2).mono ?_
  rintro e w3 ⟨rfl, hb3⟩
  go_wp2_with fail
  go_ret
  exact ⟨rfl, hb2.trans (hb3.mono hb2.size)⟩
theorem rint0 (l : BitVec 8) (w : World) : Calls Tryd.prog 30 #[By l, .int .i64 0] w fun e w' => e = .returned (.string (str 4 fun i => if i < 4 then hd l 0 i else 0)) ∧ Below w.heap.size w w' := by
  go_enter Tryd.func30, Tryd.ntmps30
  go_wp2_with fail
  refine (rnum0 l w).mono ?_
  rintro e w2 ⟨rfl, hb2⟩
  go_wp2_with fail
  go_ret
  exact ⟨rfl, hb2⟩
theorem rint2 (l : BitVec 8) (w : World) : Calls Tryd.prog 30 #[By l, .int .i64 2] w fun e w' => e = .returned (.string (str 5 fun i => if i < 4 then hd l 1 i else 2)) ∧ Below w.heap.size w w' := by
  go_enter Tryd.func30, Tryd.ntmps30
  go_wp2_with fail
  refine (rnum2 l w).mono ?_
  rintro e w2 ⟨rfl, hb2⟩
  go_wp2_with fail
  go_ret
  exact ⟨rfl, hb2⟩
theorem rtext_a (w : World) : Calls Tryd.prog 29 #[.int .u8 99, .string ⟨#[97]⟩] w fun e w' => e = .returned (.string (str 5 fun i => if i < 4 then hd 99 1 i else 97)) ∧ Below w.heap.size w w' := by
  rw [letter_a]
  exact rtext_any 99 1 (fun _ => 97) (by omega) w
theorem rtext_n (l : BitVec 8) (v : Value) (hv : v = By l) (n N : Nat) (hN : 4 + n = N) (d : Nat → BitVec 8) (hn : n = 0 ∨ n = 1 ∨ n = 32) (w : World) : Calls Tryd.prog 29 #[v, .string (str n d)] w fun e w' => e = .returned (.string (str N fun i => if i < 4 then hd l n i else d (i - 4))) ∧ Below w.heap.size w w' := by
  subst hv; subst hN; exact rtext_any l n d hn w
theorem rtext_r (rt : Nat → BitVec 8) (w : World) : Calls Tryd.prog 29 #[.int .u8 114, .string (str 32 rt)] w fun e w' => e = .returned (.string (str 36 fun i => if i < 4 then hd 114 32 i else rt (i - 4))) ∧ Below w.heap.size w w' :=
  rtext_n 114 _ rfl 32 36 rfl rt (by omega) w
theorem rint_h (w : World) : Calls Tryd.prog 30 #[.int .u8 104, .int .i64 2] w fun e w' => e = .returned (.string (str 5 fun i => if i < 4 then hd 104 1 i else 2)) ∧ Below w.heap.size w w' := rint2 104 w
theorem rint_t (w : World) : Calls Tryd.prog 30 #[.int .u8 116, .int .i64 0] w fun e w' => e = .returned (.string (str 4 fun i => if i < 4 then hd 116 0 i else 0)) ∧ Below w.heap.size w w' := rint0 116 w
end Go.Proofs.YtlfcaagogeclpaaDoor
