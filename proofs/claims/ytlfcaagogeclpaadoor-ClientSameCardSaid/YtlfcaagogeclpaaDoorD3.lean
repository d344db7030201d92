/-
  The walk of (*hash.Hasher).Write, where the text fits into the block that is begun.
-/
import Derived.Test.YtlfcaagogeclpaaDoorB2
import Derived.Test.YtlfcaagogeclpaaDoorD2
namespace Go.Proofs.YtlfcaagogeclpaaDoor
open Go.RowKit
/-- c with the text s from a on. -/
def ins (c : Nat → BitVec 8) (a : Nat) (s : ByteArray) : Nat → BitVec 8 := fun i => if a ≤ i ∧ i < a + s.size then sb s (i - a) else c i
/-- The numbers behind the write. -/
def wx (x : Nat → BitVec 32) (c : Nat → BitVec 8) (n : Nat) (s : ByteArray) : Nat → BitVec 32 := if n % 64 + s.size = 64 then Sha.comp Sha.K x (ins c (n % 64) s) else x

theorem hs_count {x : Nat → BitVec 32} {c : Nat → BitVec 8} {n : Nat} (m i : Nat) (_hi : i < 74) : upd (hs x c n) 72 (.int .i64 (m : Int)) i = hs x c m i := by
  unfold upd hs
  by_cases h0 : i = 72
  · subst h0; rfl
  · rw [if_neg h0]
    by_cases h1 : i < 8
    · rw [if_pos h1, if_pos h1]
    · rw [if_neg h1, if_neg h1]
      by_cases h2 : i < 72
      · rw [if_pos h2, if_pos h2]
      · rw [if_neg h2, if_neg h2, if_neg (by omega), if_neg (by omega)]
theorem copy_hs (b : Nat) (x : Nat → BitVec 32) (c : Nat → BitVec 8) (n a : Nat) (s : ByteArray) (w : World) (hb : Blk w b 88 74 (hs x c n)) (hfit : a + s.size ≤ 64) :
    ∃ w1, (∀ ty, (Builtin.copy_ #[55, 9] ty #[.slice (some ⟨b, 8 + a, none⟩) (64 - a) (64 - a), .string s]).run Tryd.prog w = .ok (.int .i64 (s.size : Int)) w1) ∧ w.grownBy w1 (some b) ∧ Blk w1 b 88 74 (hs x (ins c a s) n) := by
  refine ⟨_, fun ty => run_copy_str (P := Tryd.prog) w (dT := 55) (sT := 9) (ty := ty) (e := 5) Tryd.underlying55 size5 b (8 + a) (64 - a) (64 - a) 88 74 _ s hb (by omega) (by omega), only_setRow (only_refl _ _) (.inl rfl) _, (hb.setRow_ _).congr fun i hi => ?_⟩
  unfold hs ins
  by_cases h1 : i < 8
  · rw [if_pos h1, if_neg (by omega), if_pos h1]
  · rw [if_neg h1, if_neg h1]
    by_cases h2 : i < 72
    · rw [if_pos h2, if_pos h2]
      by_cases h3 : 8 + a ≤ i ∧ i < 8 + a + s.size
      · rw [if_pos h3, if_pos (by omega)]
        congr 2; omega
      · rw [if_neg h3, if_neg (by omega)]
    · rw [if_neg h2, if_neg h2, if_neg (by omega)]
/-- A variable of the program's is as it was where another block alone has turned. -/
theorem only_other {w wr : World} {b : Nat} (h : w.grownBy wr (some b)) {a : Addr} {v : Value} (hc : w.cell? a = some v) (hne : a.block ≠ b) : wr.cell? a = some v :=
  h.cell hc (by simpa using hne)
set_option maxRecDepth 100000 in
set_option maxHeartbeats 400000 in
theorem write_any (b : Nat) (x : Nat → BitVec 32) (c : Nat → BitVec 8) (n : Nat) (s : ByteArray) (w : World) (hb : Blk w b 88 74 (hs x c n)) (hb1 : b ≠ 1) (hK : ∀ i, i < 64 → w.cell? ⟨1, i, none⟩ = some (U (Sha.K i)))
    (hs0 : 0 < s.size) (hfit : n % 64 + s.size ≤ 64) (hn : n ≤ 1000000) :
    Calls Tryd.prog 45 #[.pointer (some ⟨b, 0, none⟩), .string s] w fun e w' => e = .returned (.tuple #[]) ∧ w.grownBy w' (some b) ∧ Blk w' b 88 74 (hs (wx x c n s) (ins c (n % 64) s) (n + s.size)) := by
  have hm : w.cell? ⟨b, 73, none⟩ = some (.bool true) := hb.cell (by omega)
  have hnn : w.cell? ⟨b, 72, none⟩ = some (.int .i64 (n : Int)) := hb.cell (by omega)
  have hne : s.toList.isEmpty = false := by
    rw [← Bool.not_eq_true]
    intro h
    have h1 := congrArg List.length (List.isEmpty_iff.1 h)
    rw [ByteArray.toList_eq, Array.length_toList] at h1
    have h2 : s.data.size = s.size := rfl
    simp only [List.length_nil] at h1
    omega
  have hcut := run_cut_from (P := Tryd.prog) 71 64 5 Tryd.underlying71 size5 b 8 (n % 64) ((n : Int) % 64) (by omega) (by omega) w
  obtain ⟨w1, hcp, ho1, hb2⟩ := copy_hs b x c n (n % 64) s w hb hfit
  have hnn1 : w1.cell? ⟨b, 72, none⟩ = some (.int .i64 (n : Int)) := hb2.cell (by omega)
  have fn1 : w1.frozen? ⟨b, 72, none⟩ = false := hb2.free 72
  have hso : w.grownBy (w1.setCell ⟨b, 72, none⟩ (.int .i64 ((n : Int) + (s.size : Int)))) (some b) := only_setCell ho1 (.inl rfl) _
  have hsb : Blk (w1.setCell ⟨b, 72, none⟩ (.int .i64 ((n : Int) + (s.size : Int)))) b 88 74 (hs x (ins c (n % 64) s) (n + s.size)) := (hb2.set_ 72 _).congr fun i hi => hs_count (n + s.size) i hi
  have HO := Lib.hid hso
  have HB := Lib.hid hsb
  clear hso hsb
  by_cases h64 : n % 64 + s.size = 64
  · have hwx : wx x c n s = Sha.comp Sha.K x (ins c (n % 64) s) := by unfold wx; rw [if_pos h64]
    have ht : (((n : Int) % 64 + (s.size : Int)) == 64) = true := by rw [beq_iff_eq]; omega
    rw [hwx]
    clear hwx
    have H64 := Lib.hid h64
    clear h64
    go_enter Tryd.func45, Tryd.ntmps45
    go_wp2_with fail
    refine wp_loop_rounds 2 ?_
    rw [rounds_succ]
    go_wp2_with fail
    refine (block_any b x (ins c (n % 64) s) (n + s.size) _ HB.out (fun i hi => only_other HO.out (hK i hi) (by simpa using hb1.symm))).mono ?_
    rintro e w2 ⟨rfl, ho2, hb3⟩
    have hfin := only_trans HO.out ho2
    clear hm hnn hcut hcp ho1 hnn1 fn1 HO HB
    go_wp2_with fail
    rw [rounds_succ]
    go_wp2_with fail
    go_end0
    exact ⟨rfl, hfin, hb3⟩
  · have hwx : wx x c n s = x := by unfold wx; rw [if_neg h64]
    have ht : (((n : Int) % 64 + (s.size : Int)) == 64) = false := by rw [beq_eq_false_iff_ne]; omega
    rw [hwx]
    clear hwx
    have H64 := Lib.hid h64
    clear h64
    go_enter Tryd.func45, Tryd.ntmps45
    go_wp2_with fail
    refine wp_loop_rounds 2 ?_
    rw [rounds_succ]
    go_wp2_with fail
    rw [rounds_succ]
    go_wp2_with fail
    go_end0
    exact ⟨rfl, HO.out, HB.out⟩
end Go.Proofs.YtlfcaagogeclpaaDoor
