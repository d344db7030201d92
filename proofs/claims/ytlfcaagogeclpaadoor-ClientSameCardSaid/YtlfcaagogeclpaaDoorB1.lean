/-
  The hash block's loops: what holds at each round's head, and what a round does to it.
-/
import Derived.Test.YtlfcaagogeclpaaDoorAA
namespace Go.Proofs.YtlfcaagogeclpaaDoor
open Go.RowKit
/-- The cells of a hasher: eight numbers, a block's bytes, how many bytes, made. -/
def hs (x : Nat → BitVec 32) (c : Nat → BitVec 8) (n : Nat) : Nat → Value := fun i => if i < 8 then U (x i) else if i < 72 then By (c (i - 8)) else if i < 73 then .int .i64 (n : Int) else .bool true
def R1 (w : World) (c : Nat → BitVec 8) (k : Nat) (wr : World) : Prop := w.grownBy wr none ∧ Blk wr w.heap.size 93 64 (fun j => if j < k then U (Sha.be c j) else U 0)
/-- The word of which k bytes are in. -/
def bek (c : Nat → BitVec 8) (i : Nat) : Nat → BitVec 32
  | 0 => 0
  | k + 1 => bek c i k <<< 8 ||| (c (4 * i + k)).setWidth 32
def R2 (w : World) (c : Nat → BitVec 8) (k j : Nat) (wr : World) : Prop := w.grownBy wr none ∧ Blk wr w.heap.size 93 64 (fun i => if i < k then U (Sha.be c i) else if i = k then U (bek c k j) else U 0)
theorem R2_start {w wr : World} {c : Nat → BitVec 8} {k : Nat} (h : R1 w c k wr) : R2 w c k 0 wr :=
  ⟨h.1, h.2.congr fun i _ => by
    by_cases hi : i < k
    · rw [if_pos hi, if_pos hi]
    · rw [if_neg hi, if_neg hi]
      by_cases e : i = k
      · rw [if_pos e]; rfl
      · rw [if_neg e]⟩
theorem R2_end {w wr : World} {c : Nat → BitVec 8} {k : Nat} (h : R2 w c k 4 wr) : R1 w c (k + 1) wr :=
  ⟨h.1, h.2.congr fun i _ => by
    by_cases hi : i < k
    · rw [if_pos hi, if_pos (by omega)]
    · rw [if_neg hi]
      by_cases e : i = k
      · subst e; rw [if_pos rfl, if_pos (by omega)]; rfl
      · rw [if_neg e, if_neg (by omega)]⟩
theorem R2_step {w wr : World} {c : Nat → BitVec 8} {k j : Nat} (h : R2 w c k j wr) : R2 w c k (j + 1) (wr.setCell ⟨w.heap.size, k, none⟩ (U (bek c k j <<< 8 ||| (c (4 * k + j)).setWidth 32))) :=
  ⟨only_setCell h.1 (.inr (Nat.le_refl _)) _, (h.2.set_ k _).congr fun i _ => by
    unfold upd
    by_cases e : i = k
    · subst e; rw [if_pos rfl, if_neg (by omega), if_pos rfl]; rfl
    · rw [if_neg e]
      show (if i < k then _ else if i = k then _ else _) = _
      by_cases hi : i < k
      · rw [if_pos hi, if_pos hi]
      · rw [if_neg hi, if_neg hi, if_neg e, if_neg e]⟩
theorem R2_cell {w wr : World} {c : Nat → BitVec 8} {k j : Nat} (h : R2 w c k j wr) (hk : k < 16) : wr.cell? ⟨w.heap.size, k, none⟩ = some (U (bek c k j)) := by
  rw [h.2.cell (by omega), if_neg (by omega), if_pos rfl]
theorem hs_buf {x : Nat → BitVec 32} {c : Nat → BitVec 8} {n i : Nat} (h1 : 8 ≤ i) (h2 : i < 72) : hs x c n i = By (c (i - 8)) := by
  unfold hs; rw [if_neg (by omega), if_pos h2]
theorem R2_buf {w wr : World} {b n : Nat} {x : Nat → BitVec 32} {c : Nat → BitVec 8} {k j : Nat} (hb : Blk w b 88 74 (hs x c n)) (h : w.grownBy wr none) (hk : k < 16) (hj : j < 4) : wr.cell? ⟨b, 8 + 4 * k + j, none⟩ = some (By (c (4 * k + j))) := by
  rw [(hb.grown h (by simp)).cell (by omega), hs_buf (by omega) (by omega)]
  congr 3; omega
def R3 (w : World) (c : Nat → BitVec 8) (k : Nat) (wr : World) : Prop := w.grownBy wr none ∧ Blk wr w.heap.size 93 64 (fun j => if j < k then U (Sha.wd (Sha.be c) j) else U 0)
theorem R3_start {w wr : World} {c : Nat → BitVec 8} (h : R1 w c 16 wr) : R3 w c 16 wr :=
  ⟨h.1, h.2.congr fun i _ => by
    by_cases hi : i < 16
    · rw [if_pos hi, if_pos hi, Sha.wd_lt _ hi]
    · rw [if_neg hi, if_neg hi]⟩
theorem R3_cell {w wr : World} {c : Nat → BitVec 8} {k j : Nat} (h : R3 w c k wr) (hj : j < k ∧ j < 64) : wr.cell? ⟨w.heap.size, j, none⟩ = some (U (Sha.wd (Sha.be c) j)) := by
  rw [h.2.cell hj.2, if_pos hj.1]
theorem R3_step {w wr : World} {c : Nat → BitVec 8} {k : Nat} (h : R3 w c k wr) (hk : 16 ≤ k) :
    R3 w c (k + 1) (wr.setCell ⟨w.heap.size, k, none⟩ (U (Sha.wd (Sha.be c) (k - 16) + ((Sha.wd (Sha.be c) (k - 15)).rotateRight 7 ^^^ (Sha.wd (Sha.be c) (k - 15)).rotateRight 18 ^^^ Sha.wd (Sha.be c) (k - 15) >>> 3) + Sha.wd (Sha.be c) (k - 7) +
      ((Sha.wd (Sha.be c) (k - 2)).rotateRight 17 ^^^ (Sha.wd (Sha.be c) (k - 2)).rotateRight 19 ^^^ Sha.wd (Sha.be c) (k - 2) >>> 10)))).drew :=
  ⟨only_drew (only_setCell h.1 (.inr (Nat.le_refl _)) _), ((h.2.set_ k _).congr fun i _ => by
    unfold upd
    by_cases e : i = k
    · subst e; rw [if_pos rfl, if_pos (by omega), Sha.wd_ge _ hk]; rfl
    · rw [if_neg e]
      show (if i < k then _ else _) = _
      by_cases hi : i < k
      · rw [if_pos hi, if_pos (by omega)]
      · rw [if_neg hi, if_neg (by omega)]).drew⟩
theorem hs_x {x : Nat → BitVec 32} {c : Nat → BitVec 8} {n i : Nat} (h1 : i < 8) : hs x c n i = U (x i) := by unfold hs; rw [if_pos h1]
theorem R3_x {w wr : World} {b n k : Nat} {x : Nat → BitVec 32} {c : Nat → BitVec 8} (hb : Blk w b 88 74 (hs x c n)) (h : R3 w c k wr) {i : Nat} (hi : i < 8) : wr.cell? ⟨b, i, none⟩ = some (U (x i)) := by
  rw [(hb.grown h.1 (by simp)).cell (by omega), hs_x hi]
def R4 (w : World) (c : Nat → BitVec 8) (x : Nat → BitVec 32) (k Y : Nat) (wr : World) : Prop :=
  w.grownBy wr none ∧ w.heap.size < Y ∧ Blk wr w.heap.size 93 64 (fun j => U (Sha.wd (Sha.be c) j)) ∧ Blk wr Y 84 8 (fun i => U (Sha.rounds Sha.K (Sha.be c) x k i))
theorem eight (f : Nat → Value) : #[f 0, f 1, f 2, f 3, f 4, f 5, f 6, f 7] = Row 8 f := by
  refine Row_of rfl fun i hi => ?_
  match i, hi with
  | 0, _ => rfl
  | 1, _ => rfl
  | 2, _ => rfl
  | 3, _ => rfl
  | 4, _ => rfl
  | 5, _ => rfl
  | 6, _ => rfl
  | 7, _ => rfl
theorem R4_start {w wr : World} {c : Nat → BitVec 8} {x : Nat → BitVec 32} (h : R3 w c 64 wr) : R4 w c x 0 wr.heap.size (wr.alloc (.cells #[U (x 0), U (x 1), U (x 2), U (x 3), U (x 4), U (x 5), U (x 6), U (x 7)] 84)) :=
  ⟨only_alloc h.1 _, h.2.lt, (h.2.congr fun i hi => by rw [if_pos hi]).alloc _, Blk.new wr 84 (eight fun i => U (x i))⟩
theorem R4_y {w wr : World} {c : Nat → BitVec 8} {x : Nat → BitVec 32} {k Y : Nat} (h : R4 w c x k Y wr) {i : Nat} (hi : i < 8) : wr.cell? ⟨Y, i, none⟩ = some (U (Sha.rounds Sha.K (Sha.be c) x k i)) := h.2.2.2.cell hi
theorem R4_w {w wr : World} {c : Nat → BitVec 8} {x : Nat → BitVec 32} {k Y : Nat} (h : R4 w c x k Y wr) {i : Nat} (hi : i < 64) : wr.cell? ⟨w.heap.size, i, none⟩ = some (U (Sha.wd (Sha.be c) i)) := h.2.2.1.cell hi
theorem only_cell {w wr : World} (h : w.grownBy wr none) {a : Addr} {v : Value} (hc : w.cell? a = some v) : wr.cell? a = some v :=
  (World.cell?_of_block (h.block a.block (block_lt_of_cell hc) (by simp))).trans hc
theorem R4_step {w wr : World} {c : Nat → BitVec 8} {x : Nat → BitVec 32} {k Y : Nat} (h : R4 w c x k Y wr) {y : Nat → BitVec 32} (hy : y = Sha.rounds Sha.K (Sha.be c) x k) {wk : BitVec 32} (hw : wk = Sha.wd (Sha.be c) k) (m : Nat) :
    R4 w c x (k + 1) Y ((wr.drewN m).setRow Y (Row 8 fun i => U (Sha.rnd y (Sha.K k) wk i))) := by
  subst hy hw
  exact ⟨only_setRow (only_drewN h.1 m) (.inr (Nat.le_of_lt h.2.1)) _, h.2.1, (h.2.2.1.drewN m).setRow_far (by have := h.2.1; omega) _, (h.2.2.2.drewN m).setRow_ _⟩
def R5 (w : World) (b : Nat) (c : Nat → BitVec 8) (x y : Nat → BitVec 32) (n k : Nat) (wr : World) : Prop :=
  w.grownBy wr (some b) ∧ Blk wr b 88 74 (hs (fun i => if i < k then x i + y i else x i) c n)
theorem only_none {w wr : World} (h : w.grownBy wr none) (row : Option Nat) : w.grownBy wr row := only_of_below (below_of_only h) row
theorem hs_congr {x x' : Nat → BitVec 32} {c c' : Nat → BitVec 8} {n : Nat} (h : ∀ i, i < 8 → x i = x' i) (h' : ∀ i, i < 64 → c i = c' i) (i : Nat) : hs x c n i = hs x' c' n i := by
  unfold hs
  by_cases h1 : i < 8
  · rw [if_pos h1, if_pos h1, h i h1]
  · rw [if_neg h1, if_neg h1]
    by_cases h2 : i < 72
    · rw [if_pos h2, if_pos h2, h' _ (by omega)]
    · rw [if_neg h2, if_neg h2]
theorem R5_start {w wr : World} {b n : Nat} {x : Nat → BitVec 32} {c : Nat → BitVec 8} {Y k : Nat} (hb : Blk w b 88 74 (hs x c n)) (h : R4 w c x k Y wr) : R5 w b c x (Sha.rounds Sha.K (Sha.be c) x k) n 0 wr :=
  ⟨only_none h.1 _, (hb.grown h.1 (by simp)).congr fun i _ => hs_congr (fun i _ => by simp) (fun _ _ => rfl) i⟩
theorem R5_x {w wr : World} {b n k : Nat} {c : Nat → BitVec 8} {x y : Nat → BitVec 32} (h : R5 w b c x y n k wr) (hk : k < 8) : wr.cell? ⟨b, k, none⟩ = some (U (x k)) := by
  rw [h.2.cell (by omega), hs_x hk, if_neg (by omega)]
theorem R5_step {w wr : World} {b n k : Nat} {c : Nat → BitVec 8} {x y : Nat → BitVec 32} (h : R5 w b c x y n k wr) (hk : k < 8) : R5 w b c x y n (k + 1) (wr.setCell ⟨b, k, none⟩ (U (x k + y k))) :=
  ⟨only_setCell h.1 (.inl rfl) _, (h.2.set_ k _).congr fun i _ => by
    unfold upd
    by_cases e : i = k
    · subst e; rw [if_pos rfl, hs_x hk, if_pos (by omega)]
    · rw [if_neg e]
      unfold hs
      by_cases h1 : i < 8
      · rw [if_pos h1, if_pos h1]
        show U (if i < k then _ else _) = U (if i < k + 1 then _ else _)
        by_cases h2 : i < k
        · rw [if_pos h2, if_pos (by omega)]
        · rw [if_neg h2, if_neg (by omega)]
      · rw [if_neg h1, if_neg h1]⟩
theorem R5_drew {w wr : World} {b n k : Nat} {c : Nat → BitVec 8} {x y : Nat → BitVec 32} (h : R5 w b c x y n k wr) : R5 w b c x y n k wr.drew := ⟨only_drew h.1, h.2⟩
theorem R5_end {w wr : World} {b n : Nat} {c : Nat → BitVec 8} {x y : Nat → BitVec 32} (h : R5 w b c x y n 8 wr) (hy : y = Sha.rounds Sha.K (Sha.be c) x 64) : Blk wr b 88 74 (hs (Sha.comp Sha.K x c) c n) := by
  subst hy
  exact h.2.congr fun i _ => hs_congr (fun i hi => by rw [if_pos hi]; rfl) (fun _ _ => rfl) i
end Go.Proofs.YtlfcaagogeclpaaDoor
