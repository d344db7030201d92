/-
  The reference's block: what holds at each round's head, and what a round does to it.
-/
import Derived.Test.YtlfcaagogeclpaaDoorB1
import Derived.Deep.QuietTactic
namespace Go.Proofs.YtlfcaagogeclpaaDoor
open Go.RowKit

theorem quiet_left {P : Program} {f : FuncId} {args : Array Value} {w : World} {n : Nat} {v : Value}
    (h : Calls P f args (w.drewN n) fun e w' => e = .returned v ∧ w.drewN n = w') : Calls P f args (w.drewN n) fun e w'' => e = .returned v ∧ ∃ m, w'' = w.drewN m :=
  h.mono fun _ _ ⟨he, hm⟩ => ⟨he, n, hm.symm⟩
theorem quiet_add_left {P : Program} {f : FuncId} {args : Array Value} {w : World} {a n : Nat} {v : Value}
    (h : Calls P f args (w.drewN (a + n)) fun e w' => e = .returned v ∧ w.drewN (a + n) = w') :
    Calls P f args (w.drewN (a + n)) fun e w'' => e = .returned v ∧ ∃ m, w'' = w.drewN (a + m) :=
  h.mono fun _ _ ⟨he, hm⟩ => ⟨he, n, hm.symm⟩

/-- The four bytes, each at its place. -/
theorem be_eq (c : Nat → BitVec 8) (i : Nat) : (c (4 * i)).setWidth 32 <<< 24 ||| (c (4 * i + 1)).setWidth 32 <<< 16 ||| (c (4 * i + 2)).setWidth 32 <<< 8 ||| (c (4 * i + 3)).setWidth 32 = Sha.be c i := by
  unfold Sha.be
  generalize c (4 * i) = p
  generalize c (4 * i + 1) = q
  generalize c (4 * i + 2) = r
  generalize c (4 * i + 3) = s
  apply BitVec.eq_of_getLsbD_eq
  intro j hj
  have hz : (0#32 : BitVec 32) <<< 8 = 0#32 := by decide
  rw [hz]
  simp only [BitVec.getLsbD_or, BitVec.getLsbD_shiftLeft, BitVec.getLsbD_setWidth, BitVec.getLsbD_zero, hj, decide_true, Bool.true_and, Bool.false_or]
  by_cases h1 : j < 8
  · have h2 : j < 16 := by omega
    have h3 : j < 24 := by omega
    simp [h1, h2, h3]
  · by_cases h2 : j < 16
    · have h3 : j < 24 := by omega
      have h4 : j - 8 < 8 := by omega
      have h5 : j - 8 < 32 := by omega
      simp [h1, h2, h3, h4, h5]
    · by_cases h3 : j < 24
      · have h4 : ¬ j - 8 < 8 := by omega
        have h5 : j - 8 < 16 := by omega
        have h6 : j - 8 < 32 := by omega
        have h7 : j - 8 - 8 = j - 16 := by omega
        have h8 : j - 16 < 32 := by omega
        have h9 : j - 16 < 8 := by omega
        simp [h1, h2, h3, h4, h6, h7, h8, h9]
      · have h4 : ¬ j - 8 < 8 := by omega
        have h5 : ¬ j - 8 < 16 := by omega
        have h6 : j - 8 < 32 := by omega
        have h7 : j - 8 - 8 = j - 16 := by omega
        have h8 : j - 16 < 32 := by omega
        have h9 : ¬ j - 16 < 8 := by omega
        have h10 : j - 16 - 8 = j - 24 := by omega
        have h11 : j - 24 < 32 := by omega
        simp [h1, h2, h3, h4, h6, h7, h8, h9, h10, h11]

/-- What the call's own memory holds all along: the tables' two slices in block B, x in X, the result's place in R; the words' block is N. -/
structure Cs (w : World) (B X R N : Nat) (v0 v1 : Value) (x : Nat → BitVec 32) (wr : World) : Prop where
  only : w.grownBy wr none
  ord : w.heap.size ≤ B ∧ B < X ∧ X < R ∧ R < N
  tab : Blk wr B 67 2 (fun i => if i = 0 then v0 else v1)
  xs : Blk wr X 84 8 (fun i => U (x i))
  res : Blk wr R 84 8 (fun _ => U 0)
structure C1 (w : World) (B X R N : Nat) (v0 v1 : Value) (x : Nat → BitVec 32) (c : Nat → BitVec 8) (k : Nat) (wr : World) : Prop where
  base : Cs w B X R N v0 v1 x wr
  wds : Blk wr N 93 64 (fun j => if j < k then U (Sha.wd (Sha.be c) j) else U 0)
section
variable {w wr : World} {B X R N : Nat} {v0 v1 : Value} {x : Nat → BitVec 32} {c : Nat → BitVec 8} {k : Nat}
theorem Cs.drewN (h : Cs w B X R N v0 v1 x wr) (m : Nat) : Cs w B X R N v0 v1 x (wr.drewN m) := ⟨only_drewN h.only m, h.ord, h.tab.drewN m, h.xs.drewN m, h.res.drewN m⟩
theorem Cs.drew (h : Cs w B X R N v0 v1 x wr) : Cs w B X R N v0 v1 x wr.drew := ⟨only_drew h.only, h.ord, h.tab.drew, h.xs.drew, h.res.drew⟩
theorem Cs.far (h : Cs w B X R N v0 v1 x wr) {p : Addr} (hp : N ≤ p.block) (v : Value) : Cs w B X R N v0 v1 x (wr.setCell p v) := by
  obtain ⟨o1, o2, o3, o4⟩ := h.ord
  exact ⟨only_setCell h.only (.inr (by omega)) v, h.ord, h.tab.far (by omega) v, h.xs.far (by omega) v, h.res.far (by omega) v⟩
theorem Cs.alloc (h : Cs w B X R N v0 v1 x wr) (o : Obj) : Cs w B X R N v0 v1 x (wr.alloc o) := ⟨only_alloc h.only o, h.ord, h.tab.alloc o, h.xs.alloc o, h.res.alloc o⟩
theorem Cs.setRow_far (h : Cs w B X R N v0 v1 x wr) {b : Nat} (hb : N ≤ b) (cs : Array Value) : Cs w B X R N v0 v1 x (wr.setRow b cs) := by
  obtain ⟨o1, o2, o3, o4⟩ := h.ord
  exact ⟨only_setRow h.only (.inr (by omega)) cs, h.ord, h.tab.setRow_far (by omega) cs, h.xs.setRow_far (by omega) cs, h.res.setRow_far (by omega) cs⟩
theorem C1.drewN (h : C1 w B X R N v0 v1 x c k wr) (m : Nat) : C1 w B X R N v0 v1 x c k (wr.drewN m) := ⟨h.base.drewN m, h.wds.drewN m⟩
theorem C1.drew (h : C1 w B X R N v0 v1 x c k wr) : C1 w B X R N v0 v1 x c k wr.drew := ⟨h.base.drew, h.wds.drew⟩
theorem C1.cell (h : C1 w B X R N v0 v1 x c k wr) {j : Nat} (hj : j < k ∧ j < 64) : wr.cell? ⟨N, j, none⟩ = some (U (Sha.wd (Sha.be c) j)) := by
  rw [h.wds.cell hj.2, if_pos hj.1]
theorem C1.cellk (h : C1 w B X R N v0 v1 x c k wr) (hk : k < 64) : wr.cell? ⟨N, k, none⟩ = some (U 0) := by
  rw [h.wds.cell hk, if_neg (by omega)]
theorem C1.put (h : C1 w B X R N v0 v1 x c k wr) {z : BitVec 32} (hz : z = Sha.wd (Sha.be c) k) : C1 w B X R N v0 v1 x c (k + 1) (wr.setCell ⟨N, k, none⟩ (U z)) :=
  ⟨h.base.far (Nat.le_refl _) _, (h.wds.set_ k _).congr fun i _ => by
    subst hz
    unfold upd
    by_cases e : i = k
    · subst e; rw [if_pos rfl, if_pos (by omega)]
    · rw [if_neg e]
      show (if i < k then _ else _) = _
      by_cases hi : i < k
      · rw [if_pos hi, if_pos (by omega)]
      · rw [if_neg hi, if_neg (by omega)]⟩
theorem wd_ref (hk : 16 ≤ k) : Sha.s1 (Sha.wd (Sha.be c) (k - 2)) + Sha.wd (Sha.be c) (k - 7) + Sha.s0 (Sha.wd (Sha.be c) (k - 15)) + Sha.wd (Sha.be c) (k - 16) = Sha.wd (Sha.be c) k := by
  rw [Sha.wd_ge _ hk]
  ac_rfl
end
/-- The rounds. -/
structure C2 (w : World) (B X R N : Nat) (v0 v1 : Value) (x : Nat → BitVec 32) (c : Nat → BitVec 8) (k Y : Nat) (wr : World) : Prop where
  base : Cs w B X R N v0 v1 x wr
  lt : N < Y
  wds : Blk wr N 93 64 (fun j => U (Sha.wd (Sha.be c) j))
  ys : Blk wr Y 84 8 (fun i => U (Sha.rounds Sha.K (Sha.be c) x k i))
/-- The end. -/
structure C3 (w : World) (X R : Nat) (x y : Nat → BitVec 32) (k Y : Nat) (wr : World) : Prop where
  only : w.grownBy wr none
  ord : w.heap.size ≤ X ∧ X < R ∧ R < Y
  xs : Blk wr X 84 8 (fun i => U (if i < k then x i + y i else x i))
  res : Blk wr R 84 8 (fun _ => U 0)
  ys : Blk wr Y 84 8 (fun i => U (y i))
section
variable {w wr : World} {B X R N : Nat} {v0 v1 : Value} {x y : Nat → BitVec 32} {c : Nat → BitVec 8} {k Y : Nat}
theorem C2.start (h : C1 w B X R N v0 v1 x c 64 wr) {a : Array Value} {g : Nat → Value} (ha : a = Row 8 g) : C2 w B X R N v0 v1 x c 0 wr.heap.size ((wr.alloc (.cells a 84)).setRow wr.heap.size (Row 8 fun i => U (x i))) :=
  ⟨(h.base.alloc _).setRow_far (Nat.le_of_lt h.wds.lt) _, h.wds.lt, ((h.wds.congr fun i hi => by rw [if_pos hi]).alloc _).setRow_far (Nat.ne_of_lt h.wds.lt) _, (Blk.new wr 84 ha).setRow_ _⟩
theorem C2.step (h : C2 w B X R N v0 v1 x c k Y wr) (hy : y = Sha.rounds Sha.K (Sha.be c) x k) {wk : BitVec 32} (hw : wk = Sha.wd (Sha.be c) k) (m : Nat) :
    C2 w B X R N v0 v1 x c (k + 1) Y ((wr.drewN m).setRow Y (Row 8 fun i => U (Sha.rnd y (Sha.K k) wk i))) := by
  subst hy hw
  have hl := h.lt
  exact ⟨(h.base.drewN m).setRow_far (by omega) _, h.lt, (h.wds.drewN m).setRow_far (by omega) _, (h.ys.drewN m).setRow_ _⟩
theorem C3.start (h : C2 w B X R N v0 v1 x c 64 Y wr) (hy : y = Sha.rounds Sha.K (Sha.be c) x 64) : C3 w X R x y 0 Y wr := by
  subst hy
  obtain ⟨o1, o2, o3, o4⟩ := h.base.ord
  have hl := h.lt
  exact ⟨h.base.only, ⟨by omega, by omega, by omega⟩, h.base.xs.congr fun i _ => by simp, h.base.res, h.ys⟩
theorem C3.step (h : C3 w X R x y k Y wr) : C3 w X R x y (k + 1) Y (wr.setCell ⟨X, k, none⟩ (U (x k + y k))).drew := by
  obtain ⟨o1, o2, o3⟩ := h.ord
  exact ⟨only_drew (only_setCell h.only (.inr o1) _), h.ord, ((h.xs.set_ k _).congr fun i _ => by
    unfold upd
    by_cases e : i = k
    · subst e; rw [if_pos rfl, if_pos (by omega)]
    · rw [if_neg e]
      show U (if i < k then _ else _) = _
      by_cases hi : i < k
      · rw [if_pos hi, if_pos (by omega)]
      · rw [if_neg hi, if_neg (by omega)]).drew, (h.res.far (by simp; omega) _).drew, (h.ys.far (by simp; omega) _).drew⟩
theorem C3.cell (h : C3 w X R x y k Y wr) (hk : k < 8) : wr.cell? ⟨X, k, none⟩ = some (U (x k)) := by
  rw [h.xs.cell (by omega), if_neg (by omega)]
theorem C3.done (h : C3 w X R x y 8 Y wr) (hy : y = Sha.rounds Sha.K (Sha.be c) x 64) : Blk wr X 84 8 (fun i => U (Sha.comp Sha.K x c i)) := by
  subst hy
  exact h.xs.congr fun i hi => by rw [if_pos hi]; rfl
/-- The round's numbers as the reference reckons them. -/
theorem t1_ref (y : Nat → BitVec 32) (kk wk : BitVec 32) : y 7 + Sha.S1 (y 4) + ((y 4 &&& y 5) ^^^ (~~~(y 4) &&& y 6)) + kk + wk = Sha.t1 y kk wk := by
  rw [Sha.ch_eq]; rfl
theorem rnd_ref (y : Nat → BitVec 32) (kk wk : BitVec 32) :
    #[U (Sha.t1 y kk wk + (Sha.S0 (y 0) + ((y 0 &&& y 1) ^^^ (y 0 &&& y 2) ^^^ (y 1 &&& y 2)))), U (y 0), U (y 1), U (y 2), U (y 3 + Sha.t1 y kk wk), U (y 4), U (y 5), U (y 6)] = Row 8 (fun i => U (Sha.rnd y kk wk i)) := by
  rw [Sha.maj_eq, ← BitVec.add_assoc]
  exact eight fun i => U (Sha.rnd y kk wk i)
theorem rnd_ref2 (y : Nat → BitVec 32) (kk wk : BitVec 32) :
    #[U (y 7 + ((y 4).rotateRight 6 ^^^ (y 4).rotateRight 11 ^^^ (y 4).rotateRight 25) + ((y 4 &&& y 5) ^^^ (~~~(y 4) &&& y 6)) + kk + wk + (((y 0).rotateRight 2 ^^^ (y 0).rotateRight 13 ^^^ (y 0).rotateRight 22) + ((y 0 &&& y 1) ^^^ (y 0 &&& y 2) ^^^ (y 1 &&& y 2)))), U (y 0), U (y 1), U (y 2),
      U (y 3 + (y 7 + ((y 4).rotateRight 6 ^^^ (y 4).rotateRight 11 ^^^ (y 4).rotateRight 25) + ((y 4 &&& y 5) ^^^ (~~~(y 4) &&& y 6)) + kk + wk)), U (y 4), U (y 5), U (y 6)] = Row 8 (fun i => U (Sha.rnd y kk wk i)) := by
  have h := rnd_ref y kk wk
  rw [← t1_ref] at h
  exact h
end
end Go.Proofs.YtlfcaagogeclpaaDoor
