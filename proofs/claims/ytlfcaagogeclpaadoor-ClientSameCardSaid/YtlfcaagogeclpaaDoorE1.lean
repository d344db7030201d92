/-
  (*hash.Hasher).Sum: what its loops hold.
-/
import Derived.Test.YtlfcaagogeclpaaDoorD3
import Derived.Test.YtlfcaagogeclpaaDoorE0
namespace Go.Proofs.YtlfcaagogeclpaaDoor
open Go.RowKit

/-- A uint64. -/
def V64 (m : Nat) : Value := .int .u64 (m : Int)
/-- Byte j of the eight that tell n bytes' bits. -/
def lenb (n j : Nat) : BitVec 8 := BitVec.ofNat 8 (n * 8 / 2 ^ (8 * (7 - j)))
theorem v64_conv (n : Nat) (hn : n ≤ 1000000) (w : World) : (convert 3 70 (.int .i64 (n : Int))).run Tryd.prog w = .ok (V64 n) w := by
  simp [convert, run_underlying Tryd.underlying3, run_underlying Tryd.underlying70, Conv.intToInt]
  rw [IntWalk.u64_in _ (by omega)]; rfl
theorem v64_mul (n : Nat) (hn : n ≤ 1000000) (w : World) : (binOp .mul 70 (V64 n) (.int .u64 8)).run Tryd.prog w = .ok (V64 (n * 8)) w := by
  show Result.ok (Value.int .u64 (IntKind.u64.wrap ((n : Int) * 8))) w = _
  rw [IntWalk.u64_in _ (by omega)]
  show Result.ok (Value.int .u64 ((n : Int) * 8)) w = Result.ok (Value.int .u64 ((n * 8 : Nat) : Int)) w
  rw [Int.natCast_mul]; rfl
theorem v64_shr (m s : Nat) (k : IntKind) (S : Int) (hS : S = (s : Int)) (hs : s ≤ 64) (w : World) : (binOp .shr 70 (V64 m) (.int k S)).run Tryd.prog w = .ok (V64 (m / 2 ^ s)) w := by
  subst hS
  have h0 : ¬ ((s : Int) < 0) := by omega
  have hm : min ((s : Int).toNat) IntKind.u64.bits = s := by rw [Int.toNat_natCast]; exact Nat.min_eq_left hs
  show (Op.shift .shr .u64 (m : Int) k (s : Int)).run Tryd.prog w = _
  unfold Op.shift
  rw [if_neg h0, hm]
  show Result.ok (Value.int .u64 ((m : Int).fdiv (2 ^ s))) w = Result.ok (Value.int .u64 ((m / 2 ^ s : Nat) : Int)) w
  rw [Int.fdiv_eq_ediv_of_nonneg _ (by exact Int.le_of_lt (Int.pow_pos (by decide))), Int.natCast_ediv, Int.natCast_pow]; rfl
theorem v64_byte (m : Nat) (w : World) : (convert 70 5 (V64 m)).run Tryd.prog w = .ok (By (BitVec.ofNat 8 m)) w := by
  unfold V64
  simp [convert, run_underlying Tryd.underlying70, run_underlying Tryd.underlying5, Conv.intToInt]
  rw [IntKind.wrap_u8]
  show _ = Value.int .u8 _
  congr 1
/-- The text behind n bytes: a 1, noughts, the number of bits. -/
def pad (n : Nat) : ByteArray := str (1 + (55 - n % 64) + 8) fun i => if i < 1 + (55 - n % 64) then if i = 0 then 128#8 else 0#8 else lenb n (i - (1 + (55 - n % 64)))
theorem pad_size {n : Nat} (h : n % 64 < 56) : (pad n).size = 64 - n % 64 := by unfold pad; rw [str_size]; omega
theorem hs_one (x : Nat → BitVec 32) (c : Nat → BitVec 8) (n i : Nat) : (hs x c n i).oneCell' = true := by
  unfold hs
  split
  · rfl
  · split
    · rfl
    · split <;> rfl
/-- The eight bytes, filled from the end. -/
structure L1 (w : World) (E L R : Nat) (x : Nat → BitVec 32) (c : Nat → BitVec 8) (n k : Nat) (wr : World) : Prop where
  only : w.grownBy wr none
  ord : w.heap.size ≤ R ∧ R < E ∧ E < L
  end_ : Blk wr E 88 74 (hs x c n)
  res : Blk wr R 28 32 (fun _ => By 0)
  len : Blk wr L 90 8 (fun j => if 8 - k ≤ j then By (lenb n j) else By 0)
theorem L1.step {w : World} {E L R : Nat} {x : Nat → BitVec 32} {c : Nat → BitVec 8} {n k : Nat} {wr : World} (h : L1 w E L R x c n k wr) (hk : k < 8) : L1 w E L R x c n (k + 1) (wr.setCell ⟨L, 7 - k, none⟩ (By (BitVec.ofNat 8 (n * 8 / 2 ^ (8 * k))))) := by
  obtain ⟨o1, o2, o3⟩ := h.ord
  refine ⟨only_setCell h.only (.inr (by show _ ≤ L; omega)) _, h.ord, h.end_.far (by show E ≠ L; omega) _, h.res.far (by show R ≠ L; omega) _, (h.len.set_ _ _).congr fun i hi => ?_⟩
  unfold upd
  by_cases e : i = 7 - k
  · subst e
    rw [if_pos rfl, if_pos (by omega)]
    unfold lenb
    rw [show 7 - (7 - k) = k by omega]
  · rw [if_neg e]
    show (if 8 - k ≤ i then _ else _) = _
    by_cases h1 : 8 - k ≤ i
    · rw [if_pos h1, if_pos (by omega)]
    · rw [if_neg h1, if_neg (by omega)]
theorem L1.start {w w1 : World} {x : Nat → BitVec 32} {c : Nat → BitVec 8} {n : Nat} {g : Nat → Value} (ho : (w.alloc (.cells #[Value.int .u8 0, Value.int .u8 0, Value.int .u8 0, Value.int .u8 0, Value.int .u8 0, Value.int .u8 0, Value.int .u8 0, Value.int .u8 0, Value.int .u8 0, Value.int .u8 0, Value.int .u8 0, Value.int .u8 0, Value.int .u8 0, Value.int .u8 0, Value.int .u8 0, Value.int .u8 0, Value.int .u8 0, Value.int .u8 0, Value.int .u8 0, Value.int .u8 0, Value.int .u8 0, Value.int .u8 0, Value.int .u8 0, Value.int .u8 0, Value.int .u8 0, Value.int .u8 0, Value.int .u8 0, Value.int .u8 0, Value.int .u8 0, Value.int .u8 0, Value.int .u8 0, Value.int .u8 0] 28)).grownBy w1 none) (hb : Blk w1 (w.heap.size + 1) 88 74 g) (hz : w1.heap.size = w.heap.size + 1 + 1) :
    L1 w (w.heap.size + 1) (w.heap.size + 1 + 1) w.heap.size x c n 0 ((w1.setRow (w.heap.size + 1) (Row 74 (hs x c n))).alloc (.cells #[Value.int .u8 0, Value.int .u8 0, Value.int .u8 0, Value.int .u8 0, Value.int .u8 0, Value.int .u8 0, Value.int .u8 0, Value.int .u8 0] 90)) := by
  have hs1 : (w1.setRow (w.heap.size + 1) (Row 74 (hs x c n))).heap.size = w.heap.size + 1 + 1 := by rw [setRow_size, hz]
  refine ⟨?_, ⟨by omega, by omega, by omega⟩, (hb.setRow_ _).alloc _, ?_, ?_⟩
  · exact only_alloc (only_setRow (only_then (only_alloc (only_refl _ _) _) ho (by simp)) (.inr (by omega)) _) _
  · exact (((Blk.new w 28 zeros32b).grown ho (by simp)).setRow_far (by omega) _).alloc _
  · have := Blk.new (w1.setRow (w.heap.size + 1) (Row 74 (hs x c n))) 90 zeros8b
    rw [hs1] at this
    exact this.congr fun i hi => by rw [if_neg (by omega)]
/-- Behind the last write: the end's numbers are y. -/
structure L2 (w : World) (E R : Nat) (y : Nat → BitVec 32) (wr : World) : Prop where
  only : w.grownBy wr none
  ord : w.heap.size ≤ R ∧ R < E
  end_ : ∃ c n, Blk wr E 88 74 (hs y c n)
  res : Blk wr R 28 32 (fun _ => By 0)
theorem only_next {w W w2 : World} (h : w.grownBy W none) (hb : Below W.heap.size W w2) : w.grownBy w2 none := only_trans h (only_of_below hb none)
theorem L2.of {w W w3 : World} {E R : Nat} {y : Nat → BitVec 32} {c : Nat → BitVec 8} {n : Nat} (h : w.grownBy W none) (ord : w.heap.size ≤ R ∧ R < E) (hR : Blk W R 28 32 (fun _ => By 0)) (ho : W.grownBy w3 (some E)) (hE : Blk w3 E 88 74 (hs y c n)) : L2 w E R y w3 :=
  ⟨only_then h ho (fun b hb => .inr (by injection hb; omega)), ord, ⟨c, n, hE⟩, hR.grown ho (by simp; omega)⟩
theorem only_then_none {w w1 w2 : World} (h : w.grownBy w1 none) (k : w1.grownBy w2 none) : w.grownBy w2 none := only_trans h k

theorem mark_cell {wr w2 : World} (hb2 : Below (wr.alloc (.cells #[.int .u8 128] 5)).drew.heap.size (wr.alloc (.cells #[.int .u8 128] 5)).drew w2) : w2.cell? ⟨wr.heap.size, 0, none⟩ = some (.int .u8 128) := by
  have hb3 : Blk w2 wr.heap.size 5 1 (fun _ => .int .u8 128) := (show Blk (wr.alloc (.cells #[.int .u8 128] 5)).drew wr.heap.size 5 1 (fun _ => .int .u8 128) from Blk.new wr 5 rfl).below hb2 (by simp [World.size_alloc, World.drew])
  exact hb3.cell (by omega)
/-- The hash's bytes, filled from the start. -/
structure L3 (w : World) (E R N : Nat) (y : Nat → BitVec 32) (k : Nat) (wr : World) : Prop where
  only : w.grownBy wr none
  ord : w.heap.size ≤ R ∧ R < E ∧ E < N
  end_ : ∃ c n, Blk wr E 88 74 (hs y c n)
  res : Blk wr R 28 32 (fun _ => By 0)
  new : Blk wr N 28 32 (fun j => if j < k then By (Sha.out y j) else By 0)
theorem L3.step {w : World} {E R N : Nat} {y : Nat → BitVec 32} {k : Nat} {wr : World} (h : L3 w E R N y k wr) : L3 w E R N y (k + 1) (wr.setCell ⟨N, k, none⟩ (By (Sha.out y k))) := by
  obtain ⟨o1, o2, o3⟩ := h.ord
  obtain ⟨c, n, he⟩ := h.end_
  refine ⟨only_setCell h.only (.inr (by show _ ≤ N; omega)) _, h.ord, ⟨c, n, he.far (by show E ≠ N; omega) _⟩, h.res.far (by show R ≠ N; omega) _, (h.new.set_ _ _).congr fun i hi => ?_⟩
  unfold upd
  by_cases e : i = k
  · subst e
    rw [if_pos rfl, if_pos (by omega)]
  · rw [if_neg e]
    show (if i < k then _ else _) = _
    by_cases h1 : i < k
    · rw [if_pos h1, if_pos (by omega)]
    · rw [if_neg h1, if_neg (by omega)]
theorem L3.start {w wr : World} {E R : Nat} {y : Nat → BitVec 32} (h : L2 w E R y wr) (z : Array Value) (hz : z = Row 32 (fun _ => By 0)) : L3 w E R wr.heap.size y 0 (wr.alloc (.cells z 28)) := by
  obtain ⟨o1, o2⟩ := h.ord
  obtain ⟨c, n, he⟩ := h.end_
  exact ⟨only_alloc h.only _, ⟨o1, o2, he.lt⟩, ⟨c, n, he.alloc _⟩, h.res.alloc _, (Blk.new wr 28 hz).congr fun i hi => by rw [if_neg (by omega)]⟩
end Go.Proofs.YtlfcaagogeclpaaDoor
