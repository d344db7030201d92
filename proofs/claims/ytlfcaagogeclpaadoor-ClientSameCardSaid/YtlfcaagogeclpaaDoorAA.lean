/-
  The plain functions: 32-bit words, the hash's rounds, blocks and padding, as both texts of the program compute them. No program here.
-/
import Derived.WalkKit
import Derived.WalkSpells
import Derived.WalkLawsBesides
import Derived.Laws.CopyOwn
import Derived.Deep.MidRow
import Derived.Deep.Draws
import Derived.Test.YtlfcaagogeclpaaDoorProg
import Derived.Lib.Hide
namespace Go.Proofs.YtlfcaagogeclpaaDoor
namespace Sha
abbrev W32 := BitVec 32

def s0 (a : W32) : W32 := a.rotateRight 7 ^^^ a.rotateRight 18 ^^^ a >>> 3
def s1 (b : W32) : W32 := b.rotateRight 17 ^^^ b.rotateRight 19 ^^^ b >>> 10
def S0 (a : W32) : W32 := a.rotateRight 2 ^^^ a.rotateRight 13 ^^^ a.rotateRight 22
def S1 (e : W32) : W32 := e.rotateRight 6 ^^^ e.rotateRight 11 ^^^ e.rotateRight 25
def ch (e f g : W32) : W32 := g ^^^ e &&& (f ^^^ g)
def maj (a b c : W32) : W32 := a &&& b ||| c &&& (a ||| b)

/-- The words of a block of 16 words. -/
def wd (m : Nat → W32) (i : Nat) : W32 :=
  if i < 16 then m i else wd m (i - 16) + s0 (wd m (i - 15)) + wd m (i - 7) + s1 (wd m (i - 2))
termination_by i
theorem wd_lt (m : Nat → W32) {i : Nat} (h : i < 16) : wd m i = m i := by rw [wd, if_pos h]
theorem wd_ge (m : Nat → W32) {i : Nat} (h : 16 ≤ i) : wd m i = wd m (i - 16) + s0 (wd m (i - 15)) + wd m (i - 7) + s1 (wd m (i - 2)) := by
  rw [wd, if_neg (by omega)]

/-- One round: the new eight numbers. -/
def t1 (y : Nat → W32) (k w : W32) : W32 := y 7 + S1 (y 4) + ch (y 4) (y 5) (y 6) + k + w
def rnd (y : Nat → W32) (k w : W32) : Nat → W32
  | 0 => t1 y k w + S0 (y 0) + maj (y 0) (y 1) (y 2)
  | 1 => y 0
  | 2 => y 1
  | 3 => y 2
  | 4 => y 3 + t1 y k w
  | 5 => y 4
  | 6 => y 5
  | _ => y 6
/-- i rounds. -/
def rounds (K : Nat → W32) (m : Nat → W32) (y : Nat → W32) : Nat → Nat → W32
  | 0 => y
  | i + 1 => rnd (rounds K m y i) (K i) (wd m i)
/-- Four bytes as a word, the first one first. -/
def be (c : Nat → BitVec 8) (i : Nat) : W32 :=
  (((0#32 <<< 8 ||| (c (4 * i)).setWidth 32) <<< 8 ||| (c (4 * i + 1)).setWidth 32) <<< 8 ||| (c (4 * i + 2)).setWidth 32) <<< 8 ||| (c (4 * i + 3)).setWidth 32
/-- A block of 64 bytes goes in. -/
def comp (K : Nat → W32) (x : Nat → W32) (c : Nat → BitVec 8) : Nat → W32 := fun i => x i + rounds K (be c) x 64 i

def Kt : List Nat := [1116352408, 1899447441, 3049323471, 3921009573, 961987163, 1508970993, 2453635748, 2870763221, 3624381080, 310598401, 607225278, 1426881987, 1925078388, 2162078206, 2614888103, 3248222580, 3835390401, 4022224774, 264347078, 604807628, 770255983, 1249150122, 1555081692, 1996064986, 2554220882, 2821834349, 2952996808, 3210313671, 3336571891, 3584528711, 113926993, 338241895, 666307205, 773529912, 1294757372, 1396182291, 1695183700, 1986661051, 2177026350, 2456956037, 2730485921, 2820302411, 3259730800, 3345764771, 3516065817, 3600352804, 4094571909, 275423344, 430227734, 506948616, 659060556, 883997877, 958139571, 1322822218, 1537002063, 1747873779, 1955562222, 2024104815, 2227730452, 2361852424, 2428436474, 2756734187, 3204031479, 3329325298]
def Bt : List Nat := [1779033703, 3144134277, 1013904242, 2773480762, 1359893119, 2600822924, 528734635, 1541459225]
def K (i : Nat) : W32 := BitVec.ofNat 32 (Kt.getD i 0)
def X0 (i : Nat) : W32 := BitVec.ofNat 32 (Bt.getD i 0)
/-- Byte i of eight numbers. -/
def out (x : Nat → W32) (i : Nat) : BitVec 8 := ((x (i / 4)) >>> (24 - 8 * (i % 4))).setWidth 8

/-! ### The other text's ways to the same numbers -/
theorem ch_eq (e f g : W32) : (e &&& f) ^^^ (~~~e &&& g) = ch e f g := by
  unfold ch
  apply BitVec.eq_of_getLsbD_eq
  intro i hi
  simp [hi]
  cases e[i] <;> cases f[i] <;> cases g[i] <;> rfl
theorem maj_eq (a b c : W32) : (a &&& b) ^^^ (a &&& c) ^^^ (b &&& c) = maj a b c := by
  unfold maj
  apply BitVec.eq_of_getLsbD_eq
  intro i hi
  simp
  cases a.getLsbD i <;> cases b.getLsbD i <;> cases c.getLsbD i <;> rfl
end Sha
end Go.Proofs.YtlfcaagogeclpaaDoor
/-
  Words for 32-bit numbers and bytes as values of the model, and what the model's operators make of them, whatever the program.
-/
namespace Go.Proofs.YtlfcaagogeclpaaDoor
open Go.RowKit

/-- A uint32. -/
def U (x : BitVec 32) : Value := .int .u32 (x.toNat : Int)
/-- A byte. -/
def By (c : BitVec 8) : Value := .int .u8 (c.toNat : Int)

theorem U_one (x : BitVec 32) : (U x).oneCell' = true := rfl
theorem By_one (c : BitVec 8) : (By c).oneCell' = true := rfl

section
variable {P : Program} (w : World) (t : TypeId) (x y : BitVec 32) (c d : BitVec 8)

theorem ofInt_nat {n : Nat} (x : BitVec n) : BitVec.ofInt n (x.toNat : Int) = x := by
  rw [BitVec.ofInt_natCast, BitVec.ofNat_toNat, BitVec.setWidth_eq]
theorem wrap_u32_nat (x : BitVec 32) : IntKind.u32.wrap (x.toNat : Int) = (x.toNat : Int) := by
  rw [IntKind.wrap_u32]; have := x.isLt; omega
theorem wrap_u8_nat (x : BitVec 8) : IntKind.u8.wrap (x.toNat : Int) = (x.toNat : Int) := by
  rw [IntKind.wrap_u8]; have := x.isLt; omega

@[go_sem] theorem run_xor_U : (binOp .xor t (U x) (U y)).run P w = .ok (U (x ^^^ y)) w := by
  show Result.ok (Value.int .u32 (IntKind.u32.wrap ((BitVec.ofInt 32 (x.toNat : Int) ^^^ BitVec.ofInt 32 (y.toNat : Int)).toNat : Int))) w = _
  rw [ofInt_nat, ofInt_nat, wrap_u32_nat]; rfl
@[go_sem] theorem run_and_U : (binOp .and t (U x) (U y)).run P w = .ok (U (x &&& y)) w := by
  show Result.ok (Value.int .u32 (IntKind.u32.wrap ((BitVec.ofInt 32 (x.toNat : Int) &&& BitVec.ofInt 32 (y.toNat : Int)).toNat : Int))) w = _
  rw [ofInt_nat, ofInt_nat, wrap_u32_nat]; rfl
@[go_sem] theorem run_or_U : (binOp .or t (U x) (U y)).run P w = .ok (U (x ||| y)) w := by
  show Result.ok (Value.int .u32 (IntKind.u32.wrap ((BitVec.ofInt 32 (x.toNat : Int) ||| BitVec.ofInt 32 (y.toNat : Int)).toNat : Int))) w = _
  rw [ofInt_nat, ofInt_nat, wrap_u32_nat]; rfl
@[go_sem] theorem run_add_U : (binOp .add t (U x) (U y)).run P w = .ok (U (x + y)) w := by
  show Result.ok (Value.int .u32 (IntKind.u32.wrap ((x.toNat : Int) + (y.toNat : Int)))) w = _
  have h : IntKind.u32.wrap ((x.toNat : Int) + (y.toNat : Int)) = ((x + y).toNat : Int) := by
    rw [IntKind.wrap_u32, BitVec.toNat_add]; omega
  rw [h]; rfl
theorem run_shl_U (k : IntKind) (n : Nat) (hn : n ≤ 32) : (binOp .shl t (U x) (.int k (n : Int))).run P w = .ok (U (x <<< n)) w := by
  have h0 : ¬ ((n : Int) < 0) := by omega
  have hm : min ((n : Int).toNat) IntKind.u32.bits = n := by rw [Int.toNat_natCast]; exact Nat.min_eq_left hn
  show (Op.shift .shl .u32 (x.toNat : Int) k (n : Int)).run P w = _
  unfold Op.shift
  rw [if_neg h0, hm]
  show Result.ok (Value.int .u32 (IntKind.u32.wrap ((x.toNat : Int) * 2 ^ n))) w = _
  have h : IntKind.u32.wrap ((x.toNat : Int) * 2 ^ n) = ((x <<< n).toNat : Int) := by
    rw [IntKind.wrap_u32, BitVec.toNat_shiftLeft, Nat.shiftLeft_eq, Int.natCast_emod, Int.natCast_mul, Int.natCast_pow]; rfl
  rw [h]; rfl
theorem run_shr_U (k : IntKind) (n : Nat) (hn : n ≤ 32) : (binOp .shr t (U x) (.int k (n : Int))).run P w = .ok (U (x >>> n)) w := by
  have h0 : ¬ ((n : Int) < 0) := by omega
  have hm : min ((n : Int).toNat) IntKind.u32.bits = n := by rw [Int.toNat_natCast]; exact Nat.min_eq_left hn
  show (Op.shift .shr .u32 (x.toNat : Int) k (n : Int)).run P w = _
  unfold Op.shift
  rw [if_neg h0, hm]
  show Result.ok (Value.int .u32 ((x.toNat : Int).fdiv (2 ^ n))) w = _
  have h : (x.toNat : Int).fdiv (2 ^ n) = ((x >>> n).toNat : Int) := by
    rw [BitVec.toNat_ushiftRight, Nat.shiftRight_eq_div_pow, Int.fdiv_eq_ediv_of_nonneg _ (by exact Int.le_of_lt (Int.pow_pos (by decide)))]
    rw [Int.natCast_ediv, Int.natCast_pow]; rfl
  rw [h]; rfl
@[go_sem] theorem run_not_U : (Op.unary .xor (U x)).run P w = .ok (U (~~~x)) w := by
  show Result.ok (Value.int .u32 (IntKind.u32.wrap ((BitVec.ofInt 32 IntKind.u32.max ^^^ BitVec.ofInt 32 (x.toNat : Int)).toNat : Int))) w = _
  rw [ofInt_nat, wrap_u32_nat]
  have h : BitVec.ofInt 32 IntKind.u32.max = BitVec.allOnes 32 := by decide
  rw [h, BitVec.allOnes_xor]; rfl
@[go_sem] theorem run_store_U (a : Addr) (m : Mode) : (store a (U x) m).run P w = stored P w a (U x) m := run_store P w a _ m rfl
@[go_sem] theorem run_store_By (a : Addr) (m : Mode) : (store a (By c) m).run P w = stored P w a (By c) m := run_store P w a _ m rfl
@[go_sem] theorem cells_U : Value.cells.match_1 (fun _ => Array Value) (U x) (fun cs => cs) (fun v => #[v]) = #[U x] := rfl
@[go_sem] theorem cells_By : Value.cells.match_1 (fun _ => Array Value) (By c) (fun cs => cs) (fun v => #[v]) = #[By c] := rfl
@[go_sem] theorem run_xor_By : (binOp .xor t (By c) (By d)).run P w = .ok (By (c ^^^ d)) w := by
  show Result.ok (Value.int .u8 (IntKind.u8.wrap ((BitVec.ofInt 8 (c.toNat : Int) ^^^ BitVec.ofInt 8 (d.toNat : Int)).toNat : Int))) w = _
  rw [ofInt_nat, ofInt_nat, wrap_u8_nat]; rfl
end

end Go.Proofs.YtlfcaagogeclpaaDoor
/-
  Words for memory: a block that is known whole, told by a function of the place; only one block and new memory has turned.
-/
namespace Go.Proofs.YtlfcaagogeclpaaDoor
open Go.RowKit

/-- n cells, cell i is g i. -/
def Row (n : Nat) (g : Nat → Value) : Array Value := Array.ofFn (n := n) fun i => g i.val
/-- g, but v at place i. -/
def upd {α : Type} (g : Nat → α) (i : Nat) (v : α) : Nat → α := fun j => if j = i then v else g j

theorem Row_size (n : Nat) (g : Nat → Value) : (Row n g).size = n := by simp [Row]
theorem Row_get {n : Nat} {g : Nat → Value} {i : Nat} (h : i < n) : (Row n g)[i]? = some (g i) := by simp [Row, h]
theorem Row_get_none {n : Nat} {g : Nat → Value} {i : Nat} (h : n ≤ i) : (Row n g)[i]? = none := by simp [Row, h]
theorem Row_congr {n : Nat} {g g' : Nat → Value} (h : ∀ i, i < n → g i = g' i) : Row n g = Row n g' := by
  apply Array.ext_getElem?
  intro i
  by_cases hi : i < n
  · rw [Row_get hi, Row_get hi, h i hi]
  · rw [Row_get_none (by omega), Row_get_none (by omega)]
theorem Row_of {n : Nat} {g : Nat → Value} {a : Array Value} (hs : a.size = n) (h : ∀ i, i < n → a[i]? = some (g i)) : a = Row n g := by
  apply Array.ext_getElem?
  intro i
  by_cases hi : i < n
  · rw [Row_get hi, h i hi]
  · rw [Row_get_none (by omega), Array.getElem?_eq_none (by omega)]
theorem Row_set (n : Nat) (g : Nat → Value) (i : Nat) (v : Value) : (Row n g).setIfInBounds i v = Row n (upd g i v) := by
  refine Row_of (by simp [Row_size]) fun j hj => ?_
  rw [Array.getElem?_setIfInBounds, Row_size]
  unfold upd
  by_cases e : i = j
  · subst e; simp [hj]
  · rw [if_neg e, if_neg (fun h => e h.symm), Row_get hj]
theorem Row_mem {n : Nat} {g : Nat → Value} {u : Value} (h : u ∈ (Row n g).toList) : ∃ i, i < n ∧ u = g i := by
  obtain ⟨i, hi, rfl⟩ := List.mem_iff_getElem.1 h
  have hi' : i < n := by simpa [Row_size] using hi
  refine ⟨i, hi', ?_⟩
  simp [Row]

/-- Block b is just the n cells g of element type t, none frozen. -/
def Blk (w : World) (b : Nat) (t : TypeId) (n : Nat) (g : Nat → Value) : Prop := w.heap[b]? = some (.cells (Row n g) t (0, 0))

section
variable {w w' : World} {b : Nat} {t : TypeId} {n : Nat} {g : Nat → Value}
theorem Blk.lt (h : Blk w b t n g) : b < w.heap.size := by
  rcases Nat.lt_or_ge b w.heap.size with hlt | hge
  · exact hlt
  · unfold Blk at h; rw [Array.getElem?_eq_none hge] at h; cases h
theorem Blk.cell (h : Blk w b t n g) {i : Nat} (hi : i < n) : w.cell? ⟨b, i, none⟩ = some (g i) := by
  rw [cell_of_row w b i _ t (0, 0) h, Row_get hi]
theorem Blk.free (h : Blk w b t n g) (i : Nat) : w.frozen? ⟨b, i, none⟩ = false := frozen_of_row w b i _ t h
theorem Blk.drew (h : Blk w b t n g) : Blk w.drew b t n g := h
theorem Blk.drewN (h : Blk w b t n g) (k : Nat) : Blk (w.drewN k) b t n g := h
theorem Blk.alloc (h : Blk w b t n g) (o : Obj) : Blk (w.alloc o) b t n g := (Below.heap_alloc w o b h.lt).trans h
theorem Blk.set_ (h : Blk w b t n g) (i : Nat) (v : Value) : Blk (w.setCell ⟨b, i, none⟩ v) b t n (upd g i v) := by
  have := heap_setCell_same w b i _ t v h
  rw [Row_set] at this
  exact this
theorem Blk.far (h : Blk w b t n g) {p : Addr} (hp : b ≠ p.block) (v : Value) : Blk (w.setCell p v) b t n g := (Below.heap_setCell w p v b hp).trans h
theorem Blk.below {B : Nat} (h : Blk w b t n g) (hb : Below B w w') (hg : b < B) : Blk w' b t n g := (hb.block b hg).trans h
theorem Blk.grown {row : Option Nat} (h : Blk w b t n g) (hb : w.grownBy w' row) (hg : some b ≠ row) : Blk w' b t n g := (hb.block b h.lt hg).trans h
theorem Blk.congr {g' : Nat → Value} (h : Blk w b t n g) (hg : ∀ i, i < n → g i = g' i) : Blk w b t n g' := by
  unfold Blk; rw [← Row_congr hg]; exact h
theorem Blk.new (w : World) (t : TypeId) {n : Nat} {g : Nat → Value} {a : Array Value} (h : a = Row n g) : Blk (w.alloc (.cells a t)) w.heap.size t n g := by
  subst h; exact heap_alloc_new w _
theorem Blk.setRow_ (h : Blk w b t n g) {n' : Nat} (g' : Nat → Value) : Blk (w.setRow b (Row n' g')) b t n' g' := setRow_heap w b _ _ t _ h
theorem Blk.setRow_far (h : Blk w b t n g) {b' : Nat} (hne : b ≠ b') (cs : Array Value) : Blk (w.setRow b' cs) b t n g := (setRow_other w b' b cs hne).trans h
end

/-! Only block b has turned, and what is new. -/
section
variable {a w w' : World} {row : Option Nat}
theorem only_refl (w : World) (row : Option Nat) : w.grownBy w row := World.grownBy.refl w row
theorem only_trans {x y z : World} (h : x.grownBy y row) (k : y.grownBy z row) : x.grownBy z row :=
  ⟨k.os.trans h.os, k.tape.trans h.tape, k.output.trans h.output, Nat.le_trans h.size k.size, fun i hi hn => (k.block i (Nat.lt_of_lt_of_le hi h.size) hn).trans (h.block i hi hn)⟩
theorem only_drew (h : a.grownBy w row) : a.grownBy w.drew row := ⟨h.os, h.tape, h.output, h.size, h.block⟩
theorem only_drewN (h : a.grownBy w row) (n : Nat) : a.grownBy (w.drewN n) row := ⟨h.os, h.tape, h.output, h.size, h.block⟩
theorem only_alloc (h : a.grownBy w row) (o : Obj) : a.grownBy (w.alloc o) row :=
  ⟨h.os, h.tape, h.output, Nat.le_trans h.size (by simp), fun i hi hne => (Below.heap_alloc w o i (Nat.lt_of_lt_of_le hi h.size)).trans (h.block i hi hne)⟩
theorem only_setCell (h : a.grownBy w row) {p : Addr} (hp : some p.block = row ∨ a.heap.size ≤ p.block) (u : Value) : a.grownBy (w.setCell p u) row :=
  ⟨h.os, h.tape, h.output, by simpa [World.setCell] using h.size, fun i hi hne => (Below.heap_setCell w p u i (by
    rintro rfl
    rcases hp with hp | hp
    · exact hne hp
    · omega)).trans (h.block i hi hne)⟩
theorem only_setRow (h : a.grownBy w row) {b : Nat} (hp : some b = row ∨ a.heap.size ≤ b) (cs : Array Value) : a.grownBy (w.setRow b cs) row :=
  ⟨h.os, h.tape, h.output, by simpa using h.size, fun i hi hne => (setRow_other w b i cs (by
    rintro rfl
    rcases hp with hp | hp
    · exact hne hp
    · omega)).trans (h.block i hi hne)⟩
theorem only_of_below (h : Below a.heap.size a w) (row : Option Nat) : a.grownBy w row := ⟨h.os, h.tape, h.output, h.size, fun i hi _ => h.block i hi⟩
theorem below_of_only (h : a.grownBy w none) : Below a.heap.size a w := ⟨h.os, h.tape, h.output, h.size, fun i hi => h.block i hi (by simp)⟩
/-- A later call that turns row 'r' alone, where r is new. -/
theorem only_then {r : Option Nat} (h : a.grownBy w row) (k : w.grownBy w' r) (hr : ∀ b, r = some b → some b = row ∨ a.heap.size ≤ b) : a.grownBy w' row :=
  ⟨k.os.trans h.os, k.tape.trans h.tape, k.output.trans h.output, Nat.le_trans h.size k.size, fun i hi hn => (k.block i (Nat.lt_of_lt_of_le hi h.size) (by
    intro e
    rcases hr i e.symm with e' | e'
    · exact hn e'
    · omega)).trans (h.block i hi hn)⟩
end

end Go.Proofs.YtlfcaagogeclpaaDoor
/-
  Laws for the walk, whatever the program: arrays in the midst of a block cut and indexed; bytes and words converted.
-/
namespace Go.Proofs.YtlfcaagogeclpaaDoor
open Go.RowKit

section
variable {P : Program}
theorem run_sizeOf {e n : Nat} (hs : (P.info? e).map (·.size) = some n) (w : World) : (sizeOf e).run P w = .ok n w := by
  cases hq : P.info? e with
  | none => simp [hq] at hs
  | some i =>
    have : i.size = n := by simpa [hq] using hs
    simp [sizeOf, typeInfo, hq, this]
theorem arrayLen_of {t n e : Nat} (hu : P.underlying t = some (.array n e)) : P.arrayLen t = n := by simp [Program.arrayLen, hu]
theorem elem_of {t n e : Nat} (hu : P.underlying t = some (.array n e)) : P.elem t = e := by simp [Program.elem, hu]
/-- p[l:h] of an array of one-cell elements at ⟨b, o⟩. -/
theorem run_cut (t n e : Nat) (hu : P.underlying t = some (.array n e)) (hs : (P.info? e).map (·.size) = some 1) (b o l h : Nat) (L H : Int) (hL : L = (l : Int)) (hH : H = (h : Int)) (hlh : l ≤ h) (hn : h ≤ n) (hln : l < n) (w : World) :
    (Instr.sliceAt t (.pointer (some ⟨b, o, none⟩)) (some (.int .i64 L)) (some (.int .i64 H)) none).run P w = .ok (.slice (some ⟨b, o + l, none⟩) (h - l) (n - l)) w := by
  subst hL hH
  have hu' : P.underlying t = some (.array (P.arrayLen t) (P.elem t)) := by rw [arrayLen_of hu, elem_of hu]; exact hu
  have hr := run_sliceAt_array_lh (P := P) w t ⟨b, o, none⟩ hu' .i64 .i64 (l : Int) (h : Int) (by omega) (by omega) (by rw [arrayLen_of hu]; omega)
  rw [hr, elem_of hu, run_sizeOf hs, Result.andThen_ok, arrayLen_of hu]
  simp only [slicedAt, Int.toNat_natCast, Nat.mul_one]
  rw [if_neg (by omega), Addr.add_mid]
/-- p[l:]. -/
theorem run_cut_from (t n e : Nat) (hu : P.underlying t = some (.array n e)) (hs : (P.info? e).map (·.size) = some 1) (b o l : Nat) (L : Int) (hL : L = (l : Int)) (hln : l < n) (w : World) :
    (Instr.sliceAt t (.pointer (some ⟨b, o, none⟩)) (some (.int .i64 L)) none none).run P w = .ok (.slice (some ⟨b, o + l, none⟩) (n - l) (n - l)) w := by
  subst hL
  have hu' : P.underlying t = some (.array (P.arrayLen t) (P.elem t)) := by rw [arrayLen_of hu, elem_of hu]; exact hu
  have hr := run_sliceAt_array_l (P := P) w t ⟨b, o, none⟩ hu' .i64 (l : Int) (by omega) (by rw [arrayLen_of hu]; omega)
  rw [hr, elem_of hu, run_sizeOf hs, Result.andThen_ok, arrayLen_of hu]
  simp only [slicedAt, Int.toNat_natCast, Nat.mul_one]
  rw [if_neg (by omega), Addr.add_mid]
/-- p[:]. -/
theorem run_cut_all (t n e : Nat) (hu : P.underlying t = some (.array n e)) (hs : (P.info? e).map (·.size) = some 1) (b o : Nat) (w : World) :
    (Instr.sliceAt t (.pointer (some ⟨b, o, none⟩)) none none none).run P w = .ok (.slice (some ⟨b, o, none⟩) n n) w := by
  have hu' : P.underlying t = some (.array (P.arrayLen t) (P.elem t)) := by rw [arrayLen_of hu, elem_of hu]; exact hu
  have hr := run_sliceAt_array_all (P := P) w t ⟨b, o, none⟩ hu'
  rw [hr, elem_of hu, run_sizeOf hs, Result.andThen_ok, arrayLen_of hu]
  simp [slicedAt, Addr.add]

/-- uint32(c). -/
theorem run_word_of_byte {s d : Nat} (hs : P.underlying s = some (.int .u8)) (hd : P.underlying d = some (.int .u32)) (c : BitVec 8) (w : World) : (convert s d (By c)).run P w = .ok (U (c.setWidth 32)) w := by
  have h : (c.toNat : Int) = ((c.setWidth 32).toNat : Int) := by
    rw [BitVec.toNat_setWidth]; have := c.isLt; omega
  unfold By
  simp [convert, run_underlying hs, run_underlying hd, Conv.intToInt]
  rw [IntWalk.u32_in _ (by have := c.isLt; omega), h]; rfl
/-- byte(x). -/
theorem run_byte_of_word {s d : Nat} (hs : P.underlying s = some (.int .u32)) (hd : P.underlying d = some (.int .u8)) (x : BitVec 32) (w : World) : (convert s d (U x)).run P w = .ok (By (x.setWidth 8)) w := by
  have h : IntKind.u8.wrap (x.toNat : Int) = ((x.setWidth 8).toNat : Int) := by
    rw [BitVec.toNat_setWidth, IntKind.wrap_u8]; omega
  unfold U
  simp [convert, run_underlying hs, run_underlying hd, Conv.intToInt]
  rw [h]; rfl
/-- x[i] of an array of one-cell elements, told as a row. -/
theorem run_index_row (t n e : Nat) (hu : P.underlying t = some (.array n e)) (hs : (P.info? e).map (·.size) = some 1) (d : TypeDesc) (he : P.underlying e = some d) (hd : (match d with | .struct _ | .array _ _ => true | _ => false) = false)
    (g : Nat → Value) (i : Nat) (hi : i < n) (w : World) : (Instr.index t (.agg (Row n g)) (.int .i64 (i : Int))).run P w = .ok (g i) w := by
  have hagg : (isAgg e).run P w = .ok false w := by
    unfold isAgg
    rw [Sem.run_bind, run_underlying he w]
    cases d <;> simp_all
  have h1 : (0 : Int) ≤ (i : Int) ∧ (i : Int) < (n : Int) := by omega
  simp only [Instr.index, asIntOf, Sem.run_bind, Sem.run_pure, Result.andThen_ok, run_underlying hu w, if_pos h1, run_sizeOf hs w, part, hagg, Int.toNat_natCast, Nat.mul_one, Row_get hi]
  simp
/-- A whole block is stored over. -/
theorem wpList_store_blk {ops : Array Oper} {rest : List Oper} {o : Oper} {a : Act} {w : World} {Q : Exit → Act → World → Prop} (hgd : o.guard = none) (ty : TypeId) (x y : Operand) (ho : o.op = .store ty x y)
    (b t n : Nat) (g g' : Nat → Value) (cs : Array Value) (hx : a.eval x = .pointer (some ⟨b, 0, none⟩)) (hy : a.eval y = .agg cs) (hcs : cs = Row n g') (hb : Blk w b t n g) (hi : (P.info? ty).map (·.size) = some n) (h1 : ∀ i, i < n → (g' i).oneCell' = true)
    (h : wpList P ops Q rest (a.put o.dst undef) (w.setRow b (Row n g'))) : wpList P ops Q (o :: rest) a w := by
  subst hcs
  refine wpList_store_row hgd ty x y ho b _ hx hy t _ hb (by rw [Row_size]; exact hi) (by rw [Row_size, Row_size]) (Array.all_eq_true_iff_forall_mem.2 fun u hu => ?_) h
  obtain ⟨i, hi, rfl⟩ := Row_mem (n := n) (g := g') (u := u) (by simpa using hu)
  exact h1 i hi
/-- A result that is a whole block. -/
theorem results_blk {fn : Func} {p : Tmp} {ty : TypeId} (h : fn.results = #[.cell p ty]) (tmps : Array Value) (w : World) (b t n : Nat) (g : Nat → Value)
    (hp : tmps.getD p undef = .pointer (some ⟨b, 0, none⟩)) (hb : Blk w b t n g) (d : TypeDesc) (hu : P.underlying ty = some d) (hd : (match d with | .struct _ | .array _ _ => true | _ => false) = true) (hi : (P.info? ty).map (·.size) = some n) :
    (results fn tmps).run P w = .ok (.agg (Row n g)) w :=
  results_cell_row h tmps w b t _ _ d hp hb hu hd (by rw [Row_size]; exact hi)
/-- A whole block is loaded. -/
theorem wpList_load_blk {ops : Array Oper} {rest : List Oper} {o : Oper} {a : Act} {w : World} {Q : Exit → Act → World → Prop} (hgd : o.guard = none) (ty : TypeId) (x : Operand) (ho : o.op = .load ty x)
    (b t n : Nat) (g : Nat → Value) (hx : a.eval x = .pointer (some ⟨b, 0, none⟩)) (hb : Blk w b t n g) (d : TypeDesc) (hu : P.underlying ty = some d) (hd : (match d with | .struct _ | .array _ _ => true | _ => false) = true) (hi : (P.info? ty).map (·.size) = some n)
    (h : wpList P ops Q rest (a.put o.dst (.agg (Row n g))) w) : wpList P ops Q (o :: rest) a w :=
  wpList_load_row hgd ty x ho b hx t _ _ d hb hu hd (by rw [Row_size]; exact hi) h
end
end Go.Proofs.YtlfcaagogeclpaaDoor
/-
  Closed facts on this program's types, and the laws of A3 at its numbers.
-/
namespace Go.Proofs.YtlfcaagogeclpaaDoor
open Go.RowKit

theorem size5 : (Tryd.prog.info? 5).map (·.size) = some 1 := by kernel_rfl
theorem size68 : (Tryd.prog.info? 68).map (·.size) = some 1 := by kernel_rfl
theorem size84 : (Tryd.prog.info? 84).map (·.size) = some 8 := by kernel_rfl
theorem size93 : (Tryd.prog.info? 93).map (·.size) = some 64 := by kernel_rfl
theorem size71 : (Tryd.prog.info? 71).map (·.size) = some 64 := by kernel_rfl
theorem size88 : (Tryd.prog.info? 88).map (·.size) = some 74 := by kernel_rfl
theorem size28 : (Tryd.prog.info? 28).map (·.size) = some 32 := by kernel_rfl
theorem size37 : (Tryd.prog.info? 37).map (·.size) = some 34 := by kernel_rfl
theorem size30 : (Tryd.prog.info? 30).map (·.size) = some 35 := by kernel_rfl
theorem size24 : (Tryd.prog.info? 24).map (·.size) = some 5 := by kernel_rfl
@[go_sem] theorem word_of_byte (c : BitVec 8) (w : World) : (convert 5 68 (By c)).run Tryd.prog w = .ok (U (c.setWidth 32)) w := run_word_of_byte Tryd.underlying5 Tryd.underlying68 c w
@[go_sem] theorem byte_of_word (x : BitVec 32) (w : World) : (convert 68 5 (U x)).run Tryd.prog w = .ok (By (x.setWidth 8)) w := run_byte_of_word Tryd.underlying68 Tryd.underlying5 x w
@[go_sem] theorem shl8 (x : BitVec 32) (w : World) : (binOp .shl 68 (U x) (.int .u64 8)).run Tryd.prog w = .ok (U (x <<< 8)) w := run_shl_U w 68 x .u64 8 (by omega)
@[go_sem] theorem shr3 (x : BitVec 32) (w : World) : (binOp .shr 68 (U x) (.int .u64 3)).run Tryd.prog w = .ok (U (x >>> 3)) w := run_shr_U w 68 x .u64 3 (by omega)
@[go_sem] theorem shr10 (x : BitVec 32) (w : World) : (binOp .shr 68 (U x) (.int .u64 10)).run Tryd.prog w = .ok (U (x >>> 10)) w := run_shr_U w 68 x .u64 10 (by omega)

@[go_sem] theorem shl16 (x : BitVec 32) (w : World) : (binOp .shl 68 (U x) (.int .u64 16)).run Tryd.prog w = .ok (U (x <<< 16)) w := run_shl_U w 68 x .u64 16 (by omega)
@[go_sem] theorem shl24 (x : BitVec 32) (w : World) : (binOp .shl 68 (U x) (.int .u64 24)).run Tryd.prog w = .ok (U (x <<< 24)) w := run_shl_U w 68 x .u64 24 (by omega)
/-- math/bits.RotateLeft32 by -m: turned right by m. -/
theorem rot_any (m : Nat) (h1 : 1 ≤ m) (h2 : m ≤ 31) (k : Int) (hk : k = -(m : Int)) (x : BitVec 32) (w : World) : Calls Tryd.prog 60 #[U x, .int .i64 k] w fun e w' => e = .returned (U (x.rotateRight m)) ∧ w = w' := by
  have e1 : bits BinOp.and IntKind.u64 (IntKind.u64.wrap k) 31 = ((32 - m : Nat) : Int) := by
    subst hk
    have : ∀ m : Fin 32, 1 ≤ m.val → bits BinOp.and IntKind.u64 (IntKind.u64.wrap (-(m.val : Int))) 31 = ((32 - m.val : Nat) : Int) := by decide +kernel
    exact this ⟨m, by omega⟩ h1
  have e2 : IntKind.u64.wrap (32 - ((32 - m : Nat) : Int)) = ((m : Nat) : Int) := by
    rw [IntWalk.u64_in _ (by omega)]; omega
  have r1 : ∀ w : World, (binOp .shl 68 (U x) (.int .u64 ((32 - m : Nat) : Int))).run Tryd.prog w = .ok (U (x <<< (32 - m))) w := fun w => run_shl_U w 68 x .u64 _ (by omega)
  have r2 : ∀ w : World, (binOp .shr 68 (U x) (.int .u64 ((m : Nat) : Int))).run Tryd.prog w = .ok (U (x >>> m)) w := fun w => run_shr_U w 68 x .u64 _ (by omega)
  clear hk
  go_enter Tryd.func60, Tryd.ntmps60
  go_wp2
  go_ret
  exact ⟨by rw [BitVec.rotateRight, Nat.mod_eq_of_lt (by omega), BitVec.rotateRightAux, BitVec.or_comm]; rfl, rfl⟩

theorem rot7 (x : BitVec 32) (w : World) : Calls Tryd.prog 60 #[U x, .int .i64 (-7)] w fun e w' => e = .returned (U (x.rotateRight 7)) ∧ w = w' := rot_any 7 (by omega) (by omega) _ rfl x w
theorem rot18 (x : BitVec 32) (w : World) : Calls Tryd.prog 60 #[U x, .int .i64 (-18)] w fun e w' => e = .returned (U (x.rotateRight 18)) ∧ w = w' := rot_any 18 (by omega) (by omega) _ rfl x w
theorem rot17 (x : BitVec 32) (w : World) : Calls Tryd.prog 60 #[U x, .int .i64 (-17)] w fun e w' => e = .returned (U (x.rotateRight 17)) ∧ w = w' := rot_any 17 (by omega) (by omega) _ rfl x w
theorem rot19 (x : BitVec 32) (w : World) : Calls Tryd.prog 60 #[U x, .int .i64 (-19)] w fun e w' => e = .returned (U (x.rotateRight 19)) ∧ w = w' := rot_any 19 (by omega) (by omega) _ rfl x w
theorem rot6 (x : BitVec 32) (w : World) : Calls Tryd.prog 60 #[U x, .int .i64 (-6)] w fun e w' => e = .returned (U (x.rotateRight 6)) ∧ w = w' := rot_any 6 (by omega) (by omega) _ rfl x w
theorem rot11 (x : BitVec 32) (w : World) : Calls Tryd.prog 60 #[U x, .int .i64 (-11)] w fun e w' => e = .returned (U (x.rotateRight 11)) ∧ w = w' := rot_any 11 (by omega) (by omega) _ rfl x w
theorem rot25 (x : BitVec 32) (w : World) : Calls Tryd.prog 60 #[U x, .int .i64 (-25)] w fun e w' => e = .returned (U (x.rotateRight 25)) ∧ w = w' := rot_any 25 (by omega) (by omega) _ rfl x w
theorem rot2 (x : BitVec 32) (w : World) : Calls Tryd.prog 60 #[U x, .int .i64 (-2)] w fun e w' => e = .returned (U (x.rotateRight 2)) ∧ w = w' := rot_any 2 (by omega) (by omega) _ rfl x w
theorem rot13 (x : BitVec 32) (w : World) : Calls Tryd.prog 60 #[U x, .int .i64 (-13)] w fun e w' => e = .returned (U (x.rotateRight 13)) ∧ w = w' := rot_any 13 (by omega) (by omega) _ rfl x w
theorem rot22 (x : BitVec 32) (w : World) : Calls Tryd.prog 60 #[U x, .int .i64 (-22)] w fun e w' => e = .returned (U (x.rotateRight 22)) ∧ w = w' := rot_any 22 (by omega) (by omega) _ rfl x w

/-- twinspanref02.turned: turned right by m. -/
theorem turned_any (m : Nat) (h1 : 1 ≤ m) (h2 : m ≤ 31) (k : Int) (hk : k = (m : Int)) (x : BitVec 32) (w : World) : Calls Tryd.prog 59 #[U x, .int .u64 k] w fun e w' => e = .returned (U (x.rotateRight m)) ∧ w = w' := by
  subst hk
  have e2 : IntKind.u64.wrap (32 - (m : Int)) = ((32 - m : Nat) : Int) := by
    rw [IntWalk.u64_in _ (by omega)]; omega
  have r1 : ∀ w : World, (binOp .shl 68 (U x) (.int .u64 ((32 - m : Nat) : Int))).run Tryd.prog w = .ok (U (x <<< (32 - m))) w := fun w => run_shl_U w 68 x .u64 _ (by omega)
  have r1' : ∀ w : World, (binOp .shl 68 (U x) (.int .u64 (32 - (m : Int)))).run Tryd.prog w = .ok (U (x <<< (32 - m))) w := fun w => by
    have := r1 w
    rwa [show ((32 - m : Nat) : Int) = 32 - (m : Int) by omega] at this
  have r2 : ∀ w : World, (binOp .shr 68 (U x) (.int .u64 ((m : Nat) : Int))).run Tryd.prog w = .ok (U (x >>> m)) w := fun w => run_shr_U w 68 x .u64 _ (by omega)
  go_enter Tryd.func59, Tryd.ntmps59
  go_wp2
  go_ret
  exact ⟨by rw [BitVec.rotateRight, Nat.mod_eq_of_lt (by omega), BitVec.rotateRightAux]; rfl, rfl⟩
theorem turned_z (k : Int) (h1 : 1 ≤ k) (h2 : k ≤ 31) (x : BitVec 32) (w : World) : Calls Tryd.prog 59 #[U x, .int .u64 k] w fun e w' => e = .returned (U (x.rotateRight k.toNat)) ∧ w = w' :=
  turned_any k.toNat (by omega) (by omega) k (by omega) x w
theorem turned7 (x : BitVec 32) (w : World) : Calls Tryd.prog 59 #[U x, .int .u64 7] w fun e w' => e = .returned (U (x.rotateRight 7)) ∧ w = w' := turned_any 7 (by omega) (by omega) _ rfl x w
theorem turned18 (x : BitVec 32) (w : World) : Calls Tryd.prog 59 #[U x, .int .u64 18] w fun e w' => e = .returned (U (x.rotateRight 18)) ∧ w = w' := turned_any 18 (by omega) (by omega) _ rfl x w
theorem turned17 (x : BitVec 32) (w : World) : Calls Tryd.prog 59 #[U x, .int .u64 17] w fun e w' => e = .returned (U (x.rotateRight 17)) ∧ w = w' := turned_any 17 (by omega) (by omega) _ rfl x w
theorem turned19 (x : BitVec 32) (w : World) : Calls Tryd.prog 59 #[U x, .int .u64 19] w fun e w' => e = .returned (U (x.rotateRight 19)) ∧ w = w' := turned_any 19 (by omega) (by omega) _ rfl x w
theorem turned6 (x : BitVec 32) (w : World) : Calls Tryd.prog 59 #[U x, .int .u64 6] w fun e w' => e = .returned (U (x.rotateRight 6)) ∧ w = w' := turned_any 6 (by omega) (by omega) _ rfl x w
theorem turned11 (x : BitVec 32) (w : World) : Calls Tryd.prog 59 #[U x, .int .u64 11] w fun e w' => e = .returned (U (x.rotateRight 11)) ∧ w = w' := turned_any 11 (by omega) (by omega) _ rfl x w
theorem turned25 (x : BitVec 32) (w : World) : Calls Tryd.prog 59 #[U x, .int .u64 25] w fun e w' => e = .returned (U (x.rotateRight 25)) ∧ w = w' := turned_any 25 (by omega) (by omega) _ rfl x w
theorem turned2 (x : BitVec 32) (w : World) : Calls Tryd.prog 59 #[U x, .int .u64 2] w fun e w' => e = .returned (U (x.rotateRight 2)) ∧ w = w' := turned_any 2 (by omega) (by omega) _ rfl x w
theorem turned13 (x : BitVec 32) (w : World) : Calls Tryd.prog 59 #[U x, .int .u64 13] w fun e w' => e = .returned (U (x.rotateRight 13)) ∧ w = w' := turned_any 13 (by omega) (by omega) _ rfl x w
theorem turned22 (x : BitVec 32) (w : World) : Calls Tryd.prog 59 #[U x, .int .u64 22] w fun e w' => e = .returned (U (x.rotateRight 22)) ∧ w = w' := turned_any 22 (by omega) (by omega) _ rfl x w

theorem Row_const (n : Nat) (v : Value) : Row n (fun _ => v) = Array.replicate n v := by
  symm
  refine Row_of (by simp) fun i hi => ?_
  simp [hi]
/-- New arrays of noughts. -/
theorem zeros64 : (#[Value.int .u32 0, Value.int .u32 0, Value.int .u32 0, Value.int .u32 0, Value.int .u32 0, Value.int .u32 0, Value.int .u32 0, Value.int .u32 0, Value.int .u32 0, Value.int .u32 0, Value.int .u32 0, Value.int .u32 0, Value.int .u32 0, Value.int .u32 0, Value.int .u32 0, Value.int .u32 0, Value.int .u32 0, Value.int .u32 0, Value.int .u32 0, Value.int .u32 0, Value.int .u32 0, Value.int .u32 0, Value.int .u32 0, Value.int .u32 0, Value.int .u32 0, Value.int .u32 0, Value.int .u32 0, Value.int .u32 0, Value.int .u32 0, Value.int .u32 0, Value.int .u32 0, Value.int .u32 0, Value.int .u32 0, Value.int .u32 0, Value.int .u32 0, Value.int .u32 0, Value.int .u32 0, Value.int .u32 0, Value.int .u32 0, Value.int .u32 0, Value.int .u32 0, Value.int .u32 0, Value.int .u32 0, Value.int .u32 0, Value.int .u32 0, Value.int .u32 0, Value.int .u32 0, Value.int .u32 0, Value.int .u32 0, Value.int .u32 0, Value.int .u32 0, Value.int .u32 0, Value.int .u32 0, Value.int .u32 0, Value.int .u32 0, Value.int .u32 0, Value.int .u32 0, Value.int .u32 0, Value.int .u32 0, Value.int .u32 0, Value.int .u32 0, Value.int .u32 0, Value.int .u32 0, Value.int .u32 0] : Array Value) = Row 64 (fun _ => U 0) := by
  rw [Row_const]; rfl
theorem zeros64b : (#[Value.int .u8 0, Value.int .u8 0, Value.int .u8 0, Value.int .u8 0, Value.int .u8 0, Value.int .u8 0, Value.int .u8 0, Value.int .u8 0, Value.int .u8 0, Value.int .u8 0, Value.int .u8 0, Value.int .u8 0, Value.int .u8 0, Value.int .u8 0, Value.int .u8 0, Value.int .u8 0, Value.int .u8 0, Value.int .u8 0, Value.int .u8 0, Value.int .u8 0, Value.int .u8 0, Value.int .u8 0, Value.int .u8 0, Value.int .u8 0, Value.int .u8 0, Value.int .u8 0, Value.int .u8 0, Value.int .u8 0, Value.int .u8 0, Value.int .u8 0, Value.int .u8 0, Value.int .u8 0, Value.int .u8 0, Value.int .u8 0, Value.int .u8 0, Value.int .u8 0, Value.int .u8 0, Value.int .u8 0, Value.int .u8 0, Value.int .u8 0, Value.int .u8 0, Value.int .u8 0, Value.int .u8 0, Value.int .u8 0, Value.int .u8 0, Value.int .u8 0, Value.int .u8 0, Value.int .u8 0, Value.int .u8 0, Value.int .u8 0, Value.int .u8 0, Value.int .u8 0, Value.int .u8 0, Value.int .u8 0, Value.int .u8 0, Value.int .u8 0, Value.int .u8 0, Value.int .u8 0, Value.int .u8 0, Value.int .u8 0, Value.int .u8 0, Value.int .u8 0, Value.int .u8 0, Value.int .u8 0] : Array Value) = Row 64 (fun _ => By 0) := by
  rw [Row_const]; rfl
theorem zeros32b : (#[Value.int .u8 0, Value.int .u8 0, Value.int .u8 0, Value.int .u8 0, Value.int .u8 0, Value.int .u8 0, Value.int .u8 0, Value.int .u8 0, Value.int .u8 0, Value.int .u8 0, Value.int .u8 0, Value.int .u8 0, Value.int .u8 0, Value.int .u8 0, Value.int .u8 0, Value.int .u8 0, Value.int .u8 0, Value.int .u8 0, Value.int .u8 0, Value.int .u8 0, Value.int .u8 0, Value.int .u8 0, Value.int .u8 0, Value.int .u8 0, Value.int .u8 0, Value.int .u8 0, Value.int .u8 0, Value.int .u8 0, Value.int .u8 0, Value.int .u8 0, Value.int .u8 0, Value.int .u8 0] : Array Value) = Row 32 (fun _ => By 0) := by
  rw [Row_const]; rfl
theorem zeros8 : (#[Value.int .u32 0, Value.int .u32 0, Value.int .u32 0, Value.int .u32 0, Value.int .u32 0, Value.int .u32 0, Value.int .u32 0, Value.int .u32 0] : Array Value) = Row 8 (fun _ => U 0) := by
  rw [Row_const]; rfl
theorem zeros8b : (#[Value.int .u8 0, Value.int .u8 0, Value.int .u8 0, Value.int .u8 0, Value.int .u8 0, Value.int .u8 0, Value.int .u8 0, Value.int .u8 0] : Array Value) = Row 8 (fun _ => By 0) := by
  rw [Row_const]; rfl
end Go.Proofs.YtlfcaagogeclpaaDoor
