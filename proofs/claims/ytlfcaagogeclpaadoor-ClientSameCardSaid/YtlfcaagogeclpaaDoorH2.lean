/-
  What twinspanref02.Tables.Sum holds from loop to loop.
-/
import Derived.Test.YtlfcaagogeclpaaDoorH0
import Derived.Test.YtlfcaagogeclpaaDoorC2
import Derived.Lib.AppendZeros
namespace Go.Proofs.YtlfcaagogeclpaaDoor
open Go.RowKit
/-- The message of n bytes and what is behind it: the mark, noughts, the length. -/
def msg (n : Nat) (d : Nat → BitVec 8) (z i : Nat) : BitVec 8 := if i < n then d i else if i = n then 128 else if i < n + 1 + z then 0 else lenb n (i - (n + 1 + z))
theorem msg_zero (n : Nat) (d : Nat → BitVec 8) (k i : Nat) (hi : i < n + 1 + k + 1) : upd (msg n d k) (n + 1 + k) 0 i = msg n d (k + 1) i := by
  unfold upd msg
  by_cases e : i = n + 1 + k
  · subst e; rw [if_pos rfl, if_neg (by omega), if_neg (by omega), if_pos (by omega)]
  · rw [if_neg e]
    by_cases h1 : i < n
    · rw [if_pos h1, if_pos h1]
    · rw [if_neg h1, if_neg h1]
      by_cases h2 : i = n
      · rw [if_pos h2, if_pos h2]
      · rw [if_neg h2, if_neg h2, if_pos (by omega), if_pos (by omega)]
theorem msg_len (n : Nat) (d : Nat → BitVec 8) (z j i : Nat) (hi : i < n + 1 + z + j + 1) : upd (msg n d z) (n + 1 + z + j) (lenb n j) i = msg n d z i := by
  unfold upd
  by_cases e : i = n + 1 + z + j
  · subst e; rw [if_pos rfl]; unfold msg; rw [if_neg (by omega), if_neg (by omega), if_neg (by omega)]; congr 1; omega
  · rw [if_neg e]
theorem msg_mark (n : Nat) (s : ByteArray) (hs : s.size = n) (i : Nat) (hi : i < n + 1) : upd (sb s) n 128 i = msg n (sb s) 0 i := by
  unfold upd msg
  by_cases e : i = n
  · subst e; rw [if_pos rfl, if_neg (by omega), if_pos rfl]
  · rw [if_neg e, if_pos (by omega)]
def tabs (b0 kb : Nat) (i : Nat) : Value := if i = 0 then .slice (some ⟨b0, 0, none⟩) 8 8 else .slice (some ⟨kb, 0, none⟩) 64 64
structure SI (w : World) (b0 kb : Nat) (wr : World) : Prop where
  below : Below w.heap.size w wr
  size : w.heap.size + 2 ≤ wr.heap.size
  tab : Blk wr w.heap.size 67 2 (tabs b0 kb)
  res : Blk wr (w.heap.size + 1) 28 32 (fun _ => By 0)
theorem SI.next {w : World} {b0 kb : Nat} {wr wr' : World} (h : SI w b0 kb wr) (hb : Below (w.heap.size + 2) wr wr') : SI w b0 kb wr' :=
  ⟨h.below.trans (hb.mono (by omega)), Nat.le_trans h.size hb.size, h.tab.below hb (by omega), h.res.below hb (by omega)⟩
theorem SI.only {w : World} {b0 kb : Nat} {wr wr' : World} (h : SI w b0 kb wr) (hb : wr.grownBy wr' none) : SI w b0 kb wr' := h.next ((below_of_only hb).mono h.size)
theorem SI.start {w : World} {b0 kb : Nat} {Z1 Z2 : Array Value} (h1 : Z1 = Row 2 (tabs b0 kb)) (h2 : Z2 = Row 32 fun _ => By 0) : SI w b0 kb ((w.alloc (.cells Z1 67)).alloc (.cells Z2 28)) := by
  refine ⟨below_of_only (only_alloc (only_alloc (only_refl _ _) _) _), by simp, (Blk.new w 67 h1).alloc _, ?_⟩
  have := Blk.new (w.alloc (.cells Z1 67)) 28 h2
  rw [World.size_alloc] at this
  exact this
theorem BS.some {base : Nat} {w : World} {v : Value} {n : Nat} {c : Nat → BitVec 8} (h : BS base w v n c) (hn : 0 < n) : ∃ g cap, v = .slice (some ⟨g, 0, none⟩) n cap ∧ n ≤ cap ∧ base ≤ g ∧ g < w.heap.size ∧ ∀ i, i < n → w.cell? ⟨g, i, none⟩ = some (By (c i)) := by
  rcases h with ⟨_, h⟩ | ⟨g, cap, h1, h2, h3, h4, h5, h6, h7, h8⟩
  · omega
  · exact ⟨g, cap, h1, h4, h2, h3, h8⟩
theorem byte_cell (w : World) (v : Value) (c : BitVec 8) (h : v = By c) : (w.alloc (.cells #[v] 5)).cell? ⟨w.heap.size, 0, none⟩ = some (By c) := by
  subst h; rw [World.cell?_alloc_at _ _ _ _ rfl]; rfl
def lenS : Value → Nat
  | .slice _ n _ => n
  | _ => 0
/-- The eight numbers are laid, k of them. -/
structure S3 (w : World) (b0 kb X g : Nat) (m : Nat → BitVec 8) (x : Nat → BitVec 32) (wr : World) : Prop where
  si : SI w b0 kb wr
  blk : Blk wr X 84 8 (fun i => U (x i))
  cells : ∀ i, i < 128 → wr.cell? ⟨g, i, none⟩ = some (By (m i))
  ord : w.heap.size + 2 ≤ g ∧ g < X
def part (k i : Nat) : BitVec 32 := if i < k then Sha.X0 i else 0
theorem SI.set {w : World} {b0 kb : Nat} {wr : World} (h : SI w b0 kb wr) {p : Addr} (hp : w.heap.size + 2 ≤ p.block) (u : Value) : SI w b0 kb (wr.setCell p u) :=
  h.next ⟨rfl, rfl, rfl, by simp [World.setCell], fun k hk => Below.heap_setCell wr _ _ k (by omega)⟩
theorem SI.setRow {w : World} {b0 kb : Nat} {wr : World} (h : SI w b0 kb wr) {X : Nat} (hp : w.heap.size + 2 ≤ X) (cs : Array Value) : SI w b0 kb (wr.setRow X cs) :=
  h.next ⟨rfl, rfl, rfl, by rw [setRow_size]; exact Nat.le_refl _, fun k hk => setRow_other wr X k cs (by omega)⟩
theorem S3.start {w : World} {b0 kb g : Nat} {m : Nat → BitVec 8} {wr : World} (h : SI w b0 kb wr) {Z : Array Value} (hZ : Z = Row 8 fun _ => U 0) (hc : ∀ i, i < 128 → wr.cell? ⟨g, i, none⟩ = some (By (m i))) (h1 : w.heap.size + 2 ≤ g) (h2 : g < wr.heap.size) : S3 w b0 kb wr.heap.size g m (part 0) (wr.alloc (.cells Z 84)) :=
  ⟨h.only (only_alloc (only_refl _ _) _), (Blk.new wr 84 hZ).congr fun i _ => by simp [part], fun i hi => only_cell (only_alloc (only_refl _ _) _) (hc i hi), h1, h2⟩
theorem S3.step {w : World} {b0 kb X g k : Nat} {m : Nat → BitVec 8} {wr : World} (h : S3 w b0 kb X g m (part k) wr) : S3 w b0 kb X g m (part (k + 1)) (wr.setCell ⟨X, k, none⟩ (U (Sha.X0 k))) := by
  refine ⟨h.si.set (by have := h.ord; show _ ≤ X; omega) _, (h.blk.set_ _ _).congr fun i hi => ?_, fun i hi => ?_, h.ord⟩
  · unfold upd part
    by_cases e : i = k
    · subst e; rw [if_pos rfl, if_pos (by omega)]
    · rw [if_neg e]
      show U (if i < k then _ else _) = _
      by_cases h1 : i < k
      · rw [if_pos h1, if_pos (by omega)]
      · rw [if_neg h1, if_neg (by omega)]
  · rw [World.cell?_setCell_other _ _ _ _ (by intro e; injection e with e1; have := h.ord; omega)]
    exact h.cells i hi
theorem S3.next {w : World} {b0 kb X g : Nat} {m : Nat → BitVec 8} {x : Nat → BitVec 32} {wr w2 : World} (h : S3 w b0 kb X g m x wr) (hb : wr.grownBy w2 none) : S3 w b0 kb X g m x w2 :=
  ⟨h.si.only hb, h.blk.below (below_of_only hb) h.blk.lt, fun i hi => only_cell hb (h.cells i hi), h.ord⟩
theorem S3.setRow {w : World} {b0 kb X g : Nat} {m : Nat → BitVec 8} {x y : Nat → BitVec 32} {wr : World} (h : S3 w b0 kb X g m x wr) : S3 w b0 kb X g m y (wr.setRow X (Row 8 fun i => U (y i))) := by
  refine ⟨h.si.setRow (by have := h.ord; omega) _, h.blk.setRow_ _, fun i hi => ?_, h.ord⟩
  have hg : (wr.setRow X (Row 8 fun i => U (y i))).heap[g]? = wr.heap[g]? := setRow_other wr X g _ (by have := h.ord; omega)
  rw [cell_of_heap hg]; exact h.cells i hi
theorem part8 : ∀ i, i < 8 → part 8 i = Sha.X0 i := fun i hi => by unfold part; rw [if_pos hi]
theorem S3.congr {w : World} {b0 kb X g : Nat} {m : Nat → BitVec 8} {x y : Nat → BitVec 32} {wr : World} (h : S3 w b0 kb X g m x wr) (hc : ∀ i, i < 8 → x i = y i) : S3 w b0 kb X g m y wr :=
  ⟨h.si, h.blk.congr fun i hi => by rw [hc i hi], h.cells, h.ord⟩
/-- The hash's bytes, k of them. -/
structure S5 (w : World) (b0 kb X O : Nat) (x : Nat → BitVec 32) (k : Nat) (wr : World) : Prop where
  si : SI w b0 kb wr
  blk : Blk wr X 84 8 (fun i => U (x i))
  out : Blk wr O 28 32 (fun j => if j < k then By (Sha.out x j) else By 0)
  ord : w.heap.size + 2 ≤ X ∧ X < O
theorem S5.start {w : World} {b0 kb X g : Nat} {m : Nat → BitVec 8} {x : Nat → BitVec 32} {wr : World} (h : S3 w b0 kb X g m x wr) {Z : Array Value} (hZ : Z = Row 32 fun _ => By 0) : S5 w b0 kb X wr.heap.size x 0 (wr.alloc (.cells Z 28)) :=
  ⟨h.si.only (only_alloc (only_refl _ _) _), h.blk.alloc _, (Blk.new wr 28 hZ).congr fun i _ => by rw [if_neg (by omega)], by have := h.ord; omega, h.blk.lt⟩
theorem S5.step {w : World} {b0 kb X O k : Nat} {x : Nat → BitVec 32} {wr : World} (h : S5 w b0 kb X O x k wr) : S5 w b0 kb X O x (k + 1) (wr.setCell ⟨O, k, none⟩ (By (Sha.out x k))) := by
  have ho := h.ord
  refine ⟨h.si.set (by show _ ≤ O; omega) _, h.blk.far (by show X ≠ O; omega) _, (h.out.set_ _ _).congr fun i hi => ?_, h.ord⟩
  unfold upd
  by_cases e : i = k
  · subst e; rw [if_pos rfl, if_pos (by omega)]
  · rw [if_neg e]
    show (if i < k then _ else _) = _
    by_cases h1 : i < k
    · rw [if_pos h1, if_pos (by omega)]
    · rw [if_neg h1, if_neg (by omega)]
/-- All ways leave this frame, and a world of which R holds. -/
def OnlyNormal (A : Act) (R : World → Prop) : Exit → Act → World → Prop
  | .normal, a, w => a = A ∧ R w
  | _, _, _ => False
theorem OnlyNormal.imp {A : Act} {R : World → Prop} {Q' : Exit → Act → World → Prop} (h : ∀ w, R w → Q' .normal A w) : ∀ e a w, OnlyNormal A R e a w → Q' e a w := by
  intro e a w hq
  cases e with
  | normal => obtain ⟨rfl, hr⟩ := hq; exact h w hr
  | _ => exact hq.elim
theorem cut_b (g cap a : Nat) (lo hi : Int) (hlo : lo = (a : Int)) (hhi : hi = (a : Int) + 64) (hc : a + 64 ≤ cap) (W : World) :
    (Instr.slice 55 (.slice (some ⟨g, 0, none⟩) 128 cap) (some (.int .i64 lo)) (some (.int .i64 hi)) none).run Tryd.prog W = .ok (.slice (some ⟨g, a, none⟩) 64 (cap - a)) W := by
  subst hlo hhi
  have he : Tryd.prog.underlying 55 = some (.slice (Tryd.prog.elem 55)) := by kernel_rfl
  have he5 : Tryd.prog.elem 55 = 5 := by kernel_rfl
  rw [run_slice_lh W 55 _ _ _ he .i64 .i64 _ _ (by omega) (by omega) (by omega), he5, run_sizeOf size5]
  show Result.ok _ W = _
  unfold sliced
  rw [if_neg (by omega)]
  have e1 : ((a : Int) + 64).toNat - ((a : Int)).toNat = 64 := by omega
  rw [e1, Int.toNat_natCast]
  by_cases h0 : a = 0
  · subst h0; rfl
  · simp [Addr.add, h0]
theorem refblock_ex (b0 kb : Nat) (x y : Nat → BitVec 32) (c : Nat → BitVec 8) (hy : y = Sha.comp Sha.K x c) (bb o cap : Nat) (w : World)
    (hK : ∀ i, i < 64 → w.cell? ⟨kb, i, none⟩ = some (U (Sha.K i))) (hc : ∀ i, i < 64 → w.cell? ⟨bb, o + i, none⟩ = some (By (c i))) :
    Calls Tryd.prog 52 #[.agg #[.slice (some ⟨b0, 0, none⟩) 8 8, .slice (some ⟨kb, 0, none⟩) 64 64], .agg #[U (x 0), U (x 1), U (x 2), U (x 3), U (x 4), U (x 5), U (x 6), U (x 7)], .slice (some ⟨bb, o, none⟩) 64 cap] w fun e w' => e = .returned (.agg #[U (y 0), U (y 1), U (y 2), U (y 3), U (y 4), U (y 5), U (y 6), U (y 7)]) ∧ Below w.heap.size w w' := by
  subst hy
  have h1 := eight (fun i => U (x i))
  have h2 := eight (fun i => U (Sha.comp Sha.K x c i))
  rw [h1, h2]
  exact refblock_any _ kb x c bb o cap w hK hc ⟨_, _, _, rfl⟩
theorem S3.facts {w : World} {b0 kb X g : Nat} {m : Nat → BitVec 8} {x : Nat → BitVec 32} {wr : World} (h : S3 w b0 kb X g m x wr) : wr.cell? ⟨w.heap.size, 0, none⟩ = some (.slice (some ⟨b0, 0, none⟩) 8 8) ∧ wr.cell? ⟨w.heap.size, 1, none⟩ = some (.slice (some ⟨kb, 0, none⟩) 64 64) ∧
    wr.cell? ⟨X, 0, none⟩ = some (U (x 0)) ∧ wr.cell? ⟨X, 1, none⟩ = some (U (x 1)) ∧ wr.cell? ⟨X, 2, none⟩ = some (U (x 2)) ∧ wr.cell? ⟨X, 3, none⟩ = some (U (x 3)) ∧ wr.cell? ⟨X, 4, none⟩ = some (U (x 4)) ∧ wr.cell? ⟨X, 5, none⟩ = some (U (x 5)) ∧ wr.cell? ⟨X, 6, none⟩ = some (U (x 6)) ∧ wr.cell? ⟨X, 7, none⟩ = some (U (x 7)) ∧ wr.frozen? ⟨X, 0, none⟩ = false ∧ wr.frozen? ⟨X, 1, none⟩ = false ∧ wr.frozen? ⟨X, 2, none⟩ = false ∧ wr.frozen? ⟨X, 3, none⟩ = false ∧ wr.frozen? ⟨X, 4, none⟩ = false ∧ wr.frozen? ⟨X, 5, none⟩ = false ∧ wr.frozen? ⟨X, 6, none⟩ = false ∧ wr.frozen? ⟨X, 7, none⟩ = false :=
  ⟨h.si.tab.cell (by omega), h.si.tab.cell (by omega), h.blk.cell (by omega), h.blk.cell (by omega), h.blk.cell (by omega), h.blk.cell (by omega), h.blk.cell (by omega), h.blk.cell (by omega), h.blk.cell (by omega), h.blk.cell (by omega), h.blk.free _, h.blk.free _, h.blk.free _, h.blk.free _, h.blk.free _, h.blk.free _, h.blk.free _, h.blk.free _⟩
theorem S3.put8 {w : World} {b0 kb X g : Nat} {m : Nat → BitVec 8} {x y : Nat → BitVec 32} {wr : World} (h : S3 w b0 kb X g m x wr) : S3 w b0 kb X g m y ((((((((wr.setCell ⟨X, 0, none⟩ (U (y 0))).setCell ⟨X, 1, none⟩ (U (y 1))).setCell ⟨X, 2, none⟩ (U (y 2))).setCell ⟨X, 3, none⟩ (U (y 3))).setCell ⟨X, 4, none⟩ (U (y 4))).setCell ⟨X, 5, none⟩ (U (y 5))).setCell ⟨X, 6, none⟩ (U (y 6))).setCell ⟨X, 7, none⟩ (U (y 7))) := by
  have hx : w.heap.size + 2 ≤ X := by have := h.ord; omega
  have hc : ∀ (W : World) (p : Addr) (u : Value), p.block = X → (∀ i, i < 128 → W.cell? ⟨g, i, none⟩ = some (By (m i))) → ∀ i, i < 128 → (W.setCell p u).cell? ⟨g, i, none⟩ = some (By (m i)) := fun W p u hp hW i hi => by
    rw [World.cell?_setCell_other _ _ _ _ (by intro e; subst e; have := h.ord; simp at hp; omega)]; exact hW i hi
  refine ⟨(((((((h.si.set (p := ⟨X, 0, none⟩) hx _).set (p := ⟨X, 1, none⟩) hx _).set (p := ⟨X, 2, none⟩) hx _).set (p := ⟨X, 3, none⟩) hx _).set (p := ⟨X, 4, none⟩) hx _).set (p := ⟨X, 5, none⟩) hx _).set (p := ⟨X, 6, none⟩) hx _).set (p := ⟨X, 7, none⟩) hx _, ((((((((h.blk.set_ 0 _).set_ 1 _).set_ 2 _).set_ 3 _).set_ 4 _).set_ 5 _).set_ 6 _).set_ 7 _).congr fun i hi => ?_, hc _ _ _ rfl (hc _ _ _ rfl (hc _ _ _ rfl (hc _ _ _ rfl (hc _ _ _ rfl (hc _ _ _ rfl (hc _ _ _ rfl (hc _ _ _ rfl h.cells))))))), h.ord⟩
  match i, hi with
  | 0, _ => rfl
  | 1, _ => rfl
  | 2, _ => rfl
  | 3, _ => rfl
  | 4, _ => rfl
  | 5, _ => rfl
  | 6, _ => rfl
  | 7, _ => rfl
end Go.Proofs.YtlfcaagogeclpaaDoor
