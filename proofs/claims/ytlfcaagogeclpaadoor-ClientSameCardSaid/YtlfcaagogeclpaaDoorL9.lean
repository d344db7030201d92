/-
  client.Update of the example's, its three uses; what stands in awake.
-/
import Derived.Test.YtlfcaagogeclpaaDoorL5
import Derived.Test.YtlfcaagogeclpaaDoorL6
import Derived.Test.YtlfcaagogeclpaaDoorL7
import Derived.Test.YtlfcaagogeclpaaDoorL8
set_option linter.unusedSimpArgs false
set_option linter.unusedVariables false
namespace Go.Proofs.YtlfcaagogeclpaaDoor
open Go.RowKit
/-- What Update hands back: a client, and no error. -/
def UR (C : Bool → Nat → Nat → Nat → Prop) (g : Nat) (w : World) (e : Ending) (w' : World) : Prop :=
  ∃ fz g2 n2 cap2, e = .returned (.tuple #[.agg (Row 5 (clf fz g2 n2 cap2)), .int .i64 0]) ∧ Below w.heap.size w w' ∧ SS w' g2 n2 ∧ g2 < w'.heap.size ∧ (g2 = g ∨ w.heap.size ≤ g2) ∧ C fz g2 n2 cap2
theorem UR.of {C : Bool → Nat → Nat → Nat → Prop} {g n cap : Nat} (hn : n = 1 ∨ n = 2) (rt : Nat → BitVec 8)
    (hput : ∀ W : World, SS W g n → g < W.heap.size → Calls Tryd.prog 16 #[cl false g n cap, .agg (Row 34 (sdf 2 rt))] W fun e w' => ∃ fz g2 n2 cap2, e = .returned (cl fz g2 n2 cap2) ∧ Below W.heap.size W w' ∧ SS w' g2 n2 ∧ g2 < w'.heap.size ∧ (g2 = g ∨ W.heap.size ≤ g2) ∧ C fz g2 n2 cap2)
    (w : World) (hs : SS w g n) (hg : g < w.heap.size) (hG : GL w) : Calls Tryd.prog 8 #[.agg (Row 5 (clf false g n cap)), .agg (Row 35 (hdf 2 rt)), .agg (Row 32 (sealf rt)), .int .i64 1] w (UR C g w) := by
  have h := update_any C g n cap hn rt hput w hs hg hG
  rw [cl_eq] at h
  refine h.mono ?_
  rintro e w' ⟨fz, g2, n2, cap2, rfl, h⟩
  exact ⟨fz, g2, n2, cap2, by rw [cl_eq], h⟩
theorem upd1_any (g cap : Nat) (w : World) (hs : SS w g 1) (hg : g < w.heap.size) (hG : GL w) :
    Calls Tryd.prog 8 #[.agg (Row 5 (clf false g 1 cap)), .agg (Row 35 (hdf 2 fun _ => 0)), .agg (Row 32 (sealf fun _ => 0)), .int .i64 1] w (UR (fun fz _ n2 _ => fz = false ∧ n2 = 2) g w) :=
  UR.of (.inl rfl) _ (fun W hs hg => (putnew_any g cap W hs hg).mono fun e w' ⟨g2, cap2, he, hb, hs2, hge, hlt⟩ => ⟨false, g2, 2, cap2, he, hb, hs2, hlt, .inr hge, rfl, rfl⟩) w hs hg hG
theorem upd2_any (g cap : Nat) (w : World) (hs : SS w g 2) (hg : g < w.heap.size) (hG : GL w) :
    Calls Tryd.prog 8 #[.agg (Row 5 (clf false g 2 cap)), .agg (Row 35 (hdf 2 fun _ => 0)), .agg (Row 32 (sealf fun _ => 0)), .int .i64 1] w (UR (fun fz g2 n2 cap2 => fz = false ∧ g = g2 ∧ n2 = 2 ∧ cap = cap2) g w) :=
  UR.of (.inr rfl) _ (fun W hs hg => (putsame_any g cap W hs hg).mono fun e w' ⟨he, hb⟩ => ⟨false, g, 2, cap, he, hb, hs.next hg (only_of_below hb none), Nat.lt_of_lt_of_le hg hb.size, .inl rfl, rfl, rfl, rfl, rfl⟩) w hs hg hG
theorem upd3_any (g cap : Nat) (w : World) (hs : SS w g 2) (hg : g < w.heap.size) (hG : GL w) :
    Calls Tryd.prog 8 #[.agg (Row 5 (clf false g 2 cap)), .agg (Row 35 (hdf 2 rt1)), .agg (Row 32 (sealf rt1)), .int .i64 1] w (UR (fun fz _ n2 _ => fz = true ∧ n2 = 2) g w) :=
  UR.of (.inr rfl) _ (fun W hs hg => (putfrozen_any g cap W hs hg).mono fun e w' ⟨he, hb⟩ => ⟨true, g, 2, cap, he, hb, hs.next hg (only_of_below hb none), Nat.lt_of_lt_of_le hg hb.size, .inl rfl, rfl, rfl⟩) w hs hg hG
/-- A client that lies in a block: the block, frozen, its states' block, how many, the capacity. -/
structure CD where
  b : Nat
  fz : Bool
  g : Nat
  n : Nat
  cap : Nat
def CB (x : CD) (W : World) : Prop := Blk W x.b 24 5 (clf x.fz x.g x.n x.cap) ∧ SS W x.g x.n ∧ x.g < W.heap.size
/-- What stands in awake: the header, the tables, the clients. -/
def AQ (w : World) (H : Nat) (rt : Nat → BitVec 8) (L : List CD) (W : World) : Prop :=
  w.grownBy W none ∧ Blk W H 30 35 (hdf 2 rt) ∧ GL W ∧ w.heap.size ≤ H ∧ 1 < w.heap.size ∧ ∀ x ∈ L, CB x W
theorem CB.next {x : CD} {W W2 : World} (h : CB x W) (hb : W.grownBy W2 none) : CB x W2 := ⟨h.1.grown hb (by simp), h.2.1.next h.2.2 hb, Nat.lt_of_lt_of_le h.2.2 hb.size⟩
theorem CB.setRow {x : CD} {W : World} (h : CB x W) {b : Nat} (h1 : x.b ≠ b) (h2 : x.g ≠ b) (cs : Array Value) : CB x (W.setRow b cs) := ⟨h.1.setRow_far h1 cs, SS_setRow h.2.1 h2 cs, by rw [setRow_size]; exact h.2.2⟩
theorem AQ.next {w : World} {H : Nat} {rt : Nat → BitVec 8} {L : List CD} {W W2 : World} (h : AQ w H rt L W) (hb : W.grownBy W2 none) : AQ w H rt L W2 := by
  obtain ⟨h1, h2, h3, h4, h5, h6⟩ := h
  exact ⟨only_trans h1 hb, h2.grown hb (by simp), h3.next hb, h4, h5, fun x hx => (h6 x hx).next hb⟩
theorem AQ.below {w : World} {H : Nat} {rt : Nat → BitVec 8} {L : List CD} {W W2 : World} (h : AQ w H rt L W) (hb : Below W.heap.size W W2) : AQ w H rt L W2 := h.next (only_of_below hb none)
/-- Nothing of these lies in block b. -/
def Clear (w : World) (H : Nat) (L : List CD) (b : Nat) : Prop := w.heap.size ≤ b ∧ H ≠ b ∧ ∀ x ∈ L, x.b ≠ b ∧ x.g ≠ b
theorem AQ.clear {w : World} {H : Nat} {rt : Nat → BitVec 8} {L : List CD} {W : World} (h : AQ w H rt L W) : Clear w H L W.heap.size :=
  ⟨h.1.size, Nat.ne_of_lt h.2.1.lt, fun x hx => ⟨Nat.ne_of_lt (h.2.2.2.2.2 x hx).1.lt, Nat.ne_of_lt (h.2.2.2.2.2 x hx).2.2⟩⟩
theorem AQ.store {w : World} {H : Nat} {rt : Nat → BitVec 8} {L : List CD} {W : World} (h : AQ w H rt L W) {b : Nat} (hc : Clear w H L b) (hb : Blk W b 24 5 zcl) {fz : Bool} {g n cap : Nat} (hs : SS W g n) (hg : g < W.heap.size) (hne : g ≠ b) :
    AQ w H rt (⟨b, fz, g, n, cap⟩ :: L) (W.setRow b (Row 5 (clf fz g n cap))) := by
  obtain ⟨h1, h2, h3, h4, h5, h6⟩ := h
  refine ⟨only_setRow h1 (.inr hc.1) _, h2.setRow_far hc.2.1 _, h3.setRow (Nat.lt_of_lt_of_le h5 hc.1) _, h4, h5, fun x hx => ?_⟩
  rcases List.mem_cons.1 hx with rfl | hx
  · exact ⟨hb.setRow_ _, SS_setRow hs hne _, by rw [setRow_size]; exact hg⟩
  · exact (h6 x hx).setRow (hc.2.2 x hx).1 (hc.2.2 x hx).2 _
theorem AQ.drop {w : World} {H : Nat} {rt : Nat → BitVec 8} {x : CD} {L : List CD} {W : World} (h : AQ w H rt (x :: L) W) : AQ w H rt L W := ⟨h.1, h.2.1, h.2.2.1, h.2.2.2.1, h.2.2.2.2.1, fun y hy => h.2.2.2.2.2 y (List.mem_cons_of_mem _ hy)⟩
theorem AQ.get {w : World} {H : Nat} {rt : Nat → BitVec 8} {x : CD} {L : List CD} {W : World} (h : AQ w H rt L W) (hx : x ∈ L) : CB x W := h.2.2.2.2.2 x hx
end Go.Proofs.YtlfcaagogeclpaaDoor
