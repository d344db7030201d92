/-
  client.Active, client.may, client.New of the example's.
-/
import Derived.Test.YtlfcaagogeclpaaDoorJ2
import Derived.Deep.RegionHeld3
namespace Go.Proofs.YtlfcaagogeclpaaDoor
open Go.RowKit
/-- A client lies in block B, its states in block g. -/
def HA (w : World) (B : Nat) (fz : Bool) (g n cap : Nat) (W : World) : Prop := Blk W B 24 5 (clf fz g n cap) ∧ SS W g n ∧ g < W.heap.size ∧ w.grownBy W none
theorem HA.next {w : World} {B : Nat} {fz : Bool} {g n cap : Nat} {W W2 : World} (h : HA w B fz g n cap W) (hb : W.grownBy W2 none) : HA w B fz g n cap W2 := by
  obtain ⟨h1, h2, h3, h4⟩ := h
  exact ⟨h1.grown hb (by simp), h2.next h3 hb, Nat.lt_of_lt_of_le h3 hb.size, only_trans h4 hb⟩
theorem HA.next2 {w : World} {B : Nat} {fz : Bool} {g n cap : Nat} {W W2 : World} (hb : Below W.heap.size W W2) (h : HA w B fz g n cap W) : HA w B fz g n cap W2 := h.next (only_of_below hb none)
theorem HA.facts {w : World} {B : Nat} {fz : Bool} {g n cap : Nat} {W : World} (h : HA w B fz g n cap W) :
    W.cell? ⟨B, 0, none⟩ = some (.string ⟨#[97]⟩) ∧ W.cell? ⟨B, 1, none⟩ = some (.string ⟨#[107]⟩) ∧ W.cell? ⟨B, 2, none⟩ = some (.int .i64 10) ∧ W.cell? ⟨B, 3, none⟩ = some (.bool fz) ∧ W.cell? ⟨B, 4, none⟩ = some (.slice (some ⟨g, 0, none⟩) n cap) ∧ HA w B fz g n cap W :=
  ⟨h.1.cell (by omega), h.1.cell (by omega), h.1.cell (by omega), h.1.cell (by omega), h.1.cell (by omega), h⟩
theorem of6 {A B C D E F : Prop} (h : A ∧ B ∧ C ∧ D ∧ E ∧ F) : F := h.2.2.2.2.2
set_option maxRecDepth 100000 in
set_option maxHeartbeats 1000000 in
theorem active_any (g n cap : Nat) (hn : n = 1 ∨ n = 2) (w : World) (hs : SS w g n) (hg : g < w.heap.size) : Calls Tryd.prog 13 #[cl false g n cap, .int .i64 1] w fun e w' => e = .returned (.bool true) ∧ Below w.heap.size w w' := by
  have h0 : HA w w.heap.size false g n cap (w.alloc (.cells #[Value.string ⟨#[97]⟩, Value.string ⟨#[107]⟩, Value.int .i64 10, Value.bool false, Value.slice (some ⟨g, 0, none⟩) n cap] 24)) :=
    ⟨Blk.new w 24 (cl_row false g n cap), hs.next hg (only_alloc (only_refl _ _) _), by simp; omega, only_alloc (only_refl _ _) _⟩
  have hf : ∀ W : World, (Instr.field 37 (.agg (Row 34 (lst n))) 1).run Tryd.prog W = .ok (.int .i64 0) W := fun W => by
    kernel_rfl
  have hL : ∀ W : World, SS W g n → g < W.heap.size → Calls Tryd.prog 21 #[.agg #[Value.string ⟨#[97]⟩, Value.string ⟨#[107]⟩, Value.int .i64 10, Value.bool false, Value.slice (some ⟨g, 0, none⟩) n cap]] W fun e w' => e = .returned (.agg (Row 34 (lst n))) ∧ Below W.heap.size W w' := fun W h1 h2 => latest_any false g n cap hn W h1 h2
  unfold cl
  go_enter Tryd.func13, Tryd.ntmps13
  go_wp2_with fail
  clear hs hg hn
  generalize hW : World.alloc w _ = W at h0 ⊢
  clear hW
  generalize hB : w.heap.size = B at h0 ⊢
  go_region_held3 (fun W => W.cell? ⟨B, 0, none⟩ = some (.string ⟨#[97]⟩) ∧ W.cell? ⟨B, 1, none⟩ = some (.string ⟨#[107]⟩) ∧ W.cell? ⟨B, 2, none⟩ = some (.int .i64 10) ∧ W.cell? ⟨B, 3, none⟩ = some (.bool false) ∧ W.cell? ⟨B, 4, none⟩ = some (.slice (some ⟨g, 0, none⟩) n cap) ∧ HA w B false g n cap W)
    (first | exact HA.facts (HA.next h0 (only_drew (only_refl _ _))) | exact HA.facts (HA.next2 ‹Below _ _ _› (of6 (by assumption))))
    (first
     | (go_at_call 21; refine (hL _ (of6 (F := HA w B false g n cap _) (by assumption)).2.1 (of6 (F := HA w B false g n cap _) (by assumption)).2.2.1).mono ?_; rintro e w2 ⟨rfl, hb2⟩))
  have he : decide ((1 : Int) < IntKind.i64.wrap 10) = true := by decide
  have hfin := (of6 (F := HA w B false g n cap _) (by assumption)).2.2.2
  go_wp2_with fail
  try rw [he]
  go_ret
  exact ⟨rfl, below_of_only hfin⟩
end Go.Proofs.YtlfcaagogeclpaaDoor
