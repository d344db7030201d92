/-
  client.Header of the example's headers.
-/
import Derived.Test.YtlfcaagogeclpaaDoorG1
namespace Go.Proofs.YtlfcaagogeclpaaDoor
open Go.RowKit
theorem HB.only5 {A B C D : Prop} {g : Nat} {ht : Int} {rt : Nat → BitVec 8} {w W : World} (h : A ∧ B ∧ C ∧ D ∧ HB g ht rt w W) : w.grownBy W none := h.2.2.2.2.2
/-- The bytes of the example's header with the root rt. -/
def hdb (rt : Nat → BitVec 8) (i : Nat) : BitVec 8 := if i < 14 then if i < 10 then if i < 5 then if i < 4 then hd 99 1 i else 97 else if i - 5 < 4 then hd 104 1 (i - 5) else 2 else if i - 10 < 4 then hd 116 0 (i - 10) else 0 else if i - 14 < 4 then hd 114 32 (i - 14) else rt (i - 14 - 4)
set_option maxRecDepth 100000 in
set_option maxHeartbeats 2000000 in
theorem header_any (rt : Nat → BitVec 8) (w : World) : Calls Tryd.prog 23 #[.agg (Row 35 (hdf 2 rt))] w fun e w' => e = .returned (.string (str 50 (hdb rt))) ∧ Below w.heap.size w w' := by
  have h0 : HB w.heap.size 2 rt w (w.alloc (.cells (Row 35 (hdf 2 rt)) 30)) := ⟨Blk.new w 30 rfl, only_alloc (only_refl _ _) _⟩
  have hu := Tryd.underlying28
  have hi28 : (Tryd.prog.info? 28).map (·.size) = some (Row 32 fun i => By (rt i)).toList.length := by rw [len32]; exact size28
  go_enter Tryd.func23, Tryd.ntmps23
  go_wp2_with fail
  generalize hW : World.alloc w _ = W at h0 ⊢
  clear hW
  generalize hG : w.heap.size = G at h0 ⊢
  go_region_held3 (fun W => W.cell? ⟨G, 0, none⟩ = some (.string ⟨#[97]⟩) ∧ W.cell? ⟨G, 1, none⟩ = some (.int .i64 2) ∧ W.cell? ⟨G, 2, none⟩ = some (.int .i64 0) ∧ W.rangeAt G 3 (Row 32 fun i => By (rt i)).toList ∧ HB G 2 rt w W)
    (first | exact HB.facts (HB.drew h0) | exact HB.facts (HB.next2 ‹Below _ _ _› (of5 (by assumption))))
    (first
     | (go_at_call 34; with_reducible refine (text_a _).mono ?_; rintro e w2 ⟨rfl, hb2⟩)
     | (go_at_call 34; with_reducible refine (text_r _ _).mono ?_; rintro e w2 ⟨rfl, hb2⟩)
     | (go_at_call 35; with_reducible refine (int_h _).mono ?_; rintro e w2 ⟨rfl, hb2⟩)
     | (go_at_call 35; with_reducible refine (int_t _).mono ?_; rintro e w2 ⟨rfl, hb2⟩)
     | (go_at_call 36; with_reducible refine (hashtext_list _ _).mono ?_; rintro e w2 ⟨rfl, hb2⟩))
  all_goals
    go_wp2_with fail
    go_ret
    exact ⟨rfl, below_of_only (HB.only5 (by assumption))⟩
end Go.Proofs.YtlfcaagogeclpaaDoor
