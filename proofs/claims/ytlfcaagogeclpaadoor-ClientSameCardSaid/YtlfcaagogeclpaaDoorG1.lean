/-
  tlv.Num, Int; client.Header of the example's headers.
-/
import Derived.Test.YtlfcaagogeclpaaDoorG0
import Derived.Test.YtlfcaagogeclpaaDoorF0
import Derived.Deep.RegionHeld3
namespace Go.Proofs.YtlfcaagogeclpaaDoor
open Go.RowKit
theorem num0 (l : BitVec 8) (w : World) : Calls Tryd.prog 50 #[By l, .int .u64 0] w fun e w' => e = .returned (.string (str 4 fun i => if i < 4 then hd l 0 i else 0)) ∧ Below w.heap.size w w' := by
  go_enter Tryd.func50, Tryd.ntmps50
  go_wp2_with fail
  refine (digits0 w).mono ?_
  rintro e w2 ⟨rfl, hb2⟩
  go_wp2_with fail
  refine (tlvtext_any l 0 _ (by omega) w2).mono ?_
  rintro e w3 ⟨rfl, hb3⟩
  go_wp2_with fail
  go_ret
  exact ⟨rfl, hb2.trans (hb3.mono hb2.size)⟩
theorem num2 (l : BitVec 8) (w : World) : Calls Tryd.prog 50 #[By l, .int .u64 2] w fun e w' => e = .returned (.string (str 5 fun i => if i < 4 then hd l 1 i else 2)) ∧ Below w.heap.size w w' := by
  go_enter Tryd.func50, Tryd.ntmps50
  go_wp2_with fail
  refine (digits2 w).mono ?_
  rintro e w2 ⟨rfl, hb2⟩
  go_wp2_with fail
  refine (tlvtext_any l 1 _ (by omega) w2).mono ?_
  rintro e w3 ⟨rfl, hb3⟩
  go_wp2_with fail
  go_ret
  exact ⟨rfl, hb2.trans (hb3.mono hb2.size)⟩
theorem int0 (l : BitVec 8) (w : World) : Calls Tryd.prog 35 #[By l, .int .i64 0] w fun e w' => e = .returned (.string (str 4 fun i => if i < 4 then hd l 0 i else 0)) ∧ Below w.heap.size w w' := by
  go_enter Tryd.func35, Tryd.ntmps35
  go_wp2_with fail
  refine (num0 l w).mono ?_
  rintro e w2 ⟨rfl, hb2⟩
  go_wp2_with fail
  go_ret
  exact ⟨rfl, hb2⟩
theorem int2 (l : BitVec 8) (w : World) : Calls Tryd.prog 35 #[By l, .int .i64 2] w fun e w' => e = .returned (.string (str 5 fun i => if i < 4 then hd l 1 i else 2)) ∧ Below w.heap.size w w' := by
  go_enter Tryd.func35, Tryd.ntmps35
  go_wp2_with fail
  refine (num2 l w).mono ?_
  rintro e w2 ⟨rfl, hb2⟩
  go_wp2_with fail
  go_ret
  exact ⟨rfl, hb2⟩
theorem letter_a : (⟨#[97]⟩ : ByteArray) = str 1 fun _ => 97 := by kernel_rfl
theorem text_a (w : World) : Calls Tryd.prog 34 #[.int .u8 99, .string ⟨#[97]⟩] w fun e w' => e = .returned (.string (str 5 fun i => if i < 4 then hd 99 1 i else 97)) ∧ Below w.heap.size w w' := by
  rw [letter_a]
  exact tlvtext_any 99 1 (fun _ => 97) (by omega) w
theorem tlvtext_n (l : BitVec 8) (v : Value) (hv : v = By l) (n N : Nat) (hN : 4 + n = N) (d : Nat → BitVec 8) (hn : n = 0 ∨ n = 1 ∨ n = 32) (w : World) : Calls Tryd.prog 34 #[v, .string (str n d)] w fun e w' => e = .returned (.string (str N fun i => if i < 4 then hd l n i else d (i - 4))) ∧ Below w.heap.size w w' := by
  subst hv; subst hN; exact tlvtext_any l n d hn w
theorem text_r (rt : Nat → BitVec 8) (w : World) : Calls Tryd.prog 34 #[.int .u8 114, .string (str 32 rt)] w fun e w' => e = .returned (.string (str 36 fun i => if i < 4 then hd 114 32 i else rt (i - 4))) ∧ Below w.heap.size w w' :=
  tlvtext_n 114 _ rfl 32 36 rfl rt (by omega) w
theorem int_h (w : World) : Calls Tryd.prog 35 #[.int .u8 104, .int .i64 2] w fun e w' => e = .returned (.string (str 5 fun i => if i < 4 then hd 104 1 i else 2)) ∧ Below w.heap.size w w' := int2 104 w
theorem int_t (w : World) : Calls Tryd.prog 35 #[.int .u8 116, .int .i64 0] w fun e w' => e = .returned (.string (str 4 fun i => if i < 4 then hd 116 0 i else 0)) ∧ Below w.heap.size w w' := int0 116 w
theorem hashtext_list (c : Nat → BitVec 8) (w : World) : Calls Tryd.prog 36 #[.agg (Row 32 fun i => By (c i)).toList.toArray] w fun e w' => e = .returned (.string (str 32 c)) ∧ Below w.heap.size w w' := by
  have h : (Row 32 fun i => By (c i)).toList.toArray = Row 32 fun i => By (c i) := Array.toArray_toList
  rw [h]; exact hashtext_any c w
/-- A header's cells: chain a, the height, time 0, the root. -/
def hdf (ht : Int) (rt : Nat → BitVec 8) (i : Nat) : Value := if i = 0 then .string ⟨#[97]⟩ else if i = 1 then .int .i64 ht else if i = 2 then .int .i64 0 else By (rt (i - 3))
def HB (g : Nat) (ht : Int) (rt : Nat → BitVec 8) (w W : World) : Prop := Blk W g 30 35 (hdf ht rt) ∧ w.grownBy W none
theorem HB.facts {g : Nat} {ht : Int} {rt : Nat → BitVec 8} {w W : World} (h : HB g ht rt w W) :
    W.cell? ⟨g, 0, none⟩ = some (.string ⟨#[97]⟩) ∧ W.cell? ⟨g, 1, none⟩ = some (.int .i64 ht) ∧ W.cell? ⟨g, 2, none⟩ = some (.int .i64 0) ∧ W.rangeAt g 3 (Row 32 fun i => By (rt i)).toList ∧ HB g ht rt w W := by
  refine ⟨h.1.cell (by omega), h.1.cell (by omega), h.1.cell (by omega), fun j v hv => ?_, h⟩
  rw [Array.getElem?_toList] at hv
  by_cases hj : j < 32
  · rw [Row_get hj] at hv
    injection hv with hv
    subst hv
    rw [h.1.cell (by omega)]
    unfold hdf
    rw [if_neg (by omega), if_neg (by omega), if_neg (by omega), show 3 + j - 3 = j by omega]
  · rw [Row_get_none (by omega)] at hv; cases hv
theorem HB.next {g : Nat} {ht : Int} {rt : Nat → BitVec 8} {w W W2 : World} (h : HB g ht rt w W) (hb : Below W.heap.size W W2) : HB g ht rt w W2 := ⟨h.1.below hb h.1.lt, only_next h.2 hb⟩
theorem of5 {A B C D E : Prop} (h : A ∧ B ∧ C ∧ D ∧ E) : E := h.2.2.2.2
theorem HB.next2 {g : Nat} {ht : Int} {rt : Nat → BitVec 8} {w W W2 : World} (hb : Below W.heap.size W W2) (h : HB g ht rt w W) : HB g ht rt w W2 := h.next hb
theorem HB.drew {g : Nat} {ht : Int} {rt : Nat → BitVec 8} {w W : World} (h : HB g ht rt w W) : HB g ht rt w W.drew := ⟨h.1, only_drew h.2⟩
theorem len32 (rt : Nat → BitVec 8) : (Row 32 fun i => By (rt i)).toList.length = 32 := by rw [Array.length_toList, Row_size]
end Go.Proofs.YtlfcaagogeclpaaDoor
