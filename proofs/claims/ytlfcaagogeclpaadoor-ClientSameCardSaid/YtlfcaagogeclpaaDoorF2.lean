/-
  Two writes and the sum: the hash of 64 bytes and of m bytes more; hash.Of with two texts.
-/
import Derived.Test.YtlfcaagogeclpaaDoorE2
import Derived.Test.YtlfcaagogeclpaaDoorF1
namespace Go.Proofs.YtlfcaagogeclpaaDoor
open Go.RowKit
theorem write1 (a : Nat → BitVec 8) (b : Nat) (w : World) (hb : Blk w b 88 74 (hs Sha.X0 (fun _ => 0) 0)) (hb1 : b ≠ 1) (hK : ∀ i, i < 64 → w.cell? ⟨1, i, none⟩ = some (U (Sha.K i))) :
    Calls Tryd.prog 45 #[.pointer (some ⟨b, 0, none⟩), .string (str 64 a)] w fun e w' => e = .returned (.tuple #[]) ∧ w.grownBy w' (some b) ∧ Blk w' b 88 74 (hs (Sha.comp Sha.K Sha.X0 a) (ins (fun _ => 0) 0 (str 64 a)) 64) := by
  refine (write_any b _ _ 0 (str 64 a) w hb hb1 hK (by rw [str_size]; omega) (by rw [str_size]; omega) (by omega)).mono ?_
  rintro e w2 ⟨h1, h2, h3⟩
  refine ⟨h1, h2, ?_⟩
  rw [wx_first, str_size] at h3
  exact h3
theorem write2 (x : Nat → BitVec 32) (c : Nat → BitVec 8) (m : Nat) (d : Nat → BitVec 8) (hm0 : 0 < m) (hm : m < 56) (b : Nat) (w : World) (hb : Blk w b 88 74 (hs x c 64)) (hb1 : b ≠ 1) (hK : ∀ i, i < 64 → w.cell? ⟨1, i, none⟩ = some (U (Sha.K i))) :
    Calls Tryd.prog 45 #[.pointer (some ⟨b, 0, none⟩), .string (str m d)] w fun e w' => e = .returned (.tuple #[]) ∧ w.grownBy w' (some b) ∧ Blk w' b 88 74 (hs x (ins c 0 (str m d)) (64 + m)) := by
  refine (write_any b _ _ 64 (str m d) w hb hb1 hK (by rw [str_size]; omega) (by rw [str_size]; omega) (by omega)).mono ?_
  rintro e w2 ⟨h1, h2, h3⟩
  refine ⟨h1, h2, ?_⟩
  rw [wx_second _ _ _ _ hm, str_size] at h3
  exact h3
theorem sum_DG (a : Nat → BitVec 8) (c : Nat → BitVec 8) (m : Nat) (d : Nat → BitVec 8) (hm : m < 56) (b : Nat) (w : World) (hb : Blk w b 88 74 (hs (Sha.comp Sha.K Sha.X0 a) (ins c 0 (str m d)) (64 + m))) (hb1 : 1 < b)
    (hK : ∀ i, i < 64 → w.cell? ⟨1, i, none⟩ = some (U (Sha.K i))) (hB : ∀ i, i < 8 → w.cell? ⟨0, i, none⟩ = some (U (Sha.X0 i))) :
    Calls Tryd.prog 48 #[.pointer (some ⟨b, 0, none⟩)] w fun e w' => e = .returned (.agg (Row 32 fun i => By (DG a m d i))) ∧ Below w.heap.size w w' := by
  refine (sum_any b _ _ (64 + m) w hb hb1 hK hB (by omega) (by omega)).mono ?_
  rintro e w2 ⟨h1, h2⟩
  rw [out_DG _ _ _ hm] at h1
  exact ⟨h1, h2⟩
end Go.Proofs.YtlfcaagogeclpaaDoor
