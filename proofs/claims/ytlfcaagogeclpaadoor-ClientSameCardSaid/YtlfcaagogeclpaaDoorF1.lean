/-
  Plain laws: a block's numbers hang on its 64 bytes alone; a message of 64 and m bytes, hashed.
-/
import Derived.Test.YtlfcaagogeclpaaDoorE1
namespace Go.Proofs.YtlfcaagogeclpaaDoor
theorem wd_congr {m m' : Nat → BitVec 32} (h : ∀ i, i < 16 → m i = m' i) : ∀ i, Sha.wd m i = Sha.wd m' i := by
  intro i
  induction i using Nat.strongRecOn with
  | _ i ih =>
    by_cases hi : i < 16
    · rw [Sha.wd_lt m hi, Sha.wd_lt m' hi, h i hi]
    · rw [Sha.wd_ge m (by omega), Sha.wd_ge m' (by omega), ih (i - 16) (by omega), ih (i - 15) (by omega), ih (i - 7) (by omega), ih (i - 2) (by omega)]
theorem rounds_congr {K m m' : Nat → BitVec 32} {y : Nat → BitVec 32} (h : ∀ i, i < 16 → m i = m' i) : ∀ i, Sha.rounds K m y i = Sha.rounds K m' y i
  | 0 => rfl
  | i + 1 => by
    show Sha.rnd _ _ _ = Sha.rnd _ _ _
    rw [rounds_congr h i, wd_congr h i]
theorem comp_congr {K x : Nat → BitVec 32} {c d : Nat → BitVec 8} (h : ∀ i, i < 64 → c i = d i) : Sha.comp K x c = Sha.comp K x d := by
  have hb : ∀ i, i < 16 → Sha.be c i = Sha.be d i := fun i hi => by
    unfold Sha.be
    rw [h _ (by omega), h _ (by omega), h _ (by omega), h _ (by omega)]
  funext i
  show x i + _ = x i + _
  rw [rounds_congr hb]
/-- The second block: m bytes, the mark, the length. -/
def padded (m : Nat) (d : Nat → BitVec 8) (i : Nat) : BitVec 8 := if i < m then d i else if i = m then 128 else if i < 56 then 0 else lenb (64 + m) (i - 56)
/-- The hash of 64 bytes and m bytes. -/
def DG (a : Nat → BitVec 8) (m : Nat) (d : Nat → BitVec 8) : Nat → BitVec 8 := Sha.out (Sha.comp Sha.K (Sha.comp Sha.K Sha.X0 a) (padded m d))
theorem DG_congr {a a' d d' : Nat → BitVec 8} {m : Nat} (ha : ∀ i, i < 64 → a i = a' i) (hd : ∀ i, i < m → d i = d' i) : DG a m d = DG a' m d' := by
  unfold DG
  rw [comp_congr ha, comp_congr (d := padded m d') fun i _ => ?_]
  unfold padded
  by_cases h : i < m
  · rw [if_pos h, if_pos h, hd i h]
  · rw [if_neg h, if_neg h]
theorem wx_first (x : Nat → BitVec 32) (c a : Nat → BitVec 8) : wx x c 0 (str 64 a) = Sha.comp Sha.K x a := by
  unfold wx
  rw [if_pos (by rw [str_size])]
  refine comp_congr fun i hi => ?_
  unfold ins
  rw [if_pos (by rw [str_size]; omega), sb_str (by omega)]; rfl
theorem wx_second (x : Nat → BitVec 32) (c d : Nat → BitVec 8) (m : Nat) (hm : m < 56) : wx x c 64 (str m d) = x := by
  unfold wx
  rw [if_neg (by rw [str_size]; omega)]
theorem wx_end (x : Nat → BitVec 32) (c d : Nat → BitVec 8) (m : Nat) (hm : m < 56) : wx x (ins c 0 (str m d)) (64 + m) (pad (64 + m)) = Sha.comp Sha.K x (padded m d) := by
  unfold wx
  have hz : (pad (64 + m)).size = 64 - m := by rw [pad_size (by omega)]; omega
  rw [if_pos (by rw [hz]; omega)]
  refine comp_congr fun i hi => ?_
  have h64 : (64 + m) % 64 = m := by omega
  unfold padded ins
  rw [hz, h64]
  by_cases h1 : i < m
  · rw [if_neg (by omega), if_pos (by rw [str_size]; omega), sb_str (by omega), if_pos h1]; rfl
  · rw [if_pos (by omega), if_neg h1]; unfold pad; rw [sb_str (by omega), h64]
    by_cases h2 : i = m
    · subst h2; rw [if_pos (by omega), if_pos (by omega), if_pos rfl]; rfl
    · rw [if_neg h2]
      by_cases h3 : i < 56
      · rw [if_pos (by omega), if_neg (by omega), if_pos h3]; rfl
      · rw [if_neg (by omega), if_neg h3]; congr 1; omega
theorem out_DG (a d : Nat → BitVec 8) (m : Nat) (hm : m < 56) (c : Nat → BitVec 8) : Sha.out (wx (Sha.comp Sha.K Sha.X0 a) (ins c 0 (str m d)) (64 + m) (pad (64 + m))) = DG a m d := by
  rw [wx_end _ _ _ _ hm]; rfl
end Go.Proofs.YtlfcaagogeclpaaDoor
