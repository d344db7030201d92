/-
  twinspanref03.Of with the key of the example.
-/
import Derived.Test.YtlfcaagogeclpaaDoorH5
import Derived.Test.YtlfcaagogeclpaaDoorH4
import Derived.Test.YtlfcaagogeclpaaDoorH1
import Derived.Test.YtlfcaagogeclpaaDoorG1
import Derived.Test.YtlfcaagogeclpaaDoorF6
import Derived.Deep.RegionHeld3
set_option linter.unusedSimpArgs false
set_option linter.unusedVariables false
namespace Go.Proofs.YtlfcaagogeclpaaDoor
open Go.RowKit
structure PI (w : World) (s : ByteArray) (v5 v6 : Value) (k : Nat) (wr : World) : Prop where
  b5 : BS (w.heap.size + 1) wr v5 k (fun i => keyb s i ^^^ 54)
  b6 : BS (w.heap.size + 1) wr v6 k (fun i => keyb s i ^^^ 92)
  ap : Apart v5 v6
  below : Below w.heap.size w wr
  size : w.heap.size + 1 ≤ wr.heap.size
  res : Blk wr w.heap.size 28 32 (fun _ => By 0)
theorem PI.step {w : World} {s : ByteArray} {v5 v6 : Value} {k : Nat} {wr : World} (h : PI w s v5 v6 k wr) (hk : k < 64) (u1 u2 : Value) (h1 : u1 = By (keyb s k ^^^ 54)) (h2 : u2 = By (keyb s k ^^^ 92)) :
    ∃ v5' w1 v6' w2, (Builtin.append_ #[55, 55] 55 #[v5, .slice (some ⟨wr.heap.size, 0, none⟩) 1 1]).run Tryd.prog (wr.alloc (.cells #[u1] 5)) = .ok v5' w1 ∧
      (Builtin.append_ #[55, 55] 55 #[v6, .slice (some ⟨w1.heap.size, 0, none⟩) 1 1]).run Tryd.prog (w1.alloc (.cells #[u2] 5)) = .ok v6' w2 ∧ PI w s v5' v6' (k + 1) w2 := by
  have hsz := h.size
  have b5a := h.b5.next (only_alloc (only_refl wr none) (.cells #[u1] 5))
  have b6a := h.b6.next (only_alloc (only_refl wr none) (.cells #[u1] 5))
  obtain ⟨v5', w1, r1, c5, e1, g1, o1⟩ := b5a.append2 55 (by simp; omega) wr.heap.size _ (byte_cell wr _ _ h1) (by omega)
  have b6b := b6a.nextA g1 (fun g hg e => h.ap g e.symm hg)
  have ap1 : Apart v5' v6 := fun g hg hg6 => by
    rcases o1 g hg with h' | h'
    · exact h.ap g h' hg6
    · have := h.b6.lt hg6; simp at h'; omega
  have sz1 : w.heap.size + 1 ≤ w1.heap.size := by have := e1.size; simp at this; omega
  have b5c := c5.next (only_alloc (only_refl w1 none) (.cells #[u2] 5))
  have b6c := b6b.next (only_alloc (only_refl w1 none) (.cells #[u2] 5))
  obtain ⟨v6', w2, r2, c6, e2, g2, o2⟩ := b6c.append2 55 (by simp; omega) w1.heap.size _ (byte_cell w1 _ _ h2) (by omega)
  have b5d := b5c.nextA g2 (fun g hg e => ap1 g hg e.symm)
  have ap2 : Apart v5' v6' := fun g hg hg6 => by
    rcases o2 g hg6 with h' | h'
    · exact ap1 g hg h'
    · have := c5.lt hg; simp at h'; omega
  have hup : ∀ (d : BitVec 8) (i : Nat), upd (fun i => keyb s i ^^^ d) k (keyb s k ^^^ d) i = keyb s i ^^^ d := fun d i => by
    unfold upd
    by_cases e : i = k
    · subst e; rw [if_pos rfl]
    · rw [if_neg e]
  have hB : Below (w.heap.size + 1) wr w2 := (((below_of_only (only_alloc (only_refl wr none) (.cells #[u1] 5))).mono hsz).trans e1).trans (((below_of_only (only_alloc (only_refl w1 none) (.cells #[u2] 5))).mono sz1).trans e2)
  exact ⟨v5', w1, v6', w2, r1, r2, b5d.congr fun i _ => hup 54 i, c6.congr fun i _ => hup 92 i, ap2, h.below.trans (hB.mono (by omega)), Nat.le_trans hsz hB.size, h.res.below hB (by omega)⟩
theorem quick2 (a : Nat → BitVec 8) (m N : Nat) (hN : 64 + m = N) (d : Nat → BitVec 8) (hm0 : 0 < m) (hm : m < 56) (w : World) : Calls Tryd.prog 28 #[.string (str N fun i => if i < 64 then a i else d (i - 64))] w fun e w' => e = .returned (.agg (Row 32 fun i => By (DG a m d i))) ∧ Below w.heap.size w w' := by
  subst hN
  refine (quick_any (64 + m) (120 - (64 + m) - 1) _ (str_size _ _) (by omega) (by omega) w).mono ?_
  rintro e w' ⟨rfl, hb⟩
  refine ⟨?_, hb⟩
  rw [show 64 + m - 64 = m by omega, DG_congr (a := sb (str (64 + m) fun i => if i < 64 then a i else d (i - 64))) (a' := a) (d := fun i => sb (str (64 + m) fun i => if i < 64 then a i else d (i - 64)) (64 + i)) (d' := d) (fun i hi => by rw [sb_str (by omega), if_pos hi]) (fun i hi => by rw [sb_str (by omega), if_neg (by omega), show 64 + i - 64 = i by omega])]
theorem bs_ge {base : Nat} {w : World} {v : Value} {n : Nat} {c : Nat → BitVec 8} (h : BS base w v n c) {g : Nat} (hg : v.ownBlock = some g) : base ≤ g := by
  rcases h with ⟨rfl, _⟩ | ⟨g', cap, rfl, h2, h3, _⟩
  · cases hg
  · simp only [Value.ownBlock, Option.some.injEq] at hg; omega
theorem only_setCells {a : World} {row : Option Nat} {b : Nat} (hp : some b = row ∨ a.heap.size ≤ b) : ∀ (vs : List Value) (o : Nat) (W : World), a.grownBy W row → a.grownBy (W.setCells b o vs) row
  | [], _, _, h => h
  | v :: r, o, W, h => only_setCells hp r (o + 1) _ (only_setCell h hp v)
theorem blk_setCells {b t n : Nat} : ∀ (vs : List Value) (o : Nat) (W : World) (g : Nat → Value), Blk W b t n g → ∃ g', Blk (W.setCells b o vs) b t n g'
  | [], _, _, g, h => ⟨g, h⟩
  | v :: r, o, W, g, h => blk_setCells r (o + 1) _ _ (h.set_ o v)
def HQ (w : World) (u5 u6 : Value) (kI kO : Nat → BitVec 8) (W : World) : Prop := BS (w.heap.size + 1) W u5 64 kI ∧ BS (w.heap.size + 1) W u6 64 kO ∧ (∃ gr, Blk W w.heap.size 28 32 gr) ∧ Below w.heap.size w W ∧ w.heap.size + 1 ≤ W.heap.size
theorem HQ.next {w : World} {u5 u6 : Value} {kI kO : Nat → BitVec 8} {W W2 : World} (h : HQ w u5 u6 kI kO W) (hb : W.grownBy W2 none) : HQ w u5 u6 kI kO W2 := by
  obtain ⟨h1, h2, ⟨gr, h3⟩, h4, h5⟩ := h
  exact ⟨h1.next hb, h2.next hb, ⟨gr, h3.grown hb (by simp)⟩, h4.trans ((below_of_only hb).mono (by omega)), Nat.le_trans h5 hb.size⟩
theorem HQ.next2 {w : World} {u5 u6 : Value} {kI kO : Nat → BitVec 8} {W W2 : World} (hb : Below W.heap.size W W2) (h : HQ w u5 u6 kI kO W) : HQ w u5 u6 kI kO W2 := h.next (only_of_below hb none)
theorem HQ.stored {w : World} {u5 u6 : Value} {kI kO : Nat → BitVec 8} {W : World} (L : List Value) (h : HQ w u5 u6 kI kO W) : HQ w u5 u6 kI kO (W.setCells w.heap.size 0 L) := by
  obtain ⟨h1, h2, ⟨gr, h3⟩, h4, h5⟩ := h
  have ho := only_setCells (a := W) (row := some w.heap.size) (.inl rfl) L 0 W (only_refl _ _)
  exact ⟨h1.nextA ho (fun g hg e => by have := bs_ge h1 hg; injection e; omega), h2.nextA ho (fun g hg e => by have := bs_ge h2 hg; injection e; omega), blk_setCells L 0 W gr h3,
    below_of_only (only_setCells (.inr (Nat.le_refl _)) L 0 W (only_of_below h4 none)), Nat.le_trans h5 ho.size⟩
theorem HQ.facts {w : World} {u5 u6 : Value} {kI kO : Nat → BitVec 8} {W : World} (h : HQ w u5 u6 kI kO W) :
    (convert 55 9 u6).run Tryd.prog W = .ok (.string (str 64 kO)) W ∧ (convert 55 9 u5).run Tryd.prog W = .ok (.string (str 64 kI)) W ∧ W.there w.heap.size 0 32 ∧ HQ w u5 u6 kI kO W := by
  refine ⟨h.2.1.text, h.1.text, fun j hj => ?_, h⟩
  obtain ⟨gr, h3⟩ := h.2.2.1
  rw [Nat.zero_add]
  exact ⟨by rw [h3.cell hj]; rfl, h3.free j⟩
theorem of4 {A B C D : Prop} (h : A ∧ B ∧ C ∧ D) : D := h.2.2.2
theorem HQ.result {w : World} {u5 u6 : Value} {kI kO : Nat → BitVec 8} {W : World} (h : HQ w u5 u6 kI kO W) (c : Nat → BitVec 8) : Blk (W.setCells w.heap.size 0 (Row 32 fun i => By (c i)).toList) w.heap.size 28 32 (fun i => By (c i)) := by
  obtain ⟨gr, h3⟩ := h.2.2.1
  obtain ⟨g', h4⟩ := blk_setCells (Row 32 fun i => By (c i)).toList 0 W gr h3
  refine h4.congr fun i hi => ?_
  have h5 := World.rangeAt_setCells_same W w.heap.size 0 (Row 32 fun i => By (c i)).toList (by rw [len32]; exact (HQ.facts h).2.2.1) i (By (c i)) (by rw [Array.getElem?_toList, Row_get hi])
  rw [Nat.zero_add, h4.cell hi] at h5
  injection h5
theorem keyb_0 : keyb ⟨#[107]⟩ 0 = 107 := by decide
theorem keyb_n {k : Nat} (h : 0 < k) : keyb ⟨#[107]⟩ k = 0 := by unfold keyb; rw [if_neg (by show ¬ k < 1; omega)]
set_option maxRecDepth 100000 in
set_option maxHeartbeats 2000000 in
theorem refof_any (m : Nat) (d : Nat → BitVec 8) (hm0 : 0 < m) (hm : m < 56) (w : World) : Calls Tryd.prog 17 #[.string ⟨#[107]⟩, .string (str m d)] w fun e w' => e = .returned (.agg (Row 32 fun i => By (SL (keyb ⟨#[107]⟩) m d i))) ∧ Below w.heap.size w w' := by
  have hr0 := Blk.new w 28 zeros32b
  have hw0 := only_alloc (only_refl w none) (.cells (Row 32 fun _ => By 0) 28)
  rw [← zeros32b] at hw0
  have hp0 : PI w ⟨#[107]⟩ (.slice none 0 0) (.slice none 0 0) 0 _ := ⟨BS.nil _ _ _, BS.nil _ _ _, (fun g hg => by cases hg), below_of_only hw0, by simp, hr0⟩
  clear hr0 hw0
  go_enter Tryd.func17, Tryd.ntmps17
  go_wp2_with fail
  generalize World.alloc w _ = W at hp0 ⊢
  go_loopw [5, 6, 7] (fun v5 v6 i wr => ∃ k : Nat, k ≤ 64 ∧ i = .int .i64 k ∧ PI w ⟨#[107]⟩ v5 v6 k wr) (fun _ _ i _ => 64 - (intOf i).toNat)
  case atStart => exact ⟨0, by omega, rfl, hp0⟩
  case round =>
    clear hp0
    obtain ⟨k, hk, rfl, hp⟩ := hrel
    by_cases hkt : k < 64
    · by_cases hk0 : k = 0
      · subst hk0
        obtain ⟨v5', w1, v6', w2, r1, r2, hp'⟩ := hp.step (by omega) (.int .u8 93) (.int .u8 55) (by rw [keyb_0]; rfl) (by rw [keyb_0]; rfl)
        go_wp2_with (first
          | (at_builtin; refine Lib.wpList_append_run _ rfl (.tmp 26) (.tmp 29) 55 55 rfl _ _ rfl rfl _ _ r1 ?_)
          | (at_builtin; refine Lib.wpList_append_run _ rfl (.tmp 31) (.tmp 34) 55 55 rfl _ _ rfl rfl _ _ r2 ?_))
        go_roundw
        case rel => exact ⟨1, by omega, by go_num, hp'⟩
        case measure => simp [intOf]
      · obtain ⟨v5', w1, v6', w2, r1, r2, hp'⟩ := hp.step (by omega) (.int .u8 54) (.int .u8 92) (by rw [keyb_n (by omega)]; rfl) (by rw [keyb_n (by omega)]; rfl)
        have hk1 : ¬ ((k : Int) < 1) := by omega
        go_wp2_with (first
          | (at_builtin; refine Lib.wpList_append_run _ rfl (.tmp 26) (.tmp 29) 55 55 rfl _ _ rfl rfl _ _ r1 ?_)
          | (at_builtin; refine Lib.wpList_append_run _ rfl (.tmp 31) (.tmp 34) 55 55 rfl _ _ rfl rfl _ _ r2 ?_))
        go_roundw
        case rel => exact ⟨k + 1, by omega, by go_num, hp'⟩
        case measure => simp [intOf]; omega
    · obtain rfl : k = 64 := by omega
      go_wp2_with fail
      obtain ⟨b5, b6, _, hbl, hsz, hres⟩ := hp
      obtain ⟨kI, hkI⟩ : ∃ f : Nat → BitVec 8, f = fun i => keyb ⟨#[107]⟩ i ^^^ 54 := ⟨_, rfl⟩
      obtain ⟨kO, hkO⟩ : ∃ f : Nat → BitVec 8, f = fun i => keyb ⟨#[107]⟩ i ^^^ 92 := ⟨_, rfl⟩
      obtain ⟨c1, hc1⟩ : ∃ f, f = DG kI m d := ⟨_, rfl⟩
      obtain ⟨c2, hc2⟩ : ∃ f, f = DG kO 32 c1 := ⟨_, rfl⟩
      rw [← hkI] at b5
      rw [← hkO] at b6
      have q1 : ∀ W, Calls Tryd.prog 28 #[.string (str (64 + m) fun i => if i < 64 then kI i else d (i - 64))] W fun e w' => e = .returned (.agg (Row 32 fun i => By (c1 i))) ∧ Below W.heap.size W w' := by rw [hc1]; exact fun W => quick2 kI m _ rfl d hm0 hm W
      obtain ⟨L2, hL2⟩ : ∃ L : List Value, L = (Row 32 fun i => By (c2 i)).toList := ⟨_, rfl⟩
      have hlen : L2.length = 32 := by rw [hL2]; exact len32 c2
      have hone : ∀ v ∈ L2, v.oneCell' = true := by
        rw [hL2]; intro v hv
        obtain ⟨i, _, rfl⟩ := Row_mem hv
        rfl
      have hi28 : (Tryd.prog.info? 28).map (·.size) = some L2.length := by rw [hlen]; exact size28
      have q2 : ∀ W, Calls Tryd.prog 28 #[.string (str 96 fun i => if i < 64 then kO i else c1 (i - 64))] W fun e w' => e = .returned (.agg (List.toArray L2)) ∧ Below W.heap.size W w' := by
        have h : (Row 32 fun i => By (c2 i)).toList.toArray = Row 32 fun i => By (c2 i) := Array.toArray_toList
        rw [hL2, h, hc2]; exact fun W => quick2 kO 32 _ rfl c1 (by omega) (by omega) W
      have q3 := reftext_any c1
      have le1 : 64 + m ≤ 9223372036854775807 := by omega
      have HH : HQ w u5 u6 kI kO wr := ⟨b5, b6, ⟨_, hres⟩, hbl, hsz⟩
      have HF := Lib.hid (And.intro hkI (And.intro hkO (And.intro hc1 (And.intro hc2 hL2))))
      clear b5 b6 hbl hsz hres hkI hkO hc1 hc2 hkt hk hL2
      go_region_held3 (fun W => (convert 55 9 u6).run Tryd.prog W = .ok (.string (str 64 kO)) W ∧ (convert 55 9 u5).run Tryd.prog W = .ok (.string (str 64 kI)) W ∧ W.there w.heap.size 0 32 ∧ HQ w u5 u6 kI kO W)
        (first | exact HQ.facts (HQ.next HH (only_drew (only_refl _ _))) | exact HQ.facts (HQ.next2 ‹Below _ _ _› (of4 (by assumption))) | exact HQ.facts (HQ.stored _ (of4 (by assumption))))
        (first
        | (go_at_call 28; with_reducible refine (q1 _).mono ?_; rintro e w2 ⟨rfl, hb2⟩)
        | (go_at_call 27; with_reducible refine (q3 _).mono ?_; rintro e w3 ⟨rfl, hb3⟩)
        | (go_at_call 28; with_reducible refine (q2 _).mono ?_; rintro e w4 ⟨rfl, hb4⟩))
      have hq := HQ.next2 hb4 (HQ.next2 hb3 (HQ.next2 hb2 (HH.next (only_drew (only_refl wr none)))))
      obtain ⟨hkI, hkO, hc1, hc2, hL2⟩ := HF.out
      have hres := hq.result c2
      have hfin := (hq.stored L2).2.2.2.1
      rw [← hL2] at hres
      clear HF hlen hone hi28 q1 q2 q3
      go_wp2_with fail
      have hSL : SL (keyb ⟨#[107]⟩) m d = c2 := by rw [hc2, hc1, hkI, hkO]; rfl
      rw [hSL]
      exact bodyPost_ret (results_blk rfl _ _ w.heap.size 28 32 _ rfl hres _ Tryd.underlying28 rfl size28) rfl ⟨rfl, hfin⟩
end Go.Proofs.YtlfcaagogeclpaaDoor
