/-
  slices.Equal of two slices of states.
-/
import Derived.Test.YtlfcaagogeclpaaDoorK0
import Derived.Test.YtlfcaagogeclpaaDoorLL
set_option linter.unusedSimpArgs false
set_option linter.unusedVariables false
namespace Go.Proofs.YtlfcaagogeclpaaDoor
open Go.RowKit
/-- A state as numbers: its height, its time, its root's bytes. -/
structure Stt where
  h : Int
  t : Int
  r : Nat → Int
def Stt.f (s : Stt) : Nat → Value := stf s.h s.t s.r
/-- The two are equal. -/
def Stt.eq (a b : Stt) : Bool := a.h == b.h && (a.t == b.t && (List.range 32).all fun i => a.r i == b.r i)
/-- n states s lie in block g from o on. -/
def SG (w : World) (g o n : Nat) (s : Nat → Stt) : Prop := ∀ j, j < n → ∀ i, i < 34 → w.cell? ⟨g, o + j * 34 + i, none⟩ = some ((s j).f i)
theorem neq_state (a b : Stt) (w : World) : (binOp .neq 37 (.agg (Row 34 a.f)) (.agg (Row 34 b.f))).run Tryd.prog w = .ok (.bool (!(a.eq b))) w := by
  rw [run_neq_struct]
  have := eq_state 9997 a.h a.t b.h b.t a.r b.r w
  unfold Stt.f
  rw [this]
  rfl
theorem Stt.eq_symm (a b : Stt) : a.eq b = b.eq a := by
  unfold Stt.eq
  have e : ∀ x y : Int, (x == y) = (y == x) := fun x y => by rw [Bool.eq_iff_iff]; simp only [beq_iff_eq]; exact ⟨Eq.symm, Eq.symm⟩
  rw [e a.h, e a.t]
  congr 2
  exact congrArg _ (funext fun i => e _ _)
theorem Stt.eq_self (a : Stt) : a.eq a = true := by simp [Stt.eq]
/-- The first k of the two are equal. -/
def eqTo (a b : Nat → Stt) (k : Nat) : Bool := (List.range k).all fun j => (a j).eq (b j)
/-- v is a slice of the n states s, nil or not. -/
def SV (w : World) (a : Option Addr) (n : Nat) (s : Nat → Stt) : Prop := n = 0 ∨ ∃ g o, a = some ⟨g, o, none⟩ ∧ SG w g o n s
theorem SG.next {w W : World} {g o n : Nat} {s : Nat → Stt} (h : SG w g o n s) (hb : w.grownBy W none) : SG W g o n s := fun j hj i hi => only_cell hb (h j hj i hi)
theorem SV.next {w W : World} {a : Option Addr} {n : Nat} {s : Nat → Stt} (h : SV w a n s) (hb : w.grownBy W none) : SV W a n s := by
  rcases h with h | ⟨g, o, rfl, h⟩
  · exact .inl h
  · exact .inr ⟨g, o, rfl, h.next hb⟩
theorem SG.range {w : World} {g o n : Nat} {s : Nat → Stt} (h : SG w g o n s) {k : Nat} (hk : k < n) : w.rangeAt g (o + k * 34) (Row 34 (s k).f).toList := fun j v hv => by
  rw [Array.getElem?_toList] at hv
  by_cases hj : j < 34
  · rw [Row_get hj] at hv
    injection hv with hv
    subst hv
    exact h k hk j hj
  · rw [Row_get_none (by omega)] at hv; cases hv
theorem eqTo_false {a b : Nat → Stt} {k n : Nat} (hk : k < n) (h : (a k).eq (b k) = false) : eqTo a b n = false := by
  unfold eqTo
  rw [List.all_eq_false]
  exact ⟨k, List.mem_range.2 hk, by rw [h]; simp⟩
theorem eqTo_succ {a b : Nat → Stt} {k : Nat} (h : eqTo a b k = true) (h2 : (a k).eq (b k) = true) : eqTo a b (k + 1) = true := by
  unfold eqTo at *
  rw [List.range_succ, List.all_append, h]
  simp [h2]
def RR2 (g1 o1 g2 o2 : Nat) (f g : Nat → Value) (W : World) : Prop := W.rangeAt g1 o1 (Row 34 f).toList ∧ W.rangeAt g2 o2 (Row 34 g).toList
set_option maxRecDepth 100000 in
set_option maxHeartbeats 1000000 in
theorem equal_any (a1 a2 : Option Addr) (n1 c1 n2 c2 : Nat) (s1 s2 : Nat → Stt) (w : World) (h1 : SV w a1 n1 s1) (h2 : SV w a2 n2 s2) (hbd : n1 ≤ 1000) :
    Calls Tryd.prog 10 #[.slice a1 n1 c1, .slice a2 n2 c2] w fun e w' => e = .returned (.bool (n1 == n2 && eqTo s1 s2 n1)) ∧ Below w.heap.size w w' := by
  by_cases hn : n1 = n2
  · subst hn
    have hne : ((n1 : Int) != (n1 : Int)) = false := by simp
    go_enter Tryd.func10, Tryd.ntmps10
    go_wp2_with fail
    go_loopw [13] (fun i wr => ∃ k : Nat, k ≤ n1 ∧ i = .int .i64 k ∧ eqTo s1 s2 k = true ∧ w.grownBy wr none) (fun i _ => n1 - (intOf i).toNat)
    case atStart => exact ⟨0, by omega, rfl, rfl, only_refl _ _⟩
    case round =>
      obtain ⟨k, hk, rfl, he, hw⟩ := hrel
      by_cases hkt : k < n1
      · obtain h1 | ⟨g1, o1, rfl, h1⟩ := h1
        · omega
        obtain h2 | ⟨g2, o2, rfl, h2⟩ := h2
        · omega
        have ra := ((h1.next hw).next (only_drew (only_refl _ none))).range hkt
        have rb := ((h2.next hw).next (only_drew (only_refl _ none))).range hkt
        have hk0 : (0 : Int) ≤ (k : Int) := by omega
        have hkn : (k : Int) < (n1 : Int) := by omega
        go_wp2_with fail
        refine wp_region_held_drew (S := RR2 g1 (o1 + k * 34) g2 (o2 + k * 34) (s1 k).f (s2 k).f) (by kernel_rfl) ⟨ra, rb⟩ (fun hHeld => ?_)
        refine wpAnyH_take (i := 0) (v := ?_) rfl (by kernel_rfl) (by kernel_rfl) (by kernel_rfl) (fun _ _ _ h => h) (Or.inl ⟨by kernel_rfl, ?_⟩) (by assumption) ?_
        rotate_left
        · intro w hSw; (try dsimp only at hSw); go_simp; try with_reducible rfl
        try simp only [Act.put, List.getElem_toArray, List.getElem_cons_succ, List.getElem_cons_zero, List.setIfInBounds_toArray, List.set_cons_zero, List.set_cons_succ]
        refine wpAnyH_take (i := 1) (v := ?_) rfl (by kernel_rfl) (by kernel_rfl) (by kernel_rfl) (fun _ _ _ h => h) (Or.inl ⟨by kernel_rfl, ?_⟩) (by assumption) ?_
        rotate_left
        · intro w hSw; (try dsimp only at hSw); go_simp; try with_reducible rfl
        try simp only [Act.put, List.getElem_toArray, List.getElem_cons_succ, List.getElem_cons_zero, List.setIfInBounds_toArray, List.set_cons_zero, List.set_cons_succ]
        refine wpAnyH_take (i := 2) (v := ?_) rfl (by kernel_rfl) (by kernel_rfl) (by kernel_rfl) (fun _ _ _ h => h) (Or.inl ⟨by kernel_rfl, ?_⟩) (by assumption) ?_
        rotate_left
        · intro w hSw; (try dsimp only at hSw); go_simp; try with_reducible rfl
        try simp only [Act.put, List.getElem_toArray, List.getElem_cons_succ, List.getElem_cons_zero, List.setIfInBounds_toArray, List.set_cons_zero, List.set_cons_succ]
        refine wpAnyH_take (i := 3) rfl (by kernel_rfl) (by kernel_rfl) (by kernel_rfl) (fun _ _ _ h => h) (yields_row (by kernel_rfl) 37 (.tmp 18) rfl g1 (o1 + k * 34) 34 (s1 k).f rfl _ (fun W h => h.1) Tryd.underlying37 rfl size37) (by assumption) ?_
        try simp only [Act.put, List.getElem_toArray, List.getElem_cons_succ, List.getElem_cons_zero, List.setIfInBounds_toArray, List.set_cons_zero, List.set_cons_succ]
        refine wpAnyH_take (i := 4) (v := ?_) rfl (by kernel_rfl) (by kernel_rfl) (by kernel_rfl) (fun _ _ _ h => h) (Or.inl ⟨by kernel_rfl, ?_⟩) (by assumption) ?_
        rotate_left
        · intro w hSw; (try dsimp only at hSw); go_simp; try with_reducible rfl
        try simp only [Act.put, List.getElem_toArray, List.getElem_cons_succ, List.getElem_cons_zero, List.setIfInBounds_toArray, List.set_cons_zero, List.set_cons_succ]
        refine wpAnyH_take (i := 5) (v := ?_) rfl (by kernel_rfl) (by kernel_rfl) (by kernel_rfl) (fun _ _ _ h => h) (Or.inl ⟨by kernel_rfl, ?_⟩) (by assumption) ?_
        rotate_left
        · intro w hSw; (try dsimp only at hSw); go_simp; try with_reducible rfl
        try simp only [Act.put, List.getElem_toArray, List.getElem_cons_succ, List.getElem_cons_zero, List.setIfInBounds_toArray, List.set_cons_zero, List.set_cons_succ]
        refine wpAnyH_take (i := 6) (v := ?_) rfl (by kernel_rfl) (by kernel_rfl) (by kernel_rfl) (fun _ _ _ h => h) (Or.inl ⟨by kernel_rfl, ?_⟩) (by assumption) ?_
        rotate_left
        · intro w hSw; (try dsimp only at hSw); go_simp; try with_reducible rfl
        try simp only [Act.put, List.getElem_toArray, List.getElem_cons_succ, List.getElem_cons_zero, List.setIfInBounds_toArray, List.set_cons_zero, List.set_cons_succ]
        refine wpAnyH_take (i := 7) rfl (by kernel_rfl) (by kernel_rfl) (by kernel_rfl) (fun _ _ _ h => h) (yields_row (by kernel_rfl) 37 (.tmp 22) rfl g2 (o2 + k * 34) 34 (s2 k).f rfl _ (fun W h => h.2) Tryd.underlying37 rfl size37) (by assumption) ?_
        try simp only [Act.put, List.getElem_toArray, List.getElem_cons_succ, List.getElem_cons_zero, List.setIfInBounds_toArray, List.set_cons_zero, List.set_cons_succ]
        refine wpAnyH_take (i := 8) rfl (by kernel_rfl) (by kernel_rfl) (by kernel_rfl) (fun _ _ _ h => h) (yields_agg_bin (by kernel_rfl) .neq 37 37 _ _ rfl _ _ rfl rfl guard37 (.bool (!((s1 k).eq (s2 k)))) (fun W => neq_state (s1 k) (s2 k) W)) (by assumption) ?_
        try simp only [Act.put, List.getElem_toArray, List.getElem_cons_succ, List.getElem_cons_zero, List.setIfInBounds_toArray, List.set_cons_zero, List.set_cons_succ]
        refine wpAnyH_done (by kernel_rfl) ?_ _
        clear hHeld ra rb
        cases hE : (s1 k).eq (s2 k)
        · have hF := Lib.hid (eqTo_false hkt hE)
          clear hE he
          go_wp2_with fail
          go_ret
          exact ⟨by rw [hF.out]; simp, below_of_only (only_drew hw)⟩
        · have hT := Lib.hid (eqTo_succ he hE)
          clear hE he
          go_wp2_with fail
          go_roundw
          case rel => exact ⟨k + 1, by omega, by go_num, hT.out, only_drew hw⟩
          case measure => simp [intOf]; omega
      · obtain rfl : k = n1 := by omega
        go_wp2_with fail
        go_ret
        exact ⟨by rw [he]; simp, below_of_only hw⟩
  · have hne : ((n1 : Int) != (n2 : Int)) = true := by rw [bne_iff_ne]; omega
    have hb : (n1 == n2) = false := by simpa using hn
    go_enter Tryd.func10, Tryd.ntmps10
    go_wp2_with fail
    go_ret
    exact ⟨by rw [hb]; rfl, Below.refl _ _⟩
end Go.Proofs.YtlfcaagogeclpaaDoor
/-
  client.Same of any two clients.
-/
namespace Go.Proofs.YtlfcaagogeclpaaDoor
open Go.RowKit
/-- A client: chain, key, period, frozen; its slice; the states in it. -/
structure Cl where
  ch : ByteArray
  ky : ByteArray
  pd : Int
  fz : Bool
  a : Option Addr
  n : Nat
  c : Nat
  s : Nat → Stt
def Cl.v (x : Cl) : Value := .agg #[.string x.ch, .string x.ky, .int .i64 x.pd, .bool x.fz, .slice x.a x.n x.c]
def Cl.same (x y : Cl) : Bool := x.ch.toList == y.ch.toList && (x.ky.toList == y.ky.toList && ((x.pd == y.pd) && ((x.fz == y.fz) && (x.n == y.n && eqTo x.s y.s x.n))))
def Cl.ok (x : Cl) (w : World) : Prop := SV w x.a x.n x.s ∧ x.n ≤ 1000
theorem Cl.ok.next {x : Cl} {w W : World} (h : x.ok w) (hb : w.grownBy W none) : x.ok W := ⟨h.1.next hb, h.2⟩
set_option maxRecDepth 100000 in
set_option maxHeartbeats 1000000 in
theorem csame_any (x y : Cl) (w : World) (h1 : x.ok w) (h2 : y.ok w) : Calls Tryd.prog 6 #[x.v, y.v] w fun e w' => e = .returned (.bool (x.same y)) ∧ Below w.heap.size w w' := by
  obtain ⟨s1, k1, p1, f1, a1, n1, c1, t1⟩ := x
  obtain ⟨s2, k2, p2, f2, a2, n2, c2, t2⟩ := y
  unfold Cl.v
  have ho := only_alloc (only_alloc (only_refl w none) (.cells #[.string s1, .string k1, .int .i64 p1, .bool f1, .slice a1 n1 c1] 24)) (.cells #[.string s2, .string k2, .int .i64 p2, .bool f2, .slice a2 n2 c2] 24)
  have heq := Lib.hid (equal_any a1 a2 n1 c1 n2 c2 t1 t2 _ (h1.1.next ho) (h2.1.next ho) h1.2)
  have HO := Lib.hid ho
  clear h1 h2 ho
  go_enter Tryd.func6, Tryd.ntmps6
  go_wp2_with fail
  case _ =>
    rename_i hh1 hh2 hh3 hh4 _ _
    subst hh3
    subst hh4
    refine heq.out.mono ?_
    rintro e w2 ⟨rfl, hb2⟩
    have hw2 := only_next HO.out hb2
    have HE := Lib.hid (And.intro hh1 hh2)
    clear heq HO hh1 hh2 hb2
    go_wp2_with fail
    go_ret
    exact ⟨by simp [Cl.same, HE.out.1, HE.out.2], below_of_only hw2⟩
  all_goals
    go_ret
    refine ⟨?_, below_of_only (only_alloc (only_alloc (only_refl w none) _) _)⟩
    simp [Cl.same, *]
end Go.Proofs.YtlfcaagogeclpaaDoor
/-
  The document's Same of any two clients.
-/
namespace Go.Proofs.YtlfcaagogeclpaaDoor
open Go.RowKit
def Cl.f (x : Cl) : Nat → Value
  | 0 => .string x.ch
  | 1 => .string x.ky
  | 2 => .int .i64 x.pd
  | 3 => .bool x.fz
  | _ => .slice x.a x.n x.c
theorem Cl.row (s k : ByteArray) (p : Int) (f : Bool) (a : Option Addr) (n c : Nat) (t : Nat → Stt) : #[Value.string s, Value.string k, Value.int .i64 p, Value.bool f, Value.slice a n c] = Row 5 (Cl.f ⟨s, k, p, f, a, n, c, t⟩) := by kernel_rfl
/-- The two copies lie where they were laid. -/
def RS (w : World) (x y : Cl) (W : World) : Prop := w.grownBy W none ∧ Blk W w.heap.size 24 5 x.f ∧ Blk W (w.heap.size + 1) 24 5 y.f
theorem RS.next {w W W2 : World} {x y : Cl} (h : RS w x y W) (hb : W.grownBy W2 none) : RS w x y W2 := ⟨only_trans h.1 hb, h.2.1.grown hb (by simp), h.2.2.grown hb (by simp)⟩
theorem RS.facts {w W : World} {x y : Cl} (h : RS w x y W) {s1 k1 : ByteArray} {p1 : Int} {f1 : Bool} {a1 : Option Addr} {n1 c1 : Nat} {t1 : Nat → Stt} {s2 k2 : ByteArray} {p2 : Int} {f2 : Bool} {a2 : Option Addr} {n2 c2 : Nat} {t2 : Nat → Stt}
    (hx : x = ⟨s1, k1, p1, f1, a1, n1, c1, t1⟩) (hy : y = ⟨s2, k2, p2, f2, a2, n2, c2, t2⟩) :
    (W.cell? ⟨w.heap.size, 0, none⟩ = some (.string s1) ∧ W.cell? ⟨w.heap.size, 1, none⟩ = some (.string k1) ∧ W.cell? ⟨w.heap.size, 2, none⟩ = some (.int .i64 p1) ∧ W.cell? ⟨w.heap.size, 3, none⟩ = some (.bool f1) ∧ W.cell? ⟨w.heap.size, 4, none⟩ = some (.slice a1 n1 c1)) ∧
    W.cell? ⟨w.heap.size + 1, 0, none⟩ = some (.string s2) ∧ W.cell? ⟨w.heap.size + 1, 1, none⟩ = some (.string k2) ∧ W.cell? ⟨w.heap.size + 1, 2, none⟩ = some (.int .i64 p2) ∧ W.cell? ⟨w.heap.size + 1, 3, none⟩ = some (.bool f2) ∧ W.cell? ⟨w.heap.size + 1, 4, none⟩ = some (.slice a2 n2 c2) := by
  subst hx hy
  exact ⟨⟨h.2.1.cell (by omega), h.2.1.cell (by omega), h.2.1.cell (by omega), h.2.1.cell (by omega), h.2.1.cell (by omega)⟩, h.2.2.cell (by omega), h.2.2.cell (by omega), h.2.2.cell (by omega), h.2.2.cell (by omega), h.2.2.cell (by omega)⟩
set_option maxRecDepth 100000 in
set_option maxHeartbeats 2000000 in
theorem rsame_any (x y : Cl) (w : World) (h1 : x.ok w) (h2 : y.ok w) : Calls Tryd.prog 5 #[x.v, y.v] w fun e w' => e = .returned (.bool (x.same y)) ∧ Below w.heap.size w w' := by
  obtain ⟨s1, k1, p1, f1, a1, n1, c1, t1⟩ := x
  obtain ⟨s2, k2, p2, f2, a2, n2, c2, t2⟩ := y
  unfold Cl.v
  obtain ⟨hw, hb, hz⟩ := two_more w _ _ 24 24 5 5 _ _ (Cl.row s1 k1 p1 f1 a1 n1 c1 t1) (Cl.row s2 k2 p2 f2 a2 n2 c2 t2)
  have h0 : RS w ⟨s1, k1, p1, f1, a1, n1, c1, t1⟩ ⟨s2, k2, p2, f2, a2, n2, c2, t2⟩ _ := ⟨hw, hb, hz⟩
  have hx := h1.1
  have hy := h2.1
  have hbd := h1.2
  dsimp only at hx hy hbd
  clear hw hb hz h1 h2
  by_cases hn : n1 = n2
  · subst hn
    have hne : ((n1 : Int) != (n1 : Int)) = false := by simp
    have H0 := Lib.hid h0
    clear h0
    go_enter Tryd.func5, Tryd.ntmps5
    go_wp2_with fail
    have h0 := H0.out
    clear H0
    generalize World.alloc (World.alloc w _) _ = W at h0 ⊢
    go_loopw [5] (fun i wr => ∃ k : Nat, k ≤ n1 ∧ i = .int .i64 k ∧ eqTo t1 t2 k = true ∧ RS w ⟨s1, k1, p1, f1, a1, n1, c1, t1⟩ ⟨s2, k2, p2, f2, a2, n1, c2, t2⟩ wr) (fun i _ => n1 - (intOf i).toNat)
    case atStart => exact ⟨0, by omega, rfl, rfl, h0⟩
    case round =>
      clear h0
      obtain ⟨k, hk, rfl, he, hw⟩ := hrel
      obtain ⟨⟨d0, d1, d2, d3, d4⟩, e0, e1, e2, e3, e4⟩ := hw.facts rfl rfl
      by_cases hkt : k < n1
      · obtain hx | ⟨g1, o1, rfl, hx⟩ := hx
        · omega
        obtain hy | ⟨g2, o2, rfl, hy⟩ := hy
        · omega
        have ra := ((hx.next hw.1).next (only_drew (only_refl _ none))).range hkt
        have rb := ((hy.next hw.1).next (only_drew (only_refl _ none))).range hkt
        have hk0 : (0 : Int) ≤ (k : Int) := by omega
        have hkn : (k : Int) < (n1 : Int) := by omega
        have hS : wr.drew.cell? ⟨w.heap.size, 4, none⟩ = some (.slice (some ⟨g1, o1, none⟩) n1 c1) ∧ wr.drew.cell? ⟨w.heap.size + 1, 4, none⟩ = some (.slice (some ⟨g2, o2, none⟩) n1 c2) ∧ RR2 g1 (o1 + k * 34) g2 (o2 + k * 34) (t1 k).f (t2 k).f wr.drew := ⟨d4, e4, ra, rb⟩
        clear ra rb d0 d1 d2 d3 e0 e1 e2 e3
        generalize hB : w.heap.size = B at *
        have HB := Lib.hid hB
        clear hB
        go_wp2_with fail
        refine wp_region_held_drew (S := fun W => W.cell? ⟨B, 4, none⟩ = some (.slice (some ⟨g1, o1, none⟩) n1 c1) ∧ W.cell? ⟨B + 1, 4, none⟩ = some (.slice (some ⟨g2, o2, none⟩) n1 c2) ∧ RR2 g1 (o1 + k * 34) g2 (o2 + k * 34) (t1 k).f (t2 k).f W) (by kernel_rfl) hS (fun hHeld => ?_)
        refine wpAnyH_take (i := 0) (v := ?_) rfl (by kernel_rfl) (by kernel_rfl) (by kernel_rfl) (fun _ _ _ h => h) (Or.inl ⟨by kernel_rfl, ?_⟩) (by assumption) ?_
        rotate_left
        · intro w hSw; (try dsimp only at hSw); go_simp; try with_reducible rfl
        try simp only [Act.put, List.getElem_toArray, List.getElem_cons_succ, List.getElem_cons_zero, List.setIfInBounds_toArray, List.set_cons_zero, List.set_cons_succ]
        refine wpAnyH_take (i := 1) (v := ?_) rfl (by kernel_rfl) (by kernel_rfl) (by kernel_rfl) (fun _ _ _ h => h) (Or.inl ⟨by kernel_rfl, ?_⟩) (by assumption) ?_
        rotate_left
        · intro w hSw; (try dsimp only at hSw); go_simp; try with_reducible rfl
        try simp only [Act.put, List.getElem_toArray, List.getElem_cons_succ, List.getElem_cons_zero, List.setIfInBounds_toArray, List.set_cons_zero, List.set_cons_succ]
        refine wpAnyH_take (i := 2) (v := ?_) rfl (by kernel_rfl) (by kernel_rfl) (by kernel_rfl) (fun _ _ _ h => h) (Or.inl ⟨by kernel_rfl, ?_⟩) (by assumption) ?_
        rotate_left
        · intro w hSw; (try dsimp only at hSw); go_simp; try with_reducible rfl
        try simp only [Act.put, List.getElem_toArray, List.getElem_cons_succ, List.getElem_cons_zero, List.setIfInBounds_toArray, List.set_cons_zero, List.set_cons_succ]
        refine wpAnyH_take (i := 3) (v := ?_) rfl (by kernel_rfl) (by kernel_rfl) (by kernel_rfl) (fun _ _ _ h => h) (Or.inl ⟨by kernel_rfl, ?_⟩) (by assumption) ?_
        rotate_left
        · intro w hSw; (try dsimp only at hSw); go_simp; try with_reducible rfl
        try simp only [Act.put, List.getElem_toArray, List.getElem_cons_succ, List.getElem_cons_zero, List.setIfInBounds_toArray, List.set_cons_zero, List.set_cons_succ]
        refine wpAnyH_take (i := 4) rfl (by kernel_rfl) (by kernel_rfl) (by kernel_rfl) (fun _ _ _ h => h) (yields_row (by kernel_rfl) 37 (.tmp 23) rfl g1 (o1 + k * 34) 34 (t1 k).f rfl _ (fun W h => h.2.2.1) Tryd.underlying37 rfl size37) (by assumption) ?_
        try simp only [Act.put, List.getElem_toArray, List.getElem_cons_succ, List.getElem_cons_zero, List.setIfInBounds_toArray, List.set_cons_zero, List.set_cons_succ]
        refine wpAnyH_take (i := 5) (v := ?_) rfl (by kernel_rfl) (by kernel_rfl) (by kernel_rfl) (fun _ _ _ h => h) (Or.inl ⟨by kernel_rfl, ?_⟩) (by assumption) ?_
        rotate_left
        · intro w hSw; (try dsimp only at hSw); go_simp; try with_reducible rfl
        try simp only [Act.put, List.getElem_toArray, List.getElem_cons_succ, List.getElem_cons_zero, List.setIfInBounds_toArray, List.set_cons_zero, List.set_cons_succ]
        refine wpAnyH_take (i := 6) (v := ?_) rfl (by kernel_rfl) (by kernel_rfl) (by kernel_rfl) (fun _ _ _ h => h) (Or.inl ⟨by kernel_rfl, ?_⟩) (by assumption) ?_
        rotate_left
        · intro w hSw; (try dsimp only at hSw); go_simp; try with_reducible rfl
        try simp only [Act.put, List.getElem_toArray, List.getElem_cons_succ, List.getElem_cons_zero, List.setIfInBounds_toArray, List.set_cons_zero, List.set_cons_succ]
        refine wpAnyH_take (i := 7) (v := ?_) rfl (by kernel_rfl) (by kernel_rfl) (by kernel_rfl) (fun _ _ _ h => h) (Or.inl ⟨by kernel_rfl, ?_⟩) (by assumption) ?_
        rotate_left
        · intro w hSw; (try dsimp only at hSw); go_simp; try with_reducible rfl
        try simp only [Act.put, List.getElem_toArray, List.getElem_cons_succ, List.getElem_cons_zero, List.setIfInBounds_toArray, List.set_cons_zero, List.set_cons_succ]
        refine wpAnyH_take (i := 8) (v := ?_) rfl (by kernel_rfl) (by kernel_rfl) (by kernel_rfl) (fun _ _ _ h => h) (Or.inl ⟨by kernel_rfl, ?_⟩) (by assumption) ?_
        rotate_left
        · intro w hSw; (try dsimp only at hSw); go_simp; try with_reducible rfl
        try simp only [Act.put, List.getElem_toArray, List.getElem_cons_succ, List.getElem_cons_zero, List.setIfInBounds_toArray, List.set_cons_zero, List.set_cons_succ]
        refine wpAnyH_take (i := 9) rfl (by kernel_rfl) (by kernel_rfl) (by kernel_rfl) (fun _ _ _ h => h) (yields_row (by kernel_rfl) 37 (.tmp 28) rfl g2 (o2 + k * 34) 34 (t2 k).f rfl _ (fun W h => h.2.2.2) Tryd.underlying37 rfl size37) (by assumption) ?_
        try simp only [Act.put, List.getElem_toArray, List.getElem_cons_succ, List.getElem_cons_zero, List.setIfInBounds_toArray, List.set_cons_zero, List.set_cons_succ]
        refine wpAnyH_take (i := 10) rfl (by kernel_rfl) (by kernel_rfl) (by kernel_rfl) (fun _ _ _ h => h) (yields_agg_bin (by kernel_rfl) .neq 37 37 _ _ rfl _ _ rfl rfl guard37 (.bool (!((t1 k).eq (t2 k)))) (fun W => neq_state (t1 k) (t2 k) W)) (by assumption) ?_
        try simp only [Act.put, List.getElem_toArray, List.getElem_cons_succ, List.getElem_cons_zero, List.setIfInBounds_toArray, List.set_cons_zero, List.set_cons_succ]
        refine wpAnyH_done (by kernel_rfl) ?_ _
        clear hHeld hS
        cases hE : (t1 k).eq (t2 k)
        · have hF := Lib.hid (eqTo_false hkt hE)
          clear hE he
          go_wp2_with fail
          go_ret
          exact ⟨by simp [Cl.same, hF.out], below_of_only (only_drew hw.1)⟩
        · have hT := Lib.hid (eqTo_succ he hE)
          clear hE he
          go_wp2_with fail
          go_roundw
          case rel => exact ⟨k + 1, by omega, by go_num, hT.out, hw.next (only_drew (only_refl _ none))⟩
          case measure => simp [intOf]; omega
      · obtain rfl : k = n1 := by omega
        have hT := Lib.hid he
        have hW := Lib.hid (below_of_only hw.1)
        clear he hx hy
        go_wp2_with fail
        all_goals
          go_ret
          refine ⟨?_, hW.out⟩
          simp [Cl.same, hT.out, *]
  · have hne : ((n1 : Int) != (n2 : Int)) = true := by rw [bne_iff_ne]; omega
    have hb : (n1 == n2) = false := by simpa using hn
    clear h0
    go_enter Tryd.func5, Tryd.ntmps5
    go_wp2_with fail
    go_ret
    exact ⟨by simp [Cl.same, hb], below_of_only (only_alloc (only_alloc (only_refl w none) _) _)⟩
end Go.Proofs.YtlfcaagogeclpaaDoor
