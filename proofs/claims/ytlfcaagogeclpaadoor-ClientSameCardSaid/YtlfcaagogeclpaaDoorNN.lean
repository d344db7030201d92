/-
  twinspanlaw14.ClientSame.
-/
import Derived.Test.YtlfcaagogeclpaaDoorM0
import Derived.Test.YtlfcaagogeclpaaDoorKK
import Derived.Lib.SmallJoins
import Derived.Deep.Slices
import Derived.OpenShut
set_option linter.unusedSimpArgs false
set_option linter.unusedVariables false
namespace Go.Proofs.YtlfcaagogeclpaaDoor
open Go.RowKit
theorem eqTo_symm (a b : Nat → Stt) (n : Nat) : eqTo a b n = eqTo b a n := congrArg _ (funext fun _ => Stt.eq_symm _ _)
theorem Cl.same_symm (x y : Cl) : x.same y = y.same x := by
  unfold Cl.same
  have e : ∀ {α : Type} [BEq α] [LawfulBEq α] (a b : α), (a == b) = (b == a) := fun a b => by rw [Bool.eq_iff_iff]; simp only [beq_iff_eq]; exact ⟨Eq.symm, Eq.symm⟩
  rw [e x.ch.toList, e x.ky.toList, e x.pd, e x.fz]
  congr 4
  by_cases h : x.n = y.n
  · rw [h, eqTo_symm]
  · have h1 : (x.n == y.n) = false := by simpa using h
    have h2 : (y.n == x.n) = false := by simpa using fun h' => h (Eq.symm h')
    rw [h1, h2]
    rfl
/-- Of the states the first 60. -/
def Cl.cut (x : Cl) : Cl := { x with n := (min (x.n : Int) 60).toNat }
/-- A client as it comes in. -/
def Cl.arg (x : Cl) (w : World) : Prop := x.n ≤ x.c ∧ (x.n = 0 ∨ ∃ ad, x.a = some ad ∧ ∀ j, j < x.n → ∀ i, i < 34 → w.cell? (ad.add (j * 34 + i)) = some ((x.s j).f i))
theorem Cl.arg.ok {x : Cl} {w W : World} (h : x.arg w) (hb : w.grownBy W none) : x.cut.ok W := by
  obtain ⟨s, k, p, f, a, n, c, t⟩ := x
  obtain ⟨_, h⟩ := h
  dsimp only at h
  refine ⟨?_, by simp only [Cl.cut]; omega⟩
  rcases h with h | ⟨ad, rfl, h⟩
  · exact .inl (by simp only [Cl.cut]; omega)
  · by_cases hn : n = 0
    · exact .inl (by simp only [Cl.cut]; omega)
    · right
      have h0 := h 0 (by omega) 0 (by omega)
      obtain ⟨g, o, sp⟩ := ad
      have hs : sp = none := by
        simp only [Addr.add, Nat.zero_mul, Nat.zero_add, if_true] at h0
        unfold World.cell? at h0
        cases sp with
        | none => rfl
        | some q =>
          dsimp only at h0
          split at h0
          · simp at h0
          · cases h0
      subst hs
      refine ⟨g, o, rfl, fun j hj i hi => ?_⟩
      simp only [Cl.cut] at hj
      have := only_cell hb (h j (by omega) i hi)
      rw [Addr.add_lit] at this
      rw [Nat.add_assoc]
      exact this
theorem RS.store {w W : World} {s1 k1 : ByteArray} {p1 : Int} {f1 : Bool} {a1 : Option Addr} {n1 c1 : Nat} {t1 : Nat → Stt} {s2 k2 : ByteArray} {p2 : Int} {f2 : Bool} {a2 : Option Addr} {n2 c2 : Nat} {t2 : Nat → Stt}
    (h : RS w ⟨s1, k1, p1, f1, a1, n1, c1, t1⟩ ⟨s2, k2, p2, f2, a2, n2, c2, t2⟩ W) (m1 m2 : Nat) {B : Nat} (HB : w.heap.size = B) :
    RS w ⟨s1, k1, p1, f1, a1, m1, c1, t1⟩ ⟨s2, k2, p2, f2, a2, m2, c2, t2⟩ ((W.setCell ⟨B, 4, none⟩ (.slice a1 m1 c1)).setCell ⟨B + 1, 4, none⟩ (.slice a2 m2 c2)) := by
  subst HB
  have e1 : ∀ (n : Nat) i, i < 5 → upd (Cl.f ⟨s1, k1, p1, f1, a1, n, c1, t1⟩) 4 (.slice a1 m1 c1) i = Cl.f ⟨s1, k1, p1, f1, a1, m1, c1, t1⟩ i := fun n i hi => by match i, hi with | 0, _ => rfl | 1, _ => rfl | 2, _ => rfl | 3, _ => rfl | 4, _ => rfl
  have e2 : ∀ (n : Nat) i, i < 5 → upd (Cl.f ⟨s2, k2, p2, f2, a2, n, c2, t2⟩) 4 (.slice a2 m2 c2) i = Cl.f ⟨s2, k2, p2, f2, a2, m2, c2, t2⟩ i := fun n i hi => by match i, hi with | 0, _ => rfl | 1, _ => rfl | 2, _ => rfl | 3, _ => rfl | 4, _ => rfl
  refine ⟨only_setCell (only_setCell h.1 (p := ⟨w.heap.size, 4, none⟩) (.inr (Nat.le_refl _)) _) (p := ⟨w.heap.size + 1, 4, none⟩) (.inr (Nat.le_succ _)) _, ?_, ?_⟩
  · exact ((h.2.1.set_ 4 _).congr (e1 _)).far (p := ⟨w.heap.size + 1, 4, none⟩) (by simp) _
  · exact ((h.2.2.far (p := ⟨w.heap.size, 4, none⟩) (by simp) _).set_ 4 _).congr (e2 _)
set_option maxRecDepth 100000 in
set_option maxHeartbeats 4000000 in
theorem clientsame_any (x y : Cl) (w : World) (hG : GL w) (hx : x.arg w) (hy : y.arg w) : Calls Tryd.prog 3 #[x.v, y.v] w fun e w' => e = .returned (.bool true) ∧ Below w.heap.size w w' := by
  obtain ⟨s1, k1, p1, f1, a1, n1, c1, t1⟩ := x
  obtain ⟨s2, k2, p2, f2, a2, n2, c2, t2⟩ := y
  have hc1 : n1 ≤ c1 := hx.1
  have hc2 : n2 ≤ c2 := hy.1
  have HX := Lib.hid hx
  have HY := Lib.hid hy
  clear hx hy
  unfold Cl.v
  obtain ⟨hw, hb, hz⟩ := two_more w _ _ 24 24 5 5 _ _ (Cl.row s1 k1 p1 f1 a1 n1 c1 t1) (Cl.row s2 k2 p2 f2 a2 n2 c2 t2)
  have h0 : RS w ⟨s1, k1, p1, f1, a1, n1, c1, t1⟩ ⟨s2, k2, p2, f2, a2, n2, c2, t2⟩ _ := ⟨hw, hb, hz⟩
  have hG1 := hG.next hw
  have H0 := Lib.hid h0
  clear hw hb hz hG h0
  go_enter Tryd.func3, Tryd.ntmps3
  go_wp2_with fail
  have h0 := H0.out
  clear H0
  generalize World.alloc (World.alloc w _) _ = W at h0 hG1 ⊢
  refine (awake_any W hG1).mono ?_
  rintro e w2 ⟨rfl, hb2⟩
  replace h0 := h0.next (only_of_below hb2 none)
  clear hb2 hG1
  obtain ⟨⟨d0, d1, d2, d3, d4⟩, e0, e1, e2, e3, e4⟩ := h0.facts rfl rfl
  have d4f := h0.2.1.free 4
  have e4f := h0.2.2.free 4
  have H0 := Lib.hid h0
  clear h0
  generalize hB : w.heap.size = B at *
  have HB := Lib.hid hB
  clear hB
  have m1 : (0 : Int) ≤ min (n1 : Int) 60 := by omega
  have m2 : min (n1 : Int) 60 ≤ (c1 : Int) := by omega
  have m3 : (0 : Int) ≤ min (n2 : Int) 60 := by omega
  have m4 : min (n2 : Int) 60 ≤ (c2 : Int) := by omega
  have hR := Lib.hid (H0.out.store (min (n1 : Int) 60).toNat (min (n2 : Int) 60).toNat HB.out)
  go_wp2_with fail
  clear d0 d1 d2 d3 d4 e0 e1 e2 e3 e4 d4f e4f m1 m2 m3 m4 H0
  generalize World.setCell (World.setCell w2 _ _) _ _ = W3 at hR ⊢
  have hx1 := HX.out.ok hR.out.1
  have hy1 := HY.out.ok hR.out.1
  unfold Cl.cut at hx1 hy1
  dsimp only at hx1 hy1
  generalize (min (n1 : Int) 60).toNat = q1 at *
  generalize (min (n2 : Int) 60).toNat = q2 at *
  have hc := rsame_any _ _ W3 hx1 hy1
  obtain ⟨b, hbb⟩ : ∃ b, b = Cl.same ⟨s1, k1, p1, f1, a1, q1, c1, t1⟩ ⟨s2, k2, p2, f2, a2, q2, c2, t2⟩ := ⟨_, rfl⟩
  rw [← hbb] at hc
  refine hc.mono ?_
  rintro e w4 ⟨rfl, hb2⟩
  have h1 := hR.out.next (only_of_below hb2 none)
  replace hx1 := hx1.next (only_of_below hb2 none)
  replace hy1 := hy1.next (only_of_below hb2 none)
  clear hR hc hb2 HX HY
  obtain ⟨⟨d0, d1, d2, d3, d4⟩, e0, e1, e2, e3, e4⟩ := h1.facts rfl rfl
  rw [HB.out] at d0 d1 d2 d3 d4 e0 e1 e2 e3 e4
  have H1 := Lib.hid h1
  have HN := Lib.hid hbb
  clear h1 hbb
  have hc := csame_any _ _ w4 hx1 hy1
  rw [← HN.out] at hc
  unfold Cl.v at hc
  dsimp only at hc
  go_wp2_with fail
  refine hc.mono ?_
  rintro e w5 ⟨rfl, hb2⟩
  have h1 := H1.out.next (only_of_below hb2 none)
  replace hx1 := hx1.next (only_of_below hb2 none)
  replace hy1 := hy1.next (only_of_below hb2 none)
  clear H1 hc hb2 d0 d1 d2 d3 d4 e0 e1 e2 e3 e4
  obtain ⟨⟨d0, d1, d2, d3, d4⟩, e0, e1, e2, e3, e4⟩ := h1.facts rfl rfl
  rw [HB.out] at d0 d1 d2 d3 d4 e0 e1 e2 e3 e4
  have H1 := Lib.hid h1
  clear h1
  have hc := csame_any _ _ w5 hy1 hx1
  rw [Cl.same_symm, ← HN.out] at hc
  unfold Cl.v at hc
  dsimp only at hc
  go_wp2_with fail
  refine hc.mono ?_
  rintro e w6 ⟨rfl, hb2⟩
  have h1 := H1.out.next (only_of_below hb2 none)
  replace hx1 := hx1.next (only_of_below hb2 none)
  replace hy1 := hy1.next (only_of_below hb2 none)
  clear H1 hc hb2 d0 d1 d2 d3 d4 e0 e1 e2 e3 e4
  obtain ⟨⟨d0, d1, d2, d3, d4⟩, e0, e1, e2, e3, e4⟩ := h1.facts rfl rfl
  rw [HB.out] at d0 d1 d2 d3 d4 e0 e1 e2 e3 e4
  have H1 := Lib.hid h1
  clear h1
  have hc := csame_any _ _ w6 hx1 hx1
  rw [Cl.same_self] at hc
  unfold Cl.v at hc
  dsimp only at hc
  go_wp2_with fail
  refine hc.mono ?_
  rintro e w7 ⟨rfl, hb2⟩
  have h1 := H1.out.next (only_of_below hb2 none)
  replace hx1 := hx1.next (only_of_below hb2 none)
  replace hy1 := hy1.next (only_of_below hb2 none)
  clear H1 hc hb2 d0 d1 d2 d3 d4 e0 e1 e2 e3 e4
  obtain ⟨⟨d0, d1, d2, d3, d4⟩, e0, e1, e2, e3, e4⟩ := h1.facts rfl rfl
  rw [HB.out] at d0 d1 d2 d3 d4 e0 e1 e2 e3 e4
  have H1 := Lib.hid h1
  clear h1
  have hc := csame_any _ _ w7 hy1 hy1
  rw [Cl.same_self] at hc
  unfold Cl.v at hc
  dsimp only at hc
  go_wp2_with fail
  refine hc.mono ?_
  rintro e w8 ⟨rfl, hb2⟩
  have h1 := H1.out.next (only_of_below hb2 none)
  replace hx1 := hx1.next (only_of_below hb2 none)
  replace hy1 := hy1.next (only_of_below hb2 none)
  clear H1 hc hb2 d0 d1 d2 d3 d4 e0 e1 e2 e3 e4
  obtain ⟨⟨d0, d1, d2, d3, d4⟩, e0, e1, e2, e3, e4⟩ := h1.facts rfl rfl
  rw [HB.out] at d0 d1 d2 d3 d4 e0 e1 e2 e3 e4
  have H1 := Lib.hid h1
  clear h1
  go_wp2_with fail
  go_ret
  exact ⟨rfl, below_of_only H1.out.1⟩
end Go.Proofs.YtlfcaagogeclpaaDoor
/-
  What a client that comes in reads as: its cells.
-/
namespace Go.Proofs.YtlfcaagogeclpaaDoor
open Go.Joins Go.ChangeShapes Go.WideShapes Go.RowKit Go.Deep
theorem cellsOf37 : Tryd.prog.cellsOf 37 = 34 := by kernel_rfl
theorem cellsOf28 : Tryd.prog.cellsOf 28 = 32 := by kernel_rfl
theorem cellsOf3 : Tryd.prog.cellsOf 3 = 1 := by kernel_rfl
theorem cellsOf24 : Tryd.prog.cellsOf 24 = 5 := by kernel_rfl
/-- The number in a cell. -/
def numAt (cs : List Value) (i : Nat) : Int := match cs[i]? with | some (.int _ n) => n | _ => 0
theorem take_one {cs : List Value} {k : Nat} {v : Value} (h : (cs.drop k).take 1 = [v]) : cs[k]? = some v := by
  have := congrArg (·[0]?) h
  simpa [List.getElem?_take, List.getElem?_drop] using this
section
variable {H : Type} {enc : TypeId × Value → H} {w : World} {base : Nat} {spare : Nat → Bool} {held : Bool}
theorem state_open {fuel : Nat} {cs : List Value} {x : DataW H × List MemPlace} (h : DataW.trod enc Tryd.prog w base spare held fuel 37 cs = some x) : ∃ s : Stt, ∀ i, i < 34 → cs[i]? = some (s.f i) := by
  obtain ⟨xs, n, _, _, hcl, hxl, hf⟩ := DataW.trod_struct Tryd.underlying37 h
  have e0 : DataW.trod enc Tryd.prog w base spare held n 3 (List.take (Tryd.prog.cellsOf 3) (List.drop 0 cs)) = xs[0]? := hf 0 _ rfl
  have e1 : DataW.trod enc Tryd.prog w base spare held n 3 (List.take (Tryd.prog.cellsOf 3) (List.drop 1 cs)) = xs[1]? := hf 1 _ rfl
  have e2 : DataW.trod enc Tryd.prog w base spare held n 28 (List.take (Tryd.prog.cellsOf 28) (List.drop 2 cs)) = xs[2]? := hf 2 _ rfl
  rw [cellsOf3] at e0 e1
  rw [cellsOf28] at e2
  have hx : xs.length = 3 := hxl
  rw [List.getElem?_eq_getElem (by omega)] at e0 e1 e2
  obtain ⟨a0, c0, _⟩ := DataW.trod_int Tryd.underlying3 e0
  obtain ⟨a1, c1, _⟩ := DataW.trod_int Tryd.underlying3 e1
  obtain ⟨ys, m, _, _, hl2, hyl, hg⟩ := DataW.trod_array Tryd.underlying28 e2
  have k0 := take_one c0
  have k1 := take_one c1
  refine ⟨⟨a0, a1, fun i => numAt cs (i + 2)⟩, fun i hi => ?_⟩
  unfold Stt.f stf
  by_cases h0 : i = 0
  · subst h0; exact k0
  · rw [if_neg h0]
    by_cases h1 : i = 1
    · subst h1; exact k1
    · rw [if_neg h1]
      have hj := hg (i - 2) (by omega)
      rw [cells5, List.getElem?_eq_getElem (by omega), Nat.mul_one] at hj
      obtain ⟨z, hz, _⟩ := DataW.trod_int Tryd.underlying5 hj
      have kz := take_one hz
      rw [List.getElem?_take, if_pos (by omega), List.getElem?_drop, show 2 + (i - 2) = i by omega] at kz
      dsimp only
      rw [show i - 2 + 2 = i by omega, kz]
      unfold numAt
      rw [kz]
theorem states_open {fuel : Nat} {v : Value} {x : DataW H × List MemPlace} (h : DataW.trod enc Tryd.prog w base spare held fuel 22 [v] = some x) :
    ∃ a n c, ∃ s : Nat → Stt, v = .slice a n c ∧ n ≤ c ∧ (n = 0 ∨ ∃ ad, a = some ad ∧ ∀ j, j < n → ∀ i, i < 34 → w.cell? (ad.add (j * 34 + i)) = some ((s j).f i)) := by
  rcases open_slice Tryd.underlying22 h with ⟨h0, _⟩ | ⟨a, len, cap, m, n, D, Pl, hcs, _, hl, _, hm, _, hi⟩
  · injection h0 with h0
    exact ⟨none, 0, 0, fun _ => ⟨0, 0, fun _ => 0⟩, h0, Nat.le_refl _, .inl rfl⟩
  · injection hcs with hcs
    have hml : len ≤ m := by rw [hm]; split <;> omega
    have hs : ∀ j, ∃ s : Stt, j < len → ∀ i, i < 34 → w.cell? (a.add (j * 34 + i)) = some (s.f i) := fun j => by
      by_cases hj : j < len
      · obtain ⟨cs', hc, ht⟩ := hi j (by omega)
        obtain ⟨s, hs⟩ := state_open ht
        rw [cellsOf37] at hc
        obtain ⟨_, _, hat⟩ := World.cells?_some hc
        exact ⟨s, fun _ i hi => by rw [← Go.Deep.add_add, hat i hi, hs i hi]⟩
      · exact ⟨⟨0, 0, fun _ => 0⟩, fun h => absurd h hj⟩
    exact ⟨some a, len, cap, fun j => (hs j).choose, hcs, hl, .inr ⟨a, rfl, fun j hj => (hs j).choose_spec hj⟩⟩
theorem open_agg5 {P : Program} {r : Reach} {b0 : Nat} {t : TypeId} {f0 f1 f2 f3 f4 : Field} {v : Value} {d : DataW H} {p : List MemPlace} (hs : P.underlying t = some (.struct #[f0, f1, f2, f3, f4])) (hone : oneCellFields P #[f0, f1, f2, f3, f4] = true) (hC : P.cellsOf t = 5)
    (hv : Value.okWide P w r b0 t v) (h : DataW.Trod enc P w base spare held t v d p) :
    ∃ (v0 v1 v2 v3 v4 : Value) (y0 y1 y2 y3 y4 : DataW H × List MemPlace) (n : Nat), v = .agg #[v0, v1, v2, v3, v4] ∧
      DataW.trod enc P w base spare held n f0.type [v0] = some y0 ∧ DataW.trod enc P w base spare held n f1.type [v1] = some y1 ∧ DataW.trod enc P w base spare held n f2.type [v2] = some y2 ∧ DataW.trod enc P w base spare held n f3.type [v3] = some y3 ∧ DataW.trod enc P w base spare held n f4.type [v4] = some y4 := by
  obtain ⟨cs, rfl, hsz⟩ := okWide_struct hs hv
  obtain ⟨l⟩ := cs
  match l, hsz.trans hC with
  | [c0, c1, c2, c3, c4], _ =>
    obtain ⟨fuel, hf⟩ := h
    obtain ⟨xs, n, _, hx, _, hlen, hg⟩ := DataW.trod_struct hs hf
    obtain ⟨o0, k0⟩ := hone_of hone 0 f0 rfl
    obtain ⟨o1, k1⟩ := hone_of hone 1 f1 rfl
    obtain ⟨o2, k2⟩ := hone_of hone 2 f2 rfl
    obtain ⟨o3, k3⟩ := hone_of hone 3 f3 rfl
    obtain ⟨o4, k4⟩ := hone_of hone 4 f4 rfl
    match xs, hlen with
    | [y0, y1, y2, y3, y4], _ =>
      exact ⟨c0, c1, c2, c3, c4, y0, y1, y2, y3, y4, n, rfl, by simpa [Value.cells, o0, k0] using hg 0 f0 rfl, by simpa [Value.cells, o1, k1] using hg 1 f1 rfl, by simpa [Value.cells, o2, k2] using hg 2 f2 rfl, by simpa [Value.cells, o3, k3] using hg 3 f3 rfl, by simpa [Value.cells, o4, k4] using hg 4 f4 rfl⟩
set_option maxRecDepth 100000 in
theorem client_open {r : Reach} {b0 : Nat} {v : Value} {d : DataW H} {p : List MemPlace} (hv : Value.okWide Tryd.prog w r b0 24 v) (h : DataW.Trod enc Tryd.prog w base spare held 24 v d p) : ∃ x : Cl, v = x.v ∧ x.arg w := by
  obtain ⟨v0, v1, v2, v3, v4, y0, y1, y2, y3, y4, n, rfl, h0, h1, h2, h3, h4⟩ := open_agg5 Tryd.underlying24 (by kernel_rfl) cellsOf24 hv h
  obtain ⟨s, e0, _⟩ := DataW.trod_string Tryd.underlying9 h0
  obtain ⟨k, e1, _⟩ := DataW.trod_string Tryd.underlying9 h1
  obtain ⟨z, e2, _⟩ := DataW.trod_int Tryd.underlying3 h2
  obtain ⟨f, e3, _⟩ := DataW.trod_bool Tryd.underlying4 h3
  obtain ⟨a, m, c, t, rfl, hl, ha⟩ := states_open h4
  injection e0 with e0
  injection e1 with e1
  injection e2 with e2
  injection e3 with e3
  subst e0 e1 e2 e3
  exact ⟨⟨s, k, z, f, a, m, c, t⟩, rfl, hl, ha⟩
end
end Go.Proofs.YtlfcaagogeclpaaDoor
