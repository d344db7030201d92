/-
  '==' of hashes and of states.
-/
import Derived.Test.YtlfcaagogeclpaaDoorAA
import Derived.ChangeKeysEq
namespace Go.Proofs.YtlfcaagogeclpaaDoor
open Go.RowKit
theorem cells5 : Tryd.prog.cellsOf 5 = 1 := by kernel_rfl
theorem eqItems_int (d : Nat) (n : Nat) (f g : Nat → Value) (a b : Nat → Int) (hf : ∀ i, i < n → f i = .int .u8 (a i)) (hg : ∀ i, i < n → g i = .int .u8 (b i)) (w : World) : ∀ is : List Nat, (∀ i, i ∈ is → i < n) →
    (Op.eqItems (d + 1) 5 1 (Row n f) (Row n g) is).run Tryd.prog w = .ok (is.all fun i => a i == b i) w
  | [], _ => rfl
  | i :: is, h => by
    have hi := h i (by simp)
    have p1 : (part 5 (Row n f) (i * 1)).run Tryd.prog w = .ok (f i) w := by rw [Nat.mul_one]; exact run_part_plain w (by kernel_rfl) (Row_get hi)
    have p2 : (part 5 (Row n g) (i * 1)).run Tryd.prog w = .ok (g i) w := by rw [Nat.mul_one]; exact run_part_plain w (by kernel_rfl) (Row_get hi)
    have p3 := run_equalIn_int (P := Tryd.prog) w d 5 .u8 .u8 (a i) (b i) Tryd.underlying5
    rw [hf i hi] at p1
    rw [hg i hi] at p2
    have ih := eqItems_int d n f g a b hf hg w is (fun j hj => h j (by simp [hj]))
    simp only [Op.eqItems, Sem.run_bind, p1, p2, p3, Result.andThen_ok, List.all_cons]
    cases a i == b i
    · simp
    · simpa using ih
theorem eq_hash (d : Nat) (f g : Nat → Value) (a b : Nat → Int) (hf : ∀ i, i < 32 → f i = .int .u8 (a i)) (hg : ∀ i, i < 32 → g i = .int .u8 (b i)) (w : World) :
    (Op.equalIn (d + 2) 28 (.agg (Row 32 f)) (.agg (Row 32 g))).run Tryd.prog w = .ok ((List.range 32).all fun i => a i == b i) w := by
  cases hi : Tryd.prog.info? 5 with
  | none => have := size5; rw [hi] at this; cases this
  | some i =>
    rw [run_equalIn_array w (d + 1) _ _ Tryd.underlying28 hi, cells5]
    exact eqItems_int d 32 f g a b hf hg w _ (fun j hj => List.mem_range.1 hj)
/-- A state's cells as numbers. -/
def stf (h t : Int) (a : Nat → Int) (i : Nat) : Value := if i = 0 then .int .i64 h else if i = 1 then .int .i64 t else .int .u8 (a (i - 2))
theorem stf_root (h t : Int) (a : Nat → Int) (w : World) : (part 28 (Row 34 (stf h t a)) 2).run Tryd.prog w = .ok (.agg (Row 32 fun i => .int .u8 (a i))) w := by
  kernel_rfl
theorem eqf_step {P : Program} {d : Nat} {xs ys : Array Value} {f : Field} {fs : List Field} {a b : Value} {r s : Bool} {w : World} (hn : (f.name == "_") = false) (ha : (part f.type xs f.offset).run P w = .ok a w) (hb : (part f.type ys f.offset).run P w = .ok b w) (he : (Op.equalIn d f.type a b).run P w = .ok r w) (hr : (Op.eqFields d xs ys fs).run P w = .ok s w) :
    (Op.eqFields d xs ys (f :: fs)).run P w = .ok (r && s) w := by
  have hn' : f.name ≠ "_" := by simpa using hn
  rw [Op.eqFields]
  simp only [if_pos hn', Sem.run_bind, ha, hb, he, Result.andThen_ok]
  cases r
  · simp
  · simpa using hr
theorem eq_state (d : Nat) (h1 t1 h2 t2 : Int) (a b : Nat → Int) (w : World) :
    (Op.equalIn (d + 3) 37 (.agg (Row 34 (stf h1 t1 a))) (.agg (Row 34 (stf h2 t2 b)))).run Tryd.prog w = .ok (h1 == h2 && (t1 == t2 && (List.range 32).all fun i => a i == b i)) w := by
  obtain ⟨f0, f1, f2, hf, hu, m0, m1, m2, t0, o0, t1', o1, t2', o2⟩ : ∃ f0 f1 f2 : Field, Tryd.prog.fieldsOf 37 = #[f0, f1, f2] ∧ Tryd.prog.underlying 37 = some (.struct #[f0, f1, f2]) ∧ (f0.name == "_") = false ∧ (f1.name == "_") = false ∧ (f2.name == "_") = false ∧
      f0.type = 3 ∧ f0.offset = 0 ∧ f1.type = 3 ∧ f1.offset = 1 ∧ f2.type = 28 ∧ f2.offset = 2 := ⟨_, _, _, by kernel_rfl, Tryd.underlying37, rfl, rfl, rfl, rfl, rfl, rfl, rfl, rfl, rfl⟩
  rw [run_equalIn_struct (P := Tryd.prog) w (d + 2) 37 _ _ (by rw [hf]; exact hu) (by kernel_rfl), hf]
  have p1 : (part 3 (Row 34 (stf h1 t1 a)) 0).run Tryd.prog w = .ok (.int .i64 h1) w := run_part_plain w (by kernel_rfl) (Row_get (by omega))
  have p2 : (part 3 (Row 34 (stf h2 t2 b)) 0).run Tryd.prog w = .ok (.int .i64 h2) w := run_part_plain w (by kernel_rfl) (Row_get (by omega))
  have p3 : (part 3 (Row 34 (stf h1 t1 a)) 1).run Tryd.prog w = .ok (.int .i64 t1) w := run_part_plain w (by kernel_rfl) (Row_get (by omega))
  have p4 : (part 3 (Row 34 (stf h2 t2 b)) 1).run Tryd.prog w = .ok (.int .i64 t2) w := run_part_plain w (by kernel_rfl) (Row_get (by omega))
  have e1 := run_equalIn_int (P := Tryd.prog) w (d + 1) 3 .i64 .i64 h1 h2 Tryd.underlying3
  have e2 := run_equalIn_int (P := Tryd.prog) w (d + 1) 3 .i64 .i64 t1 t2 Tryd.underlying3
  have e3 := eq_hash d (fun i => .int .u8 (a i)) (fun i => .int .u8 (b i)) a b (fun _ _ => rfl) (fun _ _ => rfl) w
  have r1 := stf_root h1 t1 a w
  have r2 := stf_root h2 t2 b w
  have n0 : (Op.eqFields (d + 2) (Row 34 (stf h1 t1 a)) (Row 34 (stf h2 t2 b)) []).run Tryd.prog w = .ok true w := by simp [Op.eqFields]
  have h := eqf_step (f := f0) m0 (by rw [t0, o0]; exact p1) (by rw [t0, o0]; exact p2) (by rw [t0]; exact e1) (eqf_step (f := f1) m1 (by rw [t1', o1]; exact p3) (by rw [t1', o1]; exact p4) (by rw [t1']; exact e2) (eqf_step (f := f2) m2 (by rw [t2', o2]; exact r1) (by rw [t2', o2]; exact r2) (by rw [t2']; exact e3) n0))
  rw [Bool.and_true] at h
  exact h
end Go.Proofs.YtlfcaagogeclpaaDoor
