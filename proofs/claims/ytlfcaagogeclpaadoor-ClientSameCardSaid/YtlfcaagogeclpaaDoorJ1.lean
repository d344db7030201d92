/-
  client.state, header, Check, follows of the example's headers and states.
-/
import Derived.Test.YtlfcaagogeclpaaDoorG1
import Derived.Test.YtlfcaagogeclpaaDoorF3
import Derived.Deep.MidRow
namespace Go.Proofs.YtlfcaagogeclpaaDoor
open Go.RowKit
/-- A state's cells: the height, time 0, the root. -/
def sdf (ht : Int) (rt : Nat → BitVec 8) (i : Nat) : Value := if i = 0 then .int .i64 ht else if i = 1 then .int .i64 0 else By (rt (i - 2))
theorem wpList_build_all {P : Program} {ops : Array Oper} {rest : List Oper} {o : Oper} {a : Act} {w : World} {Q : Exit → Act → World → Prop} (hg : o.guard = none) (t : TypeId) (parts : Array (Nat × Operand)) (ho : o.op = .build t parts)
    (l : List (Nat × Value)) (hl : parts.toList.map (fun x => (x.1, a.eval x.2)) = l) (cells : Array Value) (hb : P.built t l = some cells)
    (h : wpList P ops Q rest (a.put o.dst (.agg cells)) w) : wpList P ops Q (o :: rest) a w := by
  refine wpList_plain hg fun _ hK => ?_
  unfold Oper.wp execOp
  subst hl
  have hb' : P.built t (parts.map fun (i, x) => (i, a.eval x)).toList = some cells := by rw [Array.toList_map]; exact hb
  simp only [ho, Sem.run_bind, run_build w t _ _ hb', Result.andThen_ok]
  exact hK _ _ h
theorem built37 (ht : Int) (rt : Nat → BitVec 8) : Tryd.prog.built 37 [(0, .int .i64 ht), (1, .int .i64 0), (2, .agg (Row 32 fun i => By (rt i)))] = some (Row 34 (sdf ht rt)) := by kernel_rfl
theorem built30 (ht : Int) (rt : Nat → BitVec 8) : Tryd.prog.built 30 [(0, .string ⟨#[97]⟩), (1, .int .i64 ht), (2, .int .i64 0), (3, .agg (Row 32 fun i => By (rt i)))] = some (Row 35 (hdf ht rt)) := by kernel_rfl
theorem hdf_range {g : Nat} {ht : Int} {rt : Nat → BitVec 8} {W : World} (h : Blk W g 30 35 (hdf ht rt)) : W.rangeAt g 3 (Row 32 fun i => By (rt i)).toList := (HB.facts (w := W) ⟨h, only_refl _ _⟩).2.2.2.1
theorem sdf_range {g o t n : Nat} {f : Nat → Value} {ht : Int} {rt : Nat → BitVec 8} {W : World} (h : Blk W g t n f) (ho : o + 34 ≤ n) (hf : ∀ i, i < 34 → f (o + i) = sdf ht rt i) : W.rangeAt g (o + 2) (Row 32 fun i => By (rt i)).toList := fun j v hv => by
  rw [Array.getElem?_toList] at hv
  by_cases hj : j < 32
  · rw [Row_get hj] at hv
    injection hv with hv
    subst hv
    rw [show o + 2 + j = o + (2 + j) by omega, h.cell (by omega), hf _ (by omega)]
    unfold sdf
    rw [if_neg (by omega), if_neg (by omega), show 2 + j - 2 = j by omega]
  · rw [Row_get_none (by omega)] at hv; cases hv
theorem wpList_load_range {P : Program} {ops : Array Oper} {rest : List Oper} {o : Oper} {a : Act} {w : World} {Q : Exit → Act → World → Prop} (hgd : o.guard = none) (ty : TypeId) (x : Operand) (ho : o.op = .load ty x)
    (b off n : Nat) (g : Nat → Value) (hx : a.eval x = .pointer (some ⟨b, off, none⟩)) (hc : w.rangeAt b off (Row n g).toList) (d : TypeDesc) (hu : P.underlying ty = some d) (hd : d.isRow = true) (hi : (P.info? ty).map (·.size) = some n)
    (h : wpList P ops Q rest (a.put o.dst (.agg (Row n g))) w) : wpList P ops Q (o :: rest) a w := by
  refine wpList_load_mid hgd ty x ho b off hx (Row n g).toList d hc hu hd (by rw [Array.length_toList, Row_size]; exact hi) ?_
  have e : (Row n g).toList.toArray = Row n g := Array.toArray_toList
  rw [e]
  exact h
theorem zeros34 : (#[Value.int .i64 0, Value.int .i64 0, Value.int .u8 0, Value.int .u8 0, Value.int .u8 0, Value.int .u8 0, Value.int .u8 0, Value.int .u8 0, Value.int .u8 0, Value.int .u8 0, Value.int .u8 0, Value.int .u8 0, Value.int .u8 0, Value.int .u8 0, Value.int .u8 0, Value.int .u8 0, Value.int .u8 0, Value.int .u8 0, Value.int .u8 0, Value.int .u8 0, Value.int .u8 0, Value.int .u8 0, Value.int .u8 0, Value.int .u8 0, Value.int .u8 0, Value.int .u8 0, Value.int .u8 0, Value.int .u8 0, Value.int .u8 0, Value.int .u8 0, Value.int .u8 0, Value.int .u8 0, Value.int .u8 0, Value.int .u8 0] : Array Value) = Row 34 (sdf 0 fun _ => 0) := by kernel_rfl
theorem zeros35 : (#[Value.string ⟨#[]⟩, Value.int .i64 0, Value.int .i64 0, Value.int .u8 0, Value.int .u8 0, Value.int .u8 0, Value.int .u8 0, Value.int .u8 0, Value.int .u8 0, Value.int .u8 0, Value.int .u8 0, Value.int .u8 0, Value.int .u8 0, Value.int .u8 0, Value.int .u8 0, Value.int .u8 0, Value.int .u8 0, Value.int .u8 0, Value.int .u8 0, Value.int .u8 0, Value.int .u8 0, Value.int .u8 0, Value.int .u8 0, Value.int .u8 0, Value.int .u8 0, Value.int .u8 0, Value.int .u8 0, Value.int .u8 0, Value.int .u8 0, Value.int .u8 0, Value.int .u8 0, Value.int .u8 0, Value.int .u8 0, Value.int .u8 0, Value.int .u8 0] : Array Value) = Row 35 (fun i => if i = 0 then .string ⟨#[]⟩ else hdf 0 (fun _ => 0) i) := by kernel_rfl
theorem sdf_one (ht : Int) (rt : Nat → BitVec 8) (i : Nat) : (sdf ht rt i).oneCell' = true := by
  unfold sdf
  split
  · rfl
  · split <;> rfl
theorem hdf_one (ht : Int) (rt : Nat → BitVec 8) (i : Nat) : (hdf ht rt i).oneCell' = true := by
  unfold hdf
  split
  · rfl
  · split
    · rfl
    · split <;> rfl
theorem two_more (w : World) (Z1 Z2 : Array Value) (t1 t2 n1 n2 : Nat) (g1 g2 : Nat → Value) (h1 : Z1 = Row n1 g1) (h2 : Z2 = Row n2 g2) :
    w.grownBy ((w.alloc (.cells Z1 t1)).alloc (.cells Z2 t2)) none ∧ Blk ((w.alloc (.cells Z1 t1)).alloc (.cells Z2 t2)) w.heap.size t1 n1 g1 ∧ Blk ((w.alloc (.cells Z1 t1)).alloc (.cells Z2 t2)) (w.heap.size + 1) t2 n2 g2 := by
  refine ⟨only_alloc (only_alloc (only_refl w none) _) _, (Blk.new w t1 h1).alloc _, ?_⟩
  have := Blk.new (w.alloc (.cells Z1 t1)) t2 h2
  rw [World.size_alloc] at this
  exact this
set_option maxRecDepth 100000 in
set_option maxHeartbeats 400000 in
theorem state_any (ht : Int) (rt : Nat → BitVec 8) (w : World) : Calls Tryd.prog 11 #[.agg (Row 35 (hdf ht rt))] w fun e w' => e = .returned (.agg (Row 34 (sdf ht rt))) ∧ Below w.heap.size w w' := by
  obtain ⟨hw, hb, hz⟩ := two_more w _ _ 30 37 35 34 _ _ (rfl : Row 35 (hdf ht rt) = Row 35 (hdf ht rt)) zeros34
  have hb0 : Blk (w.alloc (.cells (Row 35 (hdf ht rt)) 30)) w.heap.size 30 35 (hdf ht rt) := Blk.new w 30 rfl
  have c1 : ∀ o : Obj, ((w.alloc (.cells (Row 35 (hdf ht rt)) 30)).alloc o).cell? ⟨w.heap.size, 1, none⟩ = some (.int .i64 ht) := fun o => (hb0.alloc o).cell (by omega)
  have c2 : ∀ o : Obj, ((w.alloc (.cells (Row 35 (hdf ht rt)) 30)).alloc o).cell? ⟨w.heap.size, 2, none⟩ = some (.int .i64 0) := fun o => (hb0.alloc o).cell (by omega)
  have RG := Lib.hid (hdf_range hb)
  clear hb0
  have HZ := Lib.hid (And.intro hw hz)
  clear hb hw hz
  go_enter Tryd.func11, Tryd.ntmps11
  go_wp2_with (first
    | (refine wpList_load_range rfl 28 (.tmp 7) rfl w.heap.size 3 32 (fun i => By (rt i)) rfl RG.out _ Tryd.underlying28 rfl size28 ?_)
    | (refine wpList_build_all rfl 37 #[(0, .tmp 4), (1, .tmp 6), (2, .tmp 8)] rfl [(0, .int .i64 ht), (1, .int .i64 0), (2, .agg (Row 32 fun i => By (rt i)))] rfl _ (built37 ht rt) ?_)
    | (refine wpList_store_blk rfl 37 (.tmp 2) (.tmp 9) rfl (w.heap.size + 1) 37 34 _ (sdf ht rt) _ rfl rfl rfl HZ.out.2 size37 (fun i _ => sdf_one ht rt i) ?_))
  exact bodyPost_ret (results_blk rfl _ _ (w.heap.size + 1) 37 34 _ rfl (HZ.out.2.setRow_ _) _ Tryd.underlying37 rfl size37) rfl ⟨rfl, below_of_only (only_setRow HZ.out.1 (.inr (Nat.le_succ _)) _)⟩
end Go.Proofs.YtlfcaagogeclpaaDoor
