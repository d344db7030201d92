/-
  strings.Repeat by the shelf's contract (laid in plain words by the kit's lay-plain.mjs), and at a text of one nought.
-/
import Derived.Shelf.Strings.Repeat
import Derived.Test.YtlfcaagogeclpaaDoorD1
import Derived.Test.YtlfcaagogeclpaaDoorProg
namespace Go.Proofs
open Go.Shelf Go.RowKit
def Tryd.lays105_ren : Go.Shelf.Ren := ⟨fun | 105 => 56 | 212 => 61 | 99 => 62 | 165 => 63 | 166 => 64 | 170 => 65 | 169 => 66 | 263 => 67 | 264 => 68 | 206 => 69 | 240 => 70 | 241 => 71 | 276 => 72 | 277 => 73 | n => n, fun | 9 => 9 | 3 => 3 | 4 => 4 | 20 => 20 | 0 => 0 | 46 => 83 | 109 => 96 | 5 => 5 | 72 => 101 | 76 => 105 | 51 => 68 | 146 => 109 | 53 => 70 | 148 => 111 | 70 => 99 | 37 => 55 | 75 => 104 | 127 => 113 | 164 => 114 | 80 => 108 | n => n, fun | n => n⟩
theorem Tryd.lays105 : Go.Proofs.Lays.n105 Tryd.prog Tryd.lays105_ren := {
  mixed := by kernel_rfl
  f99 := Tryd.func62.trans (congrArg some (by kernel_rfl))
  f105 := Tryd.func56.trans (congrArg some (by kernel_rfl))
  f165 := Tryd.func63.trans (congrArg some (by kernel_rfl))
  f166 := Tryd.func64.trans (congrArg some (by kernel_rfl))
  f169 := Tryd.func66.trans (congrArg some (by kernel_rfl))
  f170 := Tryd.func65.trans (congrArg some (by kernel_rfl))
  f206 := Tryd.func69.trans (congrArg some (by kernel_rfl))
  f212 := Tryd.func61.trans (congrArg some (by kernel_rfl))
  f240 := Tryd.func70.trans (congrArg some (by kernel_rfl))
  f241 := Tryd.func71.trans (congrArg some (by kernel_rfl))
  f263 := Tryd.func67.trans (congrArg some (by kernel_rfl))
  f264 := Tryd.func68.trans (congrArg some (by kernel_rfl))
  f276 := Tryd.func72.trans (congrArg some (by kernel_rfl))
  f277 := Tryd.func73.trans (congrArg some (by kernel_rfl))
  t0 := Tryd.underlying0
  a0 := Tryd.isAgg0
  z0 := Tryd.sizeOf0
  v0 := Tryd.zeroValue0
  t3 := Tryd.underlying3
  a3 := Tryd.isAgg3
  z3 := Tryd.sizeOf3
  v3 := Tryd.zeroValue3
  t4 := Tryd.underlying4
  a4 := Tryd.isAgg4
  z4 := Tryd.sizeOf4
  v4 := Tryd.zeroValue4
  t5 := Tryd.underlying5
  a5 := Tryd.isAgg5
  z5 := Tryd.sizeOf5
  v5 := Tryd.zeroValue5
  t9 := Tryd.underlying9
  a9 := Tryd.isAgg9
  z9 := Tryd.sizeOf9
  v9 := Tryd.zeroValue9
  t20 := Tryd.underlying20
  a20 := Tryd.isAgg20
  z20 := Tryd.sizeOf20
  v20 := Tryd.zeroValue20
  t37 := Tryd.underlying55
  a37 := Tryd.isAgg55
  z37 := Tryd.sizeOf55
  v37 := Tryd.zeroValue55
  t46 := Tryd.underlying83
  a46 := Tryd.isAgg83
  z46 := Tryd.sizeOf83
  v46 := Tryd.zeroValue83
  t51 := Tryd.underlying68
  a51 := Tryd.isAgg68
  z51 := Tryd.sizeOf68
  v51 := Tryd.zeroValue68
  t53 := Tryd.underlying70
  a53 := Tryd.isAgg70
  z53 := Tryd.sizeOf70
  v53 := Tryd.zeroValue70
  t70 := Tryd.underlying99
  a70 := Tryd.isAgg99
  z70 := Tryd.sizeOf99
  v70 := Tryd.zeroValue99
  t72 := Tryd.underlying101
  a72 := Tryd.isAgg101
  z72 := Tryd.sizeOf101
  v72 := Tryd.zeroValue101
  t75 := Tryd.underlying104
  a75 := Tryd.isAgg104
  z75 := Tryd.sizeOf104
  v75 := Tryd.zeroValue104
  t76 := Tryd.underlying105
  a76 := Tryd.isAgg105
  z76 := Tryd.sizeOf105
  v76 := Tryd.zeroValue105
  t109 := Tryd.underlying96
  a109 := Tryd.isAgg96
  z109 := Tryd.sizeOf96
  v109 := Tryd.zeroValue96
  t127 := Tryd.underlying113
  a127 := Tryd.isAgg113
  z127 := Tryd.sizeOf113
  v127 := Tryd.zeroValue113
  t146 := Tryd.underlying109
  a146 := Tryd.isAgg109
  z146 := Tryd.sizeOf109
  v146 := Tryd.zeroValue109
  t148 := Tryd.underlying111
  a148 := Tryd.isAgg111
  z148 := Tryd.sizeOf111
  v148 := Tryd.zeroValue111
  t164 := Tryd.underlying114
  a164 := Tryd.isAgg114
  z164 := Tryd.sizeOf114
  v164 := Tryd.zeroValue114 }
theorem Tryd.Builder_Extra_105 : Builder.Extra Tryd.prog Tryd.lays105_ren := {
  sizeBuilder := by kernel_rfl
  liesBuilder := by kernel_rfl
  t5 := Tryd.underlying5
  a5 := Tryd.isAgg5
  z5 := Tryd.sizeOf5
  v5 := Tryd.zeroValue5
  infoByte := by kernel_rfl
  cellsByte := by kernel_rfl
  sizeByte := by kernel_rfl
  neB5 := by decide }
theorem Tryd.strings_Repeat (s : ByteArray) (c : Nat) (w : World) (hc : c ≤ 9223372036854775807) (hlen : s.size * c ≤ 140737488355328) :
    Calls Tryd.prog 56 #[.string s, .int .i64 c] w fun e w' => e = .returned (.string ⟨(Lib.repeatL s.data.toList c).toArray⟩) ∧ Below w.heap.size w w' := Any.strings_Repeat Tryd.lays105 Tryd.Builder_Extra_105 s c w hc hlen
namespace YtlfcaagogeclpaaDoor
theorem repeatL_zero : ∀ c : Nat, Lib.repeatL [(0 : UInt8)] c = List.replicate c 0 := by
  intro c
  induction c with
  | zero => rfl
  | succ c ih => rw [List.replicate_succ, ← ih]; rfl
/-- strings.Repeat of one nought. -/
theorem repeat_any (c : Nat) (hc : c ≤ 1000) (w : World) : Calls Tryd.prog 56 #[.string ⟨#[0]⟩, .int .i64 (c : Int)] w fun e w' => e = .returned (.string (str c fun _ => 0)) ∧ Below w.heap.size w w' := by
  refine (Tryd.strings_Repeat ⟨#[0]⟩ c w (by omega) (by show 1 * c ≤ _; omega)).mono fun e w' ⟨he, hb⟩ => ⟨?_, hb⟩
  rw [he]
  have h : (⟨(Lib.repeatL [(0 : UInt8)] c).toArray⟩ : ByteArray) = str c fun _ => 0 := by
    rw [repeatL_zero]
    refine str_of (by simp [ByteArray.size]) fun i hi => ?_
    simp [hi]
  exact congrArg (fun x => Ending.returned (Value.string x)) h
end YtlfcaagogeclpaaDoor
end Go.Proofs
