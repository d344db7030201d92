/-
  Texts told by a function of the place; slices of bytes of the call's own, appended to; conversions between them; copy of a text into a block.
-/
import Derived.Test.YtlfcaagogeclpaaDoorAA
import Derived.Lib.ConvBytes
import Derived.ArgAppend
namespace Go.Proofs.YtlfcaagogeclpaaDoor
open Go.RowKit

/-- The text of n bytes, byte i is c i. -/
def str (n : Nat) (c : Nat → BitVec 8) : ByteArray := ⟨Array.ofFn (n := n) fun i => UInt8.ofBitVec (c i.val)⟩
/-- Byte i of a text. -/
def sb (s : ByteArray) (i : Nat) : BitVec 8 := (s.data[i]?.getD 0).toBitVec
theorem str_size (n : Nat) (c : Nat → BitVec 8) : (str n c).size = n := by simp [str, ByteArray.size]
theorem str_get {n : Nat} {c : Nat → BitVec 8} {i : Nat} (h : i < n) : (str n c).data[i]? = some (UInt8.ofBitVec (c i)) := by simp [str, h]
theorem str_get_none {n : Nat} {c : Nat → BitVec 8} {i : Nat} (h : n ≤ i) : (str n c).data[i]? = none := by simp [str, h]
theorem sb_str {n : Nat} {c : Nat → BitVec 8} {i : Nat} (h : i < n) : sb (str n c) i = c i := by unfold sb; rw [str_get h]; rfl
theorem str_of {s : ByteArray} {n : Nat} {c : Nat → BitVec 8} (hn : s.size = n) (h : ∀ i, i < n → s.data[i]? = some (UInt8.ofBitVec (c i))) : s = str n c := by
  have : s.data = (str n c).data := by
    apply Array.ext_getElem?
    intro i
    by_cases hi : i < n
    · rw [str_get hi, h i hi]
    · rw [str_get_none (by omega), Array.getElem?_eq_none (by have : s.data.size = n := hn; omega)]
  cases s
  exact congrArg ByteArray.mk this
theorem str_congr {n : Nat} {c d : Nat → BitVec 8} (h : ∀ i, i < n → c i = d i) : str n c = str n d :=
  str_of (str_size n c) fun i hi => by rw [str_get hi, h i hi]
theorem str_sb (s : ByteArray) : s = str s.size (sb s) :=
  str_of rfl fun i hi => by
    have hi' : i < s.data.size := hi
    unfold sb
    rw [Array.getElem?_eq_getElem hi']; rfl
theorem str_append (n m : Nat) (c d : Nat → BitVec 8) : str n c ++ str m d = str (n + m) (fun i => if i < n then c i else d (i - n)) := by
  refine str_of (by rw [ByteArray.size_append, str_size, str_size]) fun i hi => ?_
  rw [ByteArray.data_append]
  by_cases h : i < n
  · rw [if_pos h, Array.getElem?_append_left (by simpa [str] using h), str_get h]
  · rw [if_neg h, Array.getElem?_append_right (by simp [str]; omega)]
    have : (str n c).data.size = n := str_size n c
    rw [this, str_get (by omega)]
theorem str_zero (c : Nat → BitVec 8) : str 0 c = ByteArray.empty := by simp [str]; rfl

section
variable {P : Program}
theorem cell_of_sb {s : ByteArray} {i : Nat} (h : i < s.size) : (s.data.map fun b => Value.int .u8 (b.toNat : Int))[i]? = some (By (sb s i)) := by
  have h' : i < s.data.size := h
  rw [Array.getElem?_map]
  unfold sb
  rw [Array.getElem?_eq_getElem h']; rfl
theorem foldl_push (c : Nat → BitVec 8) : ∀ (n k : Nat) (s : ByteArray), s = str k c → ((List.range' k n).map fun i => ((c i).toNat : Int)).foldl (fun r n => r.push (UInt8.ofNat n.toNat)) s = str (k + n) c
  | 0, k, s, h => by simpa using h
  | n + 1, k, s, h => by
    simp only [List.range'_succ, List.map_cons, List.foldl_cons]
    have := foldl_push c n (k + 1) (s.push (UInt8.ofNat ((c k).toNat : Int).toNat)) (by
      subst h
      refine str_of (by simp [ByteArray.size_push, str_size]) fun i hi => ?_
      simp only [ByteArray.data_push]
      by_cases e : i < k
      · rw [Array.getElem?_push_lt (by simpa [str] using e)]
        have := str_get (c := c) e
        rw [Array.getElem?_eq_getElem (by simpa [str] using e)] at this
        exact this
      · obtain rfl : i = k := by omega
        have hs : (str i c).data.size = i := str_size i c
        have he : UInt8.ofNat ((c i).toNat : Int).toNat = UInt8.ofBitVec (c i) := by
          rw [Int.toNat_natCast]
          apply UInt8.toBitVec_inj.1
          simp
        rw [he]
        have := Array.getElem?_push_size (xs := (str i c).data) (x := UInt8.ofBitVec (c i))
        rw [hs] at this
        exact this)
    rw [this]
    congr 1
    omega
/-- string(b). -/
theorem run_str (w : World) {src dst e : Nat} (hs : P.underlying src = some (.slice e)) (he : P.underlying e = some (.int .u8)) (hd : P.underlying dst = some .string)
    (b o n cap : Nat) (c : Nat → BitVec 8) (hc : ∀ i, i < n → w.cell? ⟨b, o + i, none⟩ = some (By (c i))) :
    (convert src dst (.slice (some ⟨b, o, none⟩) n cap)).run P w = .ok (.string (str n c)) w := by
  rw [run_convert_bytes_string w src dst e _ _ _ hs he hd]
  have hl : (loadCells ⟨b, o, none⟩ n).run P w = .ok (((List.range' 0 n).map fun i => ((c i).toNat : Int)).map (Value.int .u8)).toArray w := by
    have := run_loadCells_list (P := P) w ⟨b, o, none⟩ (((List.range' 0 n).map fun i => ((c i).toNat : Int)).map (Value.int .u8)) (fun j v hj => by
      rw [Addr.add_mid]
      simp only [List.getElem?_map, Option.map_eq_some_iff] at hj
      obtain ⟨a, ⟨a', ha, rfl⟩, rfl⟩ := hj
      have hjn : j < n := by
        have := (List.getElem?_eq_some_iff.1 ha).1
        simpa using this
      rw [List.getElem?_range' hjn] at ha
      simp at ha
      subst ha
      exact hc j hjn)
    simpa using this
  rw [run_bytesToString w _ n cap _ hl, foldl_push c n 0 _ (str_zero c).symm]
  simp
theorem run_str_none (w : World) {src dst e : Nat} (hs : P.underlying src = some (.slice e)) (he : P.underlying e = some (.int .u8)) (hd : P.underlying dst = some .string) (n cap : Nat) :
    (convert src dst (.slice none n cap)).run P w = .ok (.string ByteArray.empty) w := by
  rw [run_convert_bytes_string w src dst e _ _ _ hs he hd]
  rfl
/-- s + t. -/
theorem run_cat (w : World) (t : Nat) (n m : Nat) (c d : Nat → BitVec 8) (h : n + m ≤ 9223372036854775807) : (binOp .add t (.string (str n c)) (.string (str m d))).run P w = .ok (.string (str (n + m) (fun i => if i < n then c i else d (i - n)))) w := by
  show (Op.stringOp .add _ _).run P w = _
  rw [run_string_add_sum w _ _ (by rw [str_size, str_size]; exact h), str_append]

@[go_sem high] theorem run_cat_str (w : World) (n m : Nat) (c d : Nat → BitVec 8) (h : n + m ≤ 9223372036854775807) : (Op.stringOp .add (str n c) (str m d)).run P w = .ok (.string (str (n + m) (fun i => if i < n then c i else d (i - n)))) w :=
  run_cat w 0 n m c d h
/-- copy(p, s): the whole text goes into the midst of a block. -/
theorem run_copy_str (w : World) {dT sT ty e : Nat} (hu : P.underlying dT = some (.slice e)) (hsz : (P.info? e).map (·.size) = some 1) (b o dLen dCap t N : Nat) (g : Nat → Value) (s : ByteArray) (hb : Blk w b t N g) (hfit : s.size ≤ dLen) (hin : o + s.size ≤ N) :
    (Builtin.copy_ #[dT, sT] ty #[.slice (some ⟨b, o, none⟩) dLen dCap, .string s]).run P w = .ok (.int .i64 (s.size : Int)) (w.setRow b (Row N fun i => if o ≤ i ∧ i < o + s.size then By (sb s (i - o)) else g i)) := by
  have hmin : Nat.min s.size dLen = s.size := Nat.min_eq_left hfit
  have hex : (s.extract 0 s.size) = s := by
    simp
  have hlen : (s.data.map fun b => Value.int .u8 (b.toNat : Int)).toList.length = s.size := by
    rw [Array.length_toList, Array.size_map]; rfl
  have hst := run_storeCells_at P b o t (s.data.map fun b => Value.int .u8 (b.toNat : Int)).toList 0 (Row N g) w hb (by rw [hlen, Row_size]; omega) (fun v hv => by
    simp at hv
    obtain ⟨x, _, rfl⟩ := hv
    rfl)
  have hrow : ((Row N g).toList.take (o + 0) ++ (s.data.map fun b => Value.int .u8 (b.toNat : Int)).toList ++ (Row N g).toList.drop (o + 0 + (s.data.map fun b => Value.int .u8 (b.toNat : Int)).toList.length)).toArray = Row N fun i => if o ≤ i ∧ i < o + s.size then By (sb s (i - o)) else g i := by
    refine Row_of ?_ fun i hi => ?_
    · have hR : (Row N g).toList.length = N := by rw [Array.length_toList, Row_size]
      rw [List.size_toArray, List.length_append, List.length_append, List.length_take, List.length_drop, hlen, hR]
      omega
    · have hR : (Row N g).toList.length = N := by rw [Array.length_toList, Row_size]
      rw [hlen, List.getElem?_toArray, Nat.add_zero]
      by_cases h1 : i < o
      · rw [List.append_assoc, List.getElem?_append_left (by rw [List.length_take, hR]; omega), List.getElem?_take, if_pos h1, Array.getElem?_toList, Row_get hi, if_neg (by omega)]
      · by_cases h2 : i < o + s.size
        · rw [List.append_assoc, List.getElem?_append_right (by rw [List.length_take, hR]; omega), List.length_take, hR, Nat.min_eq_left (by omega), List.getElem?_append_left (by rw [hlen]; omega), Array.getElem?_toList, cell_of_sb (by omega), if_pos ⟨by omega, h2⟩]
        · rw [List.getElem?_append_right (by rw [List.length_append, List.length_take, hR, hlen]; omega), List.length_append, List.length_take, hR, hlen, Nat.min_eq_left (by omega), List.getElem?_drop, Array.getElem?_toList, show o + s.size + (i - (o + s.size)) = i by omega, Row_get hi, if_neg (by omega)]
  rw [hrow] at hst
  have hfirst : (Builtin.firstCells 1 s.size (.string s)).run P w = .ok (s.data.map fun b => Value.int .u8 (b.toNat : Int)) w := by
    show Result.ok ((s.extract 0 s.size).data.map fun b => Value.int .u8 (b.toNat : Int)) w = _
    rw [hex]
  cases hq : P.info? e with
  | none => simp [hq] at hsz
  | some i =>
    have hs : i.size = 1 := by simpa [hq] using hsz
    simp only [Array.toList_map] at hst
    simp [Builtin.copy_, run_underlying hu, Builtin.lenOf, hmin, hfirst, sizeOf, typeInfo, hq, hs, hst, goInt]
end
end Go.Proofs.YtlfcaagogeclpaaDoor
