/-
  twinspanlaw14.ClientSame: for any two clients, whatever their texts, period, frozen mark and states, and wherever their slices lie, the law returns true and both clients read as they did. Conditions: the two tables of package hash (begin, factors) lie as the program's text lays them, which the card ties to that text.
-/
import Derived.Test.YtlfcaagogeclpaaDoorNN
import Derived.Test.YtlfcaagogeclpaaDoorCards
import Derived.Test.YtlfcaagogeclpaaDoorTie
import Derived.WalkKit
import Derived.ProofKit
import Derived.OpenShut
import Derived.Deep.DeepHandedRow
import Derived.Lib.LaidTab
import Derived.Stop.LaidErr
import Derived.Carry
import Derived.ChangeSame
namespace Go.Proofs.YtlfcaagogeclpaaDoor
open Go.ChangeShapes Go.WideShapes Go.ChangeAt Go.RowKit
theorem own : ownKnob Tryd.prog.godebug = none := by kernel_rfl
theorem gBegin : Tryd.prog.globalNamed "twinspan/hash.begin" = some 0 := by kernel_rfl
theorem gFactors : Tryd.prog.globalNamed "twinspan/hash.factors" = some 1 := by kernel_rfl
theorem gBeginType : (Tryd.prog.globals[0]?).map (·.type) = some 84 := by kernel_rfl
theorem gFactorsType : (Tryd.prog.globals[1]?).map (·.type) = some 93 := by kernel_rfl
theorem cells84 : Tryd.prog.cellsOf 84 = 8 := by kernel_rfl
theorem cells93 : Tryd.prog.cellsOf 93 = 64 := by kernel_rfl
theorem cells68 : Tryd.prog.cellsOf 68 = 1 := by kernel_rfl
def zsF : List Int := (List.range 64).map fun i => ((Sha.K i).toNat : Int)
def zsB : List Int := (List.range 8).map fun i => ((Sha.X0 i).toNat : Int)
theorem laidF {H : Type} : (Rows.laid_twinspan_hash_factors : DataW H) = Lib.tabData .u32 zsF := by kernel_rfl
theorem laidB {H : Type} : (Rows.laid_twinspan_hash_begin : DataW H) = Lib.tabData .u32 zsB := by kernel_rfl
/-- What the row's list gives: the two tables' cells. -/
theorem tables {W : World} (h : laidMetH Tryd.prog Rows.clientSameRow.laid W) : GL W := by
  have h1 : laidMet Tryd.prog [("twinspan/hash.factors", Lib.tabData .u32 zsF), ("twinspan/hash.begin", Lib.tabData .u32 zsB)] W := by
    rw [← laidF, ← laidB]
    exact h
  have tF := Lib.tabIs_of_head gFactors gFactorsType Tryd.underlying93 Tryd.underlying68 cells68 cells93 h1
  have tB := Lib.tabIs_of_head gBegin gBeginType Tryd.underlying84 Tryd.underlying68 cells68 cells84 (laidMet.tail h1)
  refine ⟨fun i hi => ?_, fun i hi => ?_⟩
  · rw [tF.cell gFactors i (by simp [zsF]; exact hi)]
    simp [zsF, hi, U]
  · rw [tB.cell gBegin i (by simp [zsB]; exact hi)]
    simp [zsB, hi, U]
set_option maxRecDepth 100000 in
theorem laidOut : laidOutB Tryd.prog = true := by kernel_rfl
section
variable {H : Type} {enc : TypeId × Value → H} {P : Program}
/-- The row's last step, of a world of which it is known that nothing has turned below its old size. -/
theorem post_of_below {f : Func} {s : ChangeSpec} {apart fresh handsOn again : Bool} {W W' : World} {args : Array Value} {v : Value} {ds gs : List (DataW H)} {before pa pv : List MemPlace}
    (hW : DataW.Whole enc P f.params.toList s.vars apart W args.toList ds gs before)
    (hres : ∀ (b : Nat) (sp : Nat → Bool) (hd : Bool), DataW.TrodAll enc P W' b sp hd f.resultTypes.toList (v.resultList f.resultTypes.size) (s.fn H (ds ++ gs)).results [])
    (hargs : ∀ sp : Nat → Bool, (∀ p ∈ before, sp p.block = true) → DataW.TrodAll enc P W' 0 sp true f.params.toList args.toList (s.fn H (ds ++ gs)).args pa)
    (hvars : ∀ sp : Nat → Bool, (∀ p ∈ before, sp p.block = true) → DataW.TrodVars enc P W' sp s.vars (s.fn H (ds ++ gs)).vars pv)
    (hps : before = pa ++ pv) (hb : Below W.heap.size W W')
    (hok : ∀ (j : Nat) (t : TypeId) (r : Value), f.resultTypes[j]? = some t → (v.resultList f.resultTypes.size)[j]? = some r → Value.okWide P W' .any 0 t r) :
    s.post enc P f apart fresh handsOn again W args v W' := by
  have hlt : ∀ p ∈ before, p.block < W.heap.size := fun p hp => hW.lt p hp
  have hold : ∀ p ∈ before, (fun b => decide (b < W.heap.size)) p.block = true := fun p hp => by simpa using hlt p hp
  refine ⟨ds, gs, before, [], pa, pv, hW, hres _ _ _, hargs _ hold, hvars _ hold, World.keptBut_mono (fun p hp => ⟨hp, ?_⟩) (hb.frame (· ∈ before)), fun _ => ?_⟩
  · rw [hps, List.mem_append] at hp
    exact Or.inr hp
  · obtain ⟨_, _, _, _, _, hz, hn⟩ := hW
    refine ⟨hok, _, _, ([] ++ pa) ++ pv, ⟨[] ++ pa, pv, trodAll_append (hargs _ (fun _ _ => rfl)) (hres _ _ _), hvars _ (fun _ _ => rfl), rfl, ?_, ?_⟩, ?_⟩
    · intro b off hp
      have hin : MemPlace.cell b off ∈ before := by rw [hps]; simpa using hp
      rw [hb.frozen (hlt _ hin)]
      exact hz b off hin
    · intro ha
      have := hn ha
      rw [hps] at this
      simpa using this
    · intro p hp _
      rw [hps]
      simpa using hp
end
set_option maxRecDepth 100000 in
/-- What the walk gives, for every pair of clients and every world that holds the tables. -/
theorem contract (H : Type) (enc : TypeId × Value → H) (W : World) (base : Nat) (args : Array Value) (ds gs : List (DataW H)) (before : List MemPlace)
    (hval : ∀ (j : Nat) t v, Tryd.f3.params[j]? = some t → args[j]? = some v → Value.okWide Tryd.prog W .any base t v)
    (hW : DataW.Whole enc Tryd.prog Tryd.f3.params.toList Rows.clientSameSpec.vars false W args.toList ds gs before) (hL : laidMetH Tryd.prog Rows.clientSameRow.laid W) :
    Calls Tryd.prog 3 args W fun e W' => ∃ v, e = .returned v ∧ Rows.clientSameSpec.post enc Tryd.prog Tryd.f3 false true false false W args v W' := by
  have hW' := hW
  have hlt := hW.lt
  obtain ⟨p, q, hA0, hV, rfl, hfz, hnd⟩ := hW
  have hA : DataW.TrodAll enc Tryd.prog W 0 (fun _ => true) true Tryd.f3.params.toList args.toList ds p := hA0
  rw [Tryd.params3] at hA hval
  obtain ⟨v0, vs0, d0, ds0, p0, q0, hargs, rfl, rfl, h0, r0⟩ := trodAll_cons hA
  obtain ⟨v1, vs1, d1, ds1, p1, q1, rfl, rfl, rfl, h1, r1⟩ := trodAll_cons r0
  obtain ⟨rfl, rfl, rfl⟩ := trodAll_nil r1
  obtain rfl : args = #[v0, v1] := by cases args; simp_all
  obtain ⟨rfl, rfl⟩ := trodVars_none hV
  obtain ⟨x, rfl, hx⟩ := client_open (hval 0 24 v0 rfl rfl) h0
  obtain ⟨y, rfl, hy⟩ := client_open (hval 1 24 v1 rfl rfl) h1
  clear hA0
  simp only [List.append_nil] at hW' hlt
  refine (clientsame_any x y W (tables hL) hx hy).mono fun e W' ⟨he, hb⟩ => ?_
  subst he
  refine ⟨_, rfl, post_of_below (pa := p0 ++ p1) (pv := []) hW' (fun _ _ _ => trodAll_cons_mk (shut_bool Tryd.underlying4 _) trodAll_mk0) (fun sp hsp => ?_) (fun _ _ => rfl) (by simp) hb (ok_one (by kernel_rfl) rfl (okWide_bool_mk Tryd.underlying4 _))⟩
  rw [Tryd.params3]
  exact trodAll_mk2 (WideElems.Trod_stays laidOut (by kernel_rfl) (of_decide_eq_true (by kernel_rfl)) h0 (fun z hz => hb.same (hlt z (by simp [hz]))) (fun z hz => hsp z (by simp [hz])))
    (WideElems.Trod_stays laidOut (by kernel_rfl) (of_decide_eq_true (by kernel_rfl)) h1 (fun z hz => hb.same (hlt z (by simp [hz]))) (fun z hz => hsp z (by simp [hz])))
/-- A client without anything, for the witness. -/
def zeroClient : Value := .agg #[.string ⟨#[]⟩, .string ⟨#[]⟩, .int .i64 0, .bool false, .slice none 0 0]
def zeroData {H : Type} : DataW H := .agg [.lit (.string []), .lit (.string []), .lit (.int .i64 0), .lit (.bool false), .nil]
/-- The cells of a table, laid. -/
def layAt (zs : List Int) : Obj → Obj
  | .cells _ t frozen => .cells (zs.map fun z => Value.int .u32 z).toArray t frozen
  | o => o
/-- A world for the witness: the settled one, the tables holding what their initialisers lay. -/
noncomputable def laidWorld (os : Os) : World :=
  { World.holding Tryd.prog os ⟨#[], #[], []⟩ with heap := ((World.holding Tryd.prog os ⟨#[], #[], []⟩).heap.modify 0 (layAt zsB)).modify 1 (layAt zsF) }
set_option maxRecDepth 100000 in
theorem laid_met (os : Os) : laidMet Tryd.prog Rows.clientSameRow.laid ((laidWorld os).forCall (fun _ _ => 0) ⟨#[], #[zeroClient, zeroClient], []⟩).memory :=
  laidMet_of_run' 8 (by kernel_rfl) (by kernel_rfl)
theorem reads (os : Os) {H : Type} (enc : TypeId × Value → H) : ∃ places, DataW.whole enc Tryd.prog ((laidWorld os).forCall (fun _ _ => 0) ⟨#[], #[zeroClient, zeroClient], []⟩).memory Tryd.f3.params.toList Rows.clientSameSpec.vars false #[zeroClient, zeroClient].toList 8 = some ([zeroData, zeroData], [], places) :=
  ⟨[], by kernel_rfl⟩
set_option maxRecDepth 100000 in
theorem lifted (os : Os) (started : os.Started) (H : Type) (enc : TypeId × Value → H) (F : Stop.Interp) :
    ReturnsInHanded {} Tryd.checked os 3 .any ((OpenSpec.ofChange Rows.clientSameSpec).preRow enc Tryd.prog Tryd.f3 Rows.clientSameRow.domain false Rows.clientSameRow.laid) (((OpenSpec.ofChange Rows.clientSameSpec).at F).post enc Tryd.prog Tryd.f3 false true false false) := by
  obtain ⟨places, hx⟩ := reads os enc
  refine returnsInHanded_of_row (C := Tryd.checked) (s := OpenSpec.ofChange Rows.clientSameSpec) own started (by kernel_rfl) Tryd.func3
    (witness_row_at (enc := enc) (C := Tryd.checked) false (laidWorld os) #[zeroClient, zeroClient] rfl (by kernel_rfl) (by kernel_rfl) (by kernel_rfl)
      (OpenSpec.preRow_of_cond 8 hx (by kernel_rfl) (fun k hk => by cases hk) (by kernel_rfl) (laid_met os))) ?_
  intro W base args ds gs before hval hW _ _ _ hL _ _
  exact contract H enc W base args ds gs before hval hW hL
set_option maxRecDepth 100000 in
theorem said : Rows.ClientSameSaid :=
  OpenClaim.holds_of_cond 3 Tryd.f3 rfl rfl rfl rfl rfl rfl rfl ⟨rfl, rfl, rfl, rfl, rfl⟩ rfl rfl rfl rfl rfl (by kernel_rfl) Tryd.func3 (by kernel_rfl)
    (of_decide_eq_true (by kernel_rfl)) (by unfold Func.isWrapper; first | (rw [if_pos (by decide +kernel)]; kernel_rfl) | (rw [if_neg (by decide +kernel)]; exact ⟨rfl, rfl⟩))
    (fun os started H enc _ F => by rw [OpenClaim.pre_eq_preRow]; exact lifted os started H enc F)
set_option maxRecDepth 100000 in
theorem plain (f : FuncId) (fn : Func) (hf : Tryd.pinned.checked.prog.funcNamed "twinspan/twinspanlaw14.ClientSame" = some f) (hfn : Tryd.pinned.checked.prog.funcs[f]? = some fn) :
    false = Tryd.pinned.checked.prog.looks [] ∧ ∀ (j : Nat) t, fn.params[j]? = some t → Tryd.pinned.checked.prog.wantsStandIn t = false := by
  obtain rfl : f = 3 := Option.some.inj ((show Tryd.prog.funcNamed "twinspan/twinspanlaw14.ClientSame" = some 3 by kernel_rfl).symm.trans hf) |>.symm
  obtain rfl : fn = Tryd.f3 := (Option.some.inj (Tryd.func3.symm.trans hfn)).symm
  refine ⟨by kernel_rfl, fun j t ht => ?_⟩
  rw [Tryd.params3] at ht
  obtain rfl : t = 24 := by simpa using Array.mem_of_getElem? ht
  exact (show Tryd.prog.wantsStandIn 24 = false by kernel_rfl)
/-- The card. -/
theorem clientSame_card : Rows.ClientSameCardSaid :=
  Claim7.holds_tied_plain_at .later [] _ _ _ _ said (fun _ h => by cases h) (by kernel_rfl) (fun _ h => by cases h) clientSame_row_tie rfl ⟨rfl, rfl⟩ (by kernel_rfl) rfl plain (by kernel_rfl)
#print axioms clientSame_card
end Go.Proofs.YtlfcaagogeclpaaDoor
