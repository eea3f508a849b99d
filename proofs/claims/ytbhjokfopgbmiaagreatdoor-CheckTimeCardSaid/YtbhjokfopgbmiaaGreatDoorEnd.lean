/- CheckTime answers true at every input: two times and a choice; conditions: none. -/
import Derived.Test.YtbhjokfopgbmiaaGreatDoorCards
import Derived.Test.YtbhjokfopgbmiaaGreatDoorTie
import Derived.Test.YtbhjokfopgbmiaaGreatDoorRunB
import Derived.WalkKit
import Derived.ProofKit
import Derived.OpenShut
import Derived.Deep.DeepHandedRow
import Derived.Lib.LaidTab
namespace Go.Proofs.YtbhjokfopgbmiaaGreatDoor.checkTime
open Go.ChangeShapes Go.WideShapes Go.ChangeAt Go.RowKit

theorem own : ownKnob Tryz.prog.godebug = none := by kernel_rfl
theorem names : (Tryz.prog.funcs.toList.all fun f => !(f.name == "runtime.NumGoroutine")) = true := by kernel_rfl
theorem globals : Tryz.prog.globals.size = 6 := by kernel_rfl
theorem table : Ax.Table Tryz.prog (Ax.ftOf Tryz.prog) := Ax.table_of names


/-- What comes of a call: the answer is true, what was there stays. -/
theorem walk (a b : Int) (c : Bool) (w : World) : Calls Tryz.prog 3 #[.int .i64 a, .int .i64 b, .bool c] w fun e w' =>
    e = .returned (.bool true) ∧ (w'.os = w.os ∧ w'.output = w.output) ∧ w.heap.size ≤ w'.heap.size ∧ ∀ i, i < w.heap.size → w'.heap[i]? = w.heap[i]? := by
  have h : ∀ c, Ax.call (ρ := Bool) (Ax.ftOf Tryz.prog) (Ax.hookOf (Ax.ftOf Tryz.prog) joined 100000) 100000 3 [.tok .i64 0, .tok .i64 1, .bool c] .e 6 Ax.isT = true := by
    intro c
    cases c
    · exact run_false
    · exact run_true
  have := Ax.calls_true table joined 100000 100000 3 6 globals.symm [.tok .i64 0, .tok .i64 1, .bool c] (by simp [Ax.okvL, Ax.okv]) (h c) (fun i => if i = 0 then a else b) w
  simpa [Ax.concL, Ax.conc] using this

theorem kept {W W' : World} (h : (W'.os = W.os ∧ W'.output = W.output) ∧ W.heap.size ≤ W'.heap.size ∧ ∀ i, i < W.heap.size → W'.heap[i]? = W.heap[i]?) (may : MemPlace → Prop) : W.keptBut W' may := by
  refine ⟨h.1.1, h.1.2, fun i hi => ?_⟩
  rw [h.2.2 i hi]
  cases W.heap[i]? with
  | none => rfl
  | some o => cases o <;> first | exact ⟨rfl, rfl, rfl, fun _ _ => rfl⟩ | exact .inr ⟨rfl, rfl⟩ | rfl

set_option maxRecDepth 100000 in
theorem contract (H : Type) (enc : TypeId × Value → H) (W : World) (base : Nat) (args : Array Value) (ds gs : List (DataW H)) (before : List MemPlace)
    (hval : ∀ (j : Nat) t v, Tryz.f3.params[j]? = some t → args[j]? = some v → Value.okWide Tryz.prog W .any base t v)
    (hW : DataW.Whole enc Tryz.prog Tryz.f3.params.toList Rows.checkTimeSpec.vars false W args.toList ds gs before) :
    Calls Tryz.prog 3 args W fun e W' => ∃ v, e = .returned v ∧ Rows.checkTimeSpec.post enc Tryz.prog Tryz.f3 false true false false W args v W' := by
  have hW' := hW
  obtain ⟨p, q, hA0, hV, rfl, hfz, hnd⟩ := hW
  have hA : DataW.TrodAll enc Tryz.prog W 0 (fun _ => true) true Tryz.f3.params.toList args.toList ds p := hA0
  rw [Tryz.params3] at hA hval
  obtain ⟨v0, vs0, d0, ds0, p0, q0, hargs, rfl, rfl, h0, r0⟩ := trodAll_cons hA
  obtain ⟨v1, vs1, d1, ds1, p1, q1, rfl, rfl, rfl, h1, r1⟩ := trodAll_cons r0
  obtain ⟨v2, vs2, d2, ds2, p2, q2, rfl, rfl, rfl, h2, r2⟩ := trodAll_cons r1
  obtain ⟨rfl, rfl, rfl⟩ := trodAll_nil r2
  obtain rfl : args = #[v0, v1, v2] := Array.ext' hargs
  obtain ⟨rfl, rfl⟩ := trodVars_none hV
  have o0 := open_int Tryz.underlying3 (hval 0 3 v0 rfl rfl) h0
  have o1 := open_int Tryz.underlying3 (hval 1 3 v1 rfl rfl) h1
  have o2 := open_bool Tryz.underlying4 (hval 2 4 v2 rfl rfl) h2
  obtain ⟨n0, rfl, rfl, rfl, k0⟩ := o0
  obtain ⟨n1, rfl, rfl, rfl, k1⟩ := o1
  obtain ⟨c, rfl, rfl, rfl⟩ := o2
  refine (walk n0 n1 c W).mono fun e W' ⟨he, hk⟩ => ?_
  refine ⟨_, he, [.lit (.int .i64 n0), .lit (.int .i64 n1), .lit (.bool c)], [], _, [], [], [], hW', ?_, ?_, ?_, kept hk _, fun h => by cases h⟩
  · exact trodAll_cons_mk (shut_bool Tryz.underlying4 _) trodAll_mk0
  · exact trodAll_cons_mk (p := []) (shut_int Tryz.underlying3 k0) (trodAll_cons_mk (p := []) (shut_int Tryz.underlying3 k1) (trodAll_cons_mk (p := []) (shut_bool Tryz.underlying4 _) trodAll_mk0))
  · exact rfl

/-- The cells of a table. -/
def flat : Nat → DataW Unit → List Value
  | 0, _ => []
  | _ + 1, .lit (.int k n) => [.int k n]
  | n + 1, .agg ds => ds.flatMap (flat n)
  | _ + 1, _ => []
def laidCells (d : DataW Unit) : Obj → Obj
  | .cells _ t frozen => .cells (flat 4 d).toArray t frozen
  | o => o

/-- A world for the witness: its tables hold what their initialisers lay. -/
noncomputable def laidWorld (os : Os) : World :=
  { World.holding Tryz.prog os ⟨#[], #[], []⟩ with heap := (((((World.holding Tryz.prog os ⟨#[], #[], []⟩).heap.modify 0 (laidCells Rows.laid_unicode_utf8_first)).modify 1 (laidCells Rows.laid_unicode_utf8_acceptRanges)).modify 2
      (laidCells Rows.laid_internal_strconv_uint64pow10)).modify 4 (laidCells Rows.laid_math_bits_deBruijn32tab)).modify 5 (laidCells Rows.laid_math_bits_deBruijn64tab) }

theorem laid_met (os : Os) : laidMet Tryz.prog Rows.checkTimeRow.laid ((laidWorld os).forCall (fun _ _ => 0) ⟨#[], #[.int .i64 0, .int .i64 0, .bool false], []⟩).memory :=
  laidMet_of_run' 8 (by kernel_rfl) (by kernel_rfl)
theorem reads (os : Os) {H : Type} (enc : TypeId × Value → H) : ∃ places, DataW.whole enc Tryz.prog ((laidWorld os).forCall (fun _ _ => 0) ⟨#[], #[.int .i64 0, .int .i64 0, .bool false], []⟩).memory Tryz.f3.params.toList Rows.checkTimeSpec.vars false #[Value.int .i64 0, Value.int .i64 0, Value.bool false].toList 8 =
    some ([.lit (.int .i64 0), .lit (.int .i64 0), .lit (.bool false)], [], places) :=
  ⟨[], by kernel_rfl⟩

set_option maxRecDepth 100000 in
theorem lifted (os : Os) (started : os.Started) (H : Type) (enc : TypeId × Value → H) (F : Stop.Interp) :
    ReturnsInHanded {} Tryz.checked os 3 .any ((OpenSpec.ofChange Rows.checkTimeSpec).preRow enc Tryz.prog Tryz.f3 Rows.checkTimeRow.domain false Rows.checkTimeRow.laid) (((OpenSpec.ofChange Rows.checkTimeSpec).at F).post enc Tryz.prog Tryz.f3 false true false false) := by
  obtain ⟨places, hx⟩ := reads os enc
  refine returnsInHanded_of_row (C := Tryz.checked) (s := OpenSpec.ofChange Rows.checkTimeSpec) own started (by kernel_rfl) Tryz.func3
    (witness_row_at (enc := enc) (C := Tryz.checked) false (laidWorld os) #[.int .i64 0, .int .i64 0, .bool false] rfl (by kernel_rfl) (by kernel_rfl) (by kernel_rfl)
      (OpenSpec.preRow_of_cond 8 hx (by kernel_rfl) (fun k hk => by cases hk) (by kernel_rfl) (laid_met os))) ?_
  intro W base args ds gs before hval hW _ _ _ hL _ _
  exact contract H enc W base args ds gs before hval hW

theorem said : Rows.CheckTimeSaid :=
  OpenClaim.holds_of_cond 3 Tryz.f3 rfl rfl rfl rfl rfl rfl rfl ⟨rfl, rfl, rfl, rfl, rfl⟩ rfl rfl rfl rfl rfl (by kernel_rfl) Tryz.func3 (by kernel_rfl)
    (of_decide_eq_true (by kernel_rfl)) (by unfold Func.isWrapper; first | (rw [if_pos (by decide +kernel)]; kernel_rfl) | (rw [if_neg (by decide +kernel)]; exact ⟨rfl, rfl⟩))
    (fun os started H enc _ F => by rw [OpenClaim.pre_eq_preRow]; exact lifted os started H enc F)

theorem plain (f : FuncId) (fn : Func) (hf : Tryz.pinned.checked.prog.funcNamed "stonecrop/stonecroplaw30.CheckTime" = some f) (hfn : Tryz.pinned.checked.prog.funcs[f]? = some fn) :
    false = Tryz.pinned.checked.prog.looks [] ∧ ∀ (j : Nat) t, fn.params[j]? = some t → Tryz.pinned.checked.prog.wantsStandIn t = false := by
  obtain rfl : f = 3 := Option.some.inj ((show Tryz.prog.funcNamed "stonecrop/stonecroplaw30.CheckTime" = some 3 by kernel_rfl).symm.trans hf) |>.symm
  obtain rfl : fn = Tryz.f3 := (Option.some.inj (Tryz.func3.symm.trans hfn)).symm
  refine ⟨by kernel_rfl, fun j t ht => ?_⟩
  rw [Tryz.params3] at ht
  have hm := Array.mem_of_getElem? ht
  simp only [List.mem_toArray, List.mem_cons, List.not_mem_nil, or_false] at hm
  rcases hm with rfl | rfl | rfl
  · exact (show Tryz.prog.wantsStandIn 3 = false by kernel_rfl)
  · exact (show Tryz.prog.wantsStandIn 3 = false by kernel_rfl)
  · exact (show Tryz.prog.wantsStandIn 4 = false by kernel_rfl)

/-- The card. -/
theorem card : Rows.CheckTimeCardSaid :=
  Claim7.holds_tied_plain_at .later [] _ _ _ _ said (fun _ h => by cases h) (by kernel_rfl) (fun _ h => by cases h) checkTime_row_tie rfl ⟨rfl, rfl⟩ (by kernel_rfl) rfl plain (by kernel_rfl)
end Go.Proofs.YtbhjokfopgbmiaaGreatDoor.checkTime
