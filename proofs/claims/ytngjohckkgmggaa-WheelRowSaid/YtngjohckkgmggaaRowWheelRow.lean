/- The row of the law WheelRow, round its walk: for every input it returns true. No condition. -/
import Derived.Test.YtngjohckkgmggaaRows
import Derived.Test.YtngjohckkgmggaaWWheelRow
import Derived.Test.YtngjohckkgmggaaReads
import Derived.WalkKit
import Derived.ProofKit
import Derived.OpenShut
import Derived.ShutString
import Derived.ChangeOld
import Derived.Below
import Derived.SizedLaws
namespace Go.Proofs.Ytngjohckkgmggaa.wheelRow
open Go.ChangeShapes Go.WideShapes Go.ChangeAt Go.RowKit Go.Proofs.YtngjohckkgmggaaW.PrintWords
set_option linter.unusedVariables false
theorem own : ownKnob Try.prog.godebug = none := by kernel_rfl
theorem laidOut : laidOutB Try.prog = true := by kernel_rfl
theorem op5 : Ytngjohckkgmggaa.H.Opens Try.prog (Kd.int .u8) (fun x => (Lit.int .u8 x).wf = true) 5 := Ytngjohckkgmggaa.H.opens_int Try.underlying5 (by kernel_rfl)
theorem op3 : Ytngjohckkgmggaa.H.Opens Try.prog (Kd.int .i64) (fun x => (Lit.int .i64 x).wf = true) 3 := Ytngjohckkgmggaa.H.opens_int Try.underlying3 (by kernel_rfl)
theorem op2 : Ytngjohckkgmggaa.H.Opens Try.prog (Kd.int .i64) (fun x => (Lit.int .i64 x).wf = true) 2 := Ytngjohckkgmggaa.H.opens_int Try.underlying2 (by kernel_rfl)
theorem op54 : Ytngjohckkgmggaa.H.Opens Try.prog P.k54 (fun x => ((Lit.int .u8 (x.f0, x.f1, x.f2).1).wf = true ∧ (Lit.int .i64 (x.f0, x.f1, x.f2).2.1).wf = true ∧ (Lit.int .i64 (x.f0, x.f1, x.f2).2.2).wf = true)) 54 := Ytngjohckkgmggaa.H.opens_struct3 (fun x : P.S54 => (x.f0, x.f1, x.f2)) (fun a b c => ⟨a, b, c⟩) (fun _ _ _ => rfl) Try.underlying54 (by kernel_rfl) rfl rfl rfl rfl rfl rfl op5 op3 op2
theorem op52 : Ytngjohckkgmggaa.H.Opens Try.prog (Kd.slice 54 P.k54) (fun x => (∀ y ∈ x, ((Lit.int .u8 (y.f0, y.f1, y.f2).1).wf = true ∧ (Lit.int .i64 (y.f0, y.f1, y.f2).2.1).wf = true ∧ (Lit.int .i64 (y.f0, y.f1, y.f2).2.2).wf = true))) 52 := Ytngjohckkgmggaa.H.opens_slice (⟨(0 : Int), (0 : Int), (0 : Int)⟩ : P.S54) Try.underlying52 (by kernel_rfl) op54
set_option maxRecDepth 100000 in
theorem lifted (os : Os) (started : os.Started) (H : Type) (enc : TypeId × Value → H) :
    ReturnsInHanded {} Try.checked os 4 .any (Rows.wheelRowSpec.pre6 enc Try.prog Try.f4 Rows.wheelRowRow.domain false) (Rows.wheelRowSpec.post enc Try.prog Try.f4 false true false false) := by
  refine returnsInHanded_of_change_sized (C := Try.checked) own started (by kernel_rfl) Try.func4
    (ChangeSpec.witness6 (enc := enc) (C := Try.checked) false ⟨#[], #[.slice none 0 0], []⟩ 8 (by kernel_rfl) (by kernel_rfl) (by kernel_rfl) (by kernel_rfl)) ?_
  intro W base args ds gs before hval0 hW hcnd hsz0 _
  have hval : ∀ (j : Nat) t v, Try.f4.params[j]? = some t → args[j]? = some v → Value.okWide Try.prog W .any base t v := hval0
  have hW' := hW
  obtain ⟨p, q, hA0, hV, rfl, hfz, hnd⟩ := hW
  have hA : DataW.TrodAll enc Try.prog W 0 (fun _ => true) true Try.f4.params.toList args.toList ds p := hA0
  rw [Try.params4] at hA hval
  obtain ⟨v0, vs0, d0, ds0, p0, q0, hargs, rfl, rfl, h0, r0⟩ := trodAll_cons hA
  obtain ⟨rfl, rfl, rfl⟩ := trodAll_nil r0
  obtain rfl : args = #[v0] := by cases args; simp_all
  obtain ⟨rfl, rfl⟩ := trodVars_none hV
  have k0 := h0
  have lt0 : ∀ x ∈ p0, x.block < W.heap.size := by obtain ⟨m, hm⟩ := k0; exact DataW.trod_lt m _ _ _ hm
  obtain ⟨a0, len0, cap0, rfl⟩ := okWide_slice Try.underlying52 (hval 0 52 v0 rfl rfl)
  obtain ⟨fuel0, hf0⟩ := h0
  obtain ⟨l0, ⟨A0, c0, hcs0, hle0, hC0⟩, hQ0⟩ := op52.2 _ enc W _ _ _ _ _ hf0
  simp [Value.cells] at hcs0
  obtain ⟨rfl, rfl, rfl⟩ := hcs0
  clear hA0 hval0 hsz0
  refine (Ytngjohckkgmggaa.H.WheelRow_walk _ _ l0 hC0 hle0 hQ0).mono fun e W' ⟨he, bel⟩ => ?_
  subst he
  exact ⟨_, rfl, _, _, _, [], _, [], hW', trodAll_mk1 (shut_bool Try.underlying4 _), (trodAll_cons_mk (Below.trod laidOut (by kernel_rfl) (of_decide_eq_true (by kernel_rfl)) k0 bel lt0) trodAll_mk0), rfl, bel.frame _, fun h => by cases h⟩
theorem over : Rows.wheelRowRow.holds Try.pinned (OpenSpec.ofChange Rows.wheelRowSpec) :=
  OpenClaim.holds_of_wide 4 Try.f4 rfl rfl rfl rfl rfl rfl rfl ⟨rfl, rfl, rfl, rfl, rfl⟩ rfl rfl rfl rfl rfl (by kernel_rfl) Try.func4 (by kernel_rfl)
    (of_decide_eq_true (by kernel_rfl)) (by unfold Func.isWrapper; first | (rw [if_pos (by decide +kernel)]; kernel_rfl) | (rw [if_neg (by decide +kernel)]; exact ⟨rfl, rfl⟩))
    (fun os started H enc _ => lifted os started H enc)
theorem proved : Rows.WheelRowSaid := over
#print axioms proved
end Go.Proofs.Ytngjohckkgmggaa.wheelRow
namespace Go.Proofs.Ytngjohckkgmggaa
/-- The row, under a short name, for the claim. -/
theorem wheelRow_holds : Rows.WheelRowSaid := wheelRow.proved
end Go.Proofs.Ytngjohckkgmggaa
