/- The row of the law WheelSets, round its walk: for every input it returns true. No condition. -/
import Derived.Test.YtngjohckkgmggaaRows
import Derived.Test.YtngjohckkgmggaaWWheelSets
import Derived.Test.YtngjohckkgmggaaReads
import Derived.WalkKit
import Derived.ProofKit
import Derived.OpenShut
import Derived.ShutString
import Derived.ChangeOld
import Derived.Below
import Derived.SizedLaws
namespace Go.Proofs.Ytngjohckkgmggaa.wheelSets
open Go.ChangeShapes Go.WideShapes Go.ChangeAt Go.RowKit Go.Proofs.YtngjohckkgmggaaW.PrintWords
set_option linter.unusedVariables false
theorem own : ownKnob Try.prog.godebug = none := by kernel_rfl
theorem laidOut : laidOutB Try.prog = true := by kernel_rfl
theorem op2 : Ytngjohckkgmggaa.H.Opens Try.prog (Kd.int .i64) (fun x => (Lit.int .i64 x).wf = true) 2 := Ytngjohckkgmggaa.H.opens_int Try.underlying2 (by kernel_rfl)
theorem op3 : Ytngjohckkgmggaa.H.Opens Try.prog (Kd.int .i64) (fun x => (Lit.int .i64 x).wf = true) 3 := Ytngjohckkgmggaa.H.opens_int Try.underlying3 (by kernel_rfl)
theorem op46 : Ytngjohckkgmggaa.H.Opens Try.prog P.k46 (fun x => ((Lit.int .i64 (x.f0, x.f1).1).wf = true ∧ (Lit.int .i64 (x.f0, x.f1).2).wf = true)) 46 := Ytngjohckkgmggaa.H.opens_struct2 (fun x : P.S46 => (x.f0, x.f1)) (fun a b => ⟨a, b⟩) (fun _ _ => rfl) Try.underlying46 (by kernel_rfl) rfl rfl rfl rfl op3 op2
theorem op22 : Ytngjohckkgmggaa.H.Opens Try.prog (Kd.slice 46 P.k46) (fun x => (∀ y ∈ x, ((Lit.int .i64 (y.f0, y.f1).1).wf = true ∧ (Lit.int .i64 (y.f0, y.f1).2).wf = true))) 22 := Ytngjohckkgmggaa.H.opens_slice (⟨(0 : Int), (0 : Int)⟩ : P.S46) Try.underlying22 (by kernel_rfl) op46
theorem op24 : Ytngjohckkgmggaa.H.Opens Try.prog (Kd.iso (Kd.pair (Kd.int .i64) (Kd.slice 46 P.k46)) (fun x => x)) (fun x => ((Lit.int .i64 x.1).wf = true ∧ (∀ y ∈ x.2, ((Lit.int .i64 (y.f0, y.f1).1).wf = true ∧ (Lit.int .i64 (y.f0, y.f1).2).wf = true)))) 24 := Ytngjohckkgmggaa.H.opens_struct2 (fun x => x) (fun a b => ⟨a, b⟩) (fun _ _ => rfl) Try.underlying24 (by kernel_rfl) rfl rfl rfl rfl op2 op22
theorem op57 : Ytngjohckkgmggaa.H.Opens Try.prog (Kd.int .u16) (fun x => (Lit.int .u16 x).wf = true) 57 := Ytngjohckkgmggaa.H.opens_int Try.underlying57 (by kernel_rfl)
set_option maxRecDepth 100000 in
theorem lifted (os : Os) (started : os.Started) (H : Type) (enc : TypeId × Value → H) :
    ReturnsInHanded {} Try.checked os 7 .any (Rows.wheelSetsSpec.pre6 enc Try.prog Try.f7 Rows.wheelSetsRow.domain false) (Rows.wheelSetsSpec.post enc Try.prog Try.f7 false true false false) := by
  refine returnsInHanded_of_change_sized (C := Try.checked) own started (by kernel_rfl) Try.func7
    (ChangeSpec.witness6 (enc := enc) (C := Try.checked) false ⟨#[], #[.agg #[.int .i64 0, .slice none 0 0], .int .i64 0, .agg #[.int .u16 0, .int .u16 0]], []⟩ 8 (by kernel_rfl) (by kernel_rfl) (by kernel_rfl) (by kernel_rfl)) ?_
  intro W base args ds gs before hval0 hW hcnd hsz0 _
  have hval : ∀ (j : Nat) t v, Try.f7.params[j]? = some t → args[j]? = some v → Value.okWide Try.prog W .any base t v := hval0
  have hW' := hW
  obtain ⟨p, q, hA0, hV, rfl, hfz, hnd⟩ := hW
  have hA : DataW.TrodAll enc Try.prog W 0 (fun _ => true) true Try.f7.params.toList args.toList ds p := hA0
  rw [Try.params7] at hA hval
  obtain ⟨v0, vs0, d0, ds0, p0, q0, hargs, rfl, rfl, h0, r0⟩ := trodAll_cons hA
  obtain ⟨v1, vs1, d1, ds1, p1, q1, rfl, rfl, rfl, h1, r1⟩ := trodAll_cons r0
  obtain ⟨v2, vs2, d2, ds2, p2, q2, rfl, rfl, rfl, h2, r2⟩ := trodAll_cons r1
  obtain ⟨rfl, rfl, rfl⟩ := trodAll_nil r2
  obtain rfl : args = #[v0, v1, v2] := by cases args; simp_all
  obtain ⟨rfl, rfl⟩ := trodVars_none hV
  have k0 := h0
  have lt0 : ∀ x ∈ p0, x.block < W.heap.size := by obtain ⟨m, hm⟩ := k0; exact DataW.trod_lt m _ _ _ hm
  obtain ⟨cs0, rfl⟩ := Ytngjohckkgmggaa.H.okWide_agg Try.underlying24 (hval 0 24 v0 rfl rfl)
  obtain ⟨fuel0, hf0⟩ := h0
  obtain ⟨⟨x0_0, x0_1⟩, hK0, hQ0⟩ := op24.2 _ enc W _ _ _ _ _ hf0
  obtain ⟨_, _, hcs0, rfl, ⟨A0_1, c0_1, rfl, hle0_1, hC0_1⟩⟩ := hK0
  obtain rfl : cs0 = #[.int .i64 x0_0, .slice A0_1 x0_1.length c0_1] := Array.ext' hcs0
  obtain ⟨a1, rfl, rfl, rfl, w1⟩ := open_int Try.underlying3 (hval 1 3 v1 rfl rfl) h1
  have k2 := h2
  have lt2 : ∀ x ∈ p2, x.block < W.heap.size := by obtain ⟨m, hm⟩ := k2; exact DataW.trod_lt m _ _ _ hm
  obtain ⟨cs2, rfl⟩ := Ytngjohckkgmggaa.H.okWide_arr Try.underlying60 (hval 2 60 v2 rfl rfl)
  obtain ⟨fuel2, hf2⟩ := h2
  obtain ⟨l2, hcs2, hQ2⟩ := Ytngjohckkgmggaa.H.opens_arr2 (H := H) (enc := enc) (W := W) Try.underlying60 (by kernel_rfl) Try.underlying57 (by kernel_rfl) hf2
  obtain ⟨x2_0, x2_1⟩ := l2
  obtain rfl : cs2 = #[.int .u16 x2_0, .int .u16 x2_1] := Array.ext' hcs2
  clear hA0 hval0 hsz0
  refine (Ytngjohckkgmggaa.H.WheelSets_walk x0_0 A0_1 c0_1 x0_1 hC0_1 hle0_1 hQ0 a1 w1 x2_0 x2_1 hQ2).mono fun e W' ⟨he, bel⟩ => ?_
  subst he
  exact ⟨_, rfl, _, _, _, [], _, [], hW', trodAll_mk1 (shut_bool Try.underlying4 _), (trodAll_cons_mk (Below.trod laidOut (by kernel_rfl) (of_decide_eq_true (by kernel_rfl)) k0 bel lt0) (trodAll_cons_mk (shut_int Try.underlying3 w1) (trodAll_cons_mk (Below.trod laidOut (by kernel_rfl) (of_decide_eq_true (by kernel_rfl)) k2 bel lt2) trodAll_mk0))), rfl, bel.frame _, fun h => by cases h⟩
theorem over : Rows.wheelSetsRow.holds Try.pinned (OpenSpec.ofChange Rows.wheelSetsSpec) :=
  OpenClaim.holds_of_wide 7 Try.f7 rfl rfl rfl rfl rfl rfl rfl ⟨rfl, rfl, rfl, rfl, rfl⟩ rfl rfl rfl rfl rfl (by kernel_rfl) Try.func7 (by kernel_rfl)
    (of_decide_eq_true (by kernel_rfl)) (by unfold Func.isWrapper; first | (rw [if_pos (by decide +kernel)]; kernel_rfl) | (rw [if_neg (by decide +kernel)]; exact ⟨rfl, rfl⟩))
    (fun os started H enc _ => lifted os started H enc)
theorem proved : Rows.WheelSetsSaid := over
#print axioms proved
end Go.Proofs.Ytngjohckkgmggaa.wheelSets
namespace Go.Proofs.Ytngjohckkgmggaa
/-- The row, under a short name, for the claim. -/
theorem wheelSets_holds : Rows.WheelSetsSaid := wheelSets.proved
end Go.Proofs.Ytngjohckkgmggaa
