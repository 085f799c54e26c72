/- The row of the law WheelPieces, round its walk: for every input it returns true. No condition. -/
import Derived.Test.YtngjohckkgmggaaRows
import Derived.Test.YtngjohckkgmggaaWWheelPieces
import Derived.Test.YtngjohckkgmggaaReads
import Derived.WalkKit
import Derived.ProofKit
import Derived.OpenShut
import Derived.ShutString
import Derived.ChangeOld
import Derived.Below
import Derived.SizedLaws
namespace Go.Proofs.Ytngjohckkgmggaa.wheelPieces
open Go.ChangeShapes Go.WideShapes Go.ChangeAt Go.RowKit Go.Proofs.YtngjohckkgmggaaW.PrintWords
set_option linter.unusedVariables false
theorem own : ownKnob Try.prog.godebug = none := by kernel_rfl
theorem laidOut : laidOutB Try.prog = true := by kernel_rfl
theorem op2 : Ytngjohckkgmggaa.H.Opens Try.prog (Kd.int .i64) (fun x => (Lit.int .i64 x).wf = true) 2 := Ytngjohckkgmggaa.H.opens_int Try.underlying2 (by kernel_rfl)
theorem op3 : Ytngjohckkgmggaa.H.Opens Try.prog (Kd.int .i64) (fun x => (Lit.int .i64 x).wf = true) 3 := Ytngjohckkgmggaa.H.opens_int Try.underlying3 (by kernel_rfl)
theorem op46 : Ytngjohckkgmggaa.H.Opens Try.prog P.k46 (fun x => ((Lit.int .i64 (x.f0, x.f1).1).wf = true ∧ (Lit.int .i64 (x.f0, x.f1).2).wf = true)) 46 := Ytngjohckkgmggaa.H.opens_struct2 (fun x : P.S46 => (x.f0, x.f1)) (fun a b => ⟨a, b⟩) (fun _ _ => rfl) Try.underlying46 (by kernel_rfl) rfl rfl rfl rfl op3 op2
theorem op22 : Ytngjohckkgmggaa.H.Opens Try.prog (Kd.slice 46 P.k46) (fun x => (∀ y ∈ x, ((Lit.int .i64 (y.f0, y.f1).1).wf = true ∧ (Lit.int .i64 (y.f0, y.f1).2).wf = true))) 22 := Ytngjohckkgmggaa.H.opens_slice (⟨(0 : Int), (0 : Int)⟩ : P.S46) Try.underlying22 (by kernel_rfl) op46
theorem op24 : Ytngjohckkgmggaa.H.Opens Try.prog (Kd.iso (Kd.pair (Kd.int .i64) (Kd.slice 46 P.k46)) (fun x => x)) (fun x => ((Lit.int .i64 x.1).wf = true ∧ (∀ y ∈ x.2, ((Lit.int .i64 (y.f0, y.f1).1).wf = true ∧ (Lit.int .i64 (y.f0, y.f1).2).wf = true)))) 24 := Ytngjohckkgmggaa.H.opens_struct2 (fun x => x) (fun a b => ⟨a, b⟩) (fun _ _ => rfl) Try.underlying24 (by kernel_rfl) rfl rfl rfl rfl op2 op22
theorem op57 : Ytngjohckkgmggaa.H.Opens Try.prog (Kd.int .u16) (fun x => (Lit.int .u16 x).wf = true) 57 := Ytngjohckkgmggaa.H.opens_int Try.underlying57 (by kernel_rfl)
theorem op56 : Ytngjohckkgmggaa.H.Opens Try.prog (Kd.slice 57 (Kd.int .u16)) (fun x => (∀ y ∈ x, (Lit.int .u16 y).wf = true)) 56 := Ytngjohckkgmggaa.H.opens_slice (0 : Int) Try.underlying56 (by kernel_rfl) op57
set_option maxRecDepth 100000 in
theorem lifted (os : Os) (started : os.Started) (H : Type) (enc : TypeId × Value → H) :
    ReturnsInHanded {} Try.checked os 5 .any (Rows.wheelPiecesSpec.pre6 enc Try.prog Try.f5 Rows.wheelPiecesRow.domain false) (Rows.wheelPiecesSpec.post enc Try.prog Try.f5 false true false false) := by
  refine returnsInHanded_of_change_sized (C := Try.checked) own started (by kernel_rfl) Try.func5
    (ChangeSpec.witness6 (enc := enc) (C := Try.checked) false ⟨#[], #[.agg #[.int .i64 0, .slice none 0 0], .slice none 0 0], []⟩ 8 (by kernel_rfl) (by kernel_rfl) (by kernel_rfl) (by kernel_rfl)) ?_
  intro W base args ds gs before hval0 hW hcnd hsz0 _
  have hval : ∀ (j : Nat) t v, Try.f5.params[j]? = some t → args[j]? = some v → Value.okWide Try.prog W .any base t v := hval0
  have hW' := hW
  obtain ⟨p, q, hA0, hV, rfl, hfz, hnd⟩ := hW
  have hA : DataW.TrodAll enc Try.prog W 0 (fun _ => true) true Try.f5.params.toList args.toList ds p := hA0
  rw [Try.params5] at hA hval
  obtain ⟨v0, vs0, d0, ds0, p0, q0, hargs, rfl, rfl, h0, r0⟩ := trodAll_cons hA
  obtain ⟨v1, vs1, d1, ds1, p1, q1, rfl, rfl, rfl, h1, r1⟩ := trodAll_cons r0
  obtain ⟨rfl, rfl, rfl⟩ := trodAll_nil r1
  obtain rfl : args = #[v0, v1] := by cases args; simp_all
  obtain ⟨rfl, rfl⟩ := trodVars_none hV
  have k0 := h0
  have lt0 : ∀ x ∈ p0, x.block < W.heap.size := by obtain ⟨m, hm⟩ := k0; exact DataW.trod_lt m _ _ _ hm
  obtain ⟨cs0, rfl⟩ := Ytngjohckkgmggaa.H.okWide_agg Try.underlying24 (hval 0 24 v0 rfl rfl)
  obtain ⟨fuel0, hf0⟩ := h0
  obtain ⟨⟨x0_0, x0_1⟩, hK0, hQ0⟩ := op24.2 _ enc W _ _ _ _ _ hf0
  obtain ⟨_, _, hcs0, rfl, ⟨A0_1, c0_1, rfl, hle0_1, hC0_1⟩⟩ := hK0
  obtain rfl : cs0 = #[.int .i64 x0_0, .slice A0_1 x0_1.length c0_1] := Array.ext' hcs0
  have k1 := h1
  have lt1 : ∀ x ∈ p1, x.block < W.heap.size := by obtain ⟨m, hm⟩ := k1; exact DataW.trod_lt m _ _ _ hm
  obtain ⟨a1, len1, cap1, rfl⟩ := okWide_slice Try.underlying56 (hval 1 56 v1 rfl rfl)
  obtain ⟨fuel1, hf1⟩ := h1
  obtain ⟨l1, ⟨A1, c1, hcs1, hle1, hC1⟩, hQ1⟩ := op56.2 _ enc W _ _ _ _ _ hf1
  simp [Value.cells] at hcs1
  obtain ⟨rfl, rfl, rfl⟩ := hcs1
  clear hA0 hval0 hsz0
  refine (Ytngjohckkgmggaa.H.WheelPieces_walk x0_0 A0_1 c0_1 x0_1 hC0_1 hle0_1 hQ0 _ _ l1 hC1 hle1 hQ1).mono fun e W' ⟨he, bel⟩ => ?_
  subst he
  exact ⟨_, rfl, _, _, _, [], _, [], hW', trodAll_mk1 (shut_bool Try.underlying4 _), (trodAll_cons_mk (Below.trod laidOut (by kernel_rfl) (of_decide_eq_true (by kernel_rfl)) k0 bel lt0) (trodAll_cons_mk (Below.trod laidOut (by kernel_rfl) (of_decide_eq_true (by kernel_rfl)) k1 bel lt1) trodAll_mk0)), rfl, bel.frame _, fun h => by cases h⟩
theorem over : Rows.wheelPiecesRow.holds Try.pinned (OpenSpec.ofChange Rows.wheelPiecesSpec) :=
  OpenClaim.holds_of_wide 5 Try.f5 rfl rfl rfl rfl rfl rfl rfl ⟨rfl, rfl, rfl, rfl, rfl⟩ rfl rfl rfl rfl rfl (by kernel_rfl) Try.func5 (by kernel_rfl)
    (of_decide_eq_true (by kernel_rfl)) (by unfold Func.isWrapper; first | (rw [if_pos (by decide +kernel)]; kernel_rfl) | (rw [if_neg (by decide +kernel)]; exact ⟨rfl, rfl⟩))
    (fun os started H enc _ => lifted os started H enc)
theorem proved : Rows.WheelPiecesSaid := over
#print axioms proved
end Go.Proofs.Ytngjohckkgmggaa.wheelPieces
namespace Go.Proofs.Ytngjohckkgmggaa
/-- The row, under a short name, for the claim. -/
theorem wheelPieces_holds : Rows.WheelPiecesSaid := wheelPieces.proved
end Go.Proofs.Ytngjohckkgmggaa
