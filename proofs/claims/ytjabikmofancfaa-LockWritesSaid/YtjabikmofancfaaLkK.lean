
import Derived.Test.YtjabikmofancfaaLkJ
namespace Go.Proofs.Ytjabikmofancfaa.H
open Go.RowKit Go.Proofs.YtjabikmofancfaaW.PrintWords Go.Proofs.YtjabikmofancfaaW.PrintLast Go.Proofs.Ytjabikmofancfaa.P
set_option linter.unusedVariables false
set_option linter.unusedSimpArgs false

theorem seg_one {f : Nat → Value} {l : List S45} (hf : ∀ a, a < l.length → AtH f a (l.getD a z45)) (i : Nat) (hi : i < l.length) : ∀ v ∈ seg f (i * 3) ((l.length - i) * 3), v.oneCell' = true := by
  intro v hv
  obtain ⟨j, hj, rfl⟩ := List.mem_iff_getElem.1 hv
  rw [seg_len] at hj
  obtain ⟨_, h2⟩ := seg_get f (i * 3) ((l.length - i) * 3) j _ (List.getElem?_eq_getElem (by rw [seg_len]; exact hj))
  rw [h2]
  have ha := hf (i + j / 3) (by omega)
  have e : i * 3 + j = (i + j / 3) * 3 + j % 3 := by omega
  rw [e]
  rcases (show j % 3 = 0 ∨ j % 3 = 1 ∨ j % 3 = 2 by omega) with h | h | h <;> rw [h]
  · show (f ((i + j / 3) * 3)).oneCell' = true; rw [ha.c0]; rfl
  · rw [ha.c1]; rfl
  · rw [ha.c2]; rfl

set_option maxRecDepth 100000 in
set_option maxHeartbeats 4000000 in
/-- In a new row, there being no room. -/
theorem insert_grow (l : List S45) (G cap i vb : Nat) (f : Nat → Value) (x : S45) (w0 w : World) (hB : Below w0.heap.size w0 w) (hG : w0.heap.size ≤ G) (hi : i < l.length) (hc0 : l.length ≤ cap) (hc : cap < l.length + 1)
    (hrow : Row w G 45 (cap * 3) f) (hf : ∀ a, a < l.length → AtH f a (l.getD a z45)) (hx : w.heap[vb]? = some (.cells (cellsH x).toArray 45 (0, 0))) (hl : l.length + 1 ≤ 5864062014805) :
    Calls Try.prog 22 #[.slice (some ⟨G, 0, none⟩) l.length cap, .int .i64 (i : Int), .slice (some ⟨vb, 0, none⟩) 1 1] w fun e w' => ∃ v1, e = .returned v1 ∧ Kd.R k45 45 w' w0.heap.size (fun _ => True) v1 (insH l i x) ∧ Below w0.heap.size w0 w' := by
  obtain rfl : cap = l.length := by omega
  have hvb : vb < w.heap.size := (Array.getElem?_eq_some_iff.1 hx).1
  obtain ⟨C, W', f', hrunA, hC1, hC2, hBA, hrowA, hold⟩ := append_zeros_grow (P := Try.prog) (t := 28) (tn := 3) hrow 28 .i64 Try.underlying28 Try.underlying3 infoH rfl (by omega) (by omega) i (l.length + 1 - i) (by omega) (by omega) (by omega)
  rw [show i + (l.length + 1 - i) = l.length + 1 from by omega] at hrunA hC1
  rw [show ((l.length + 1 - i : Nat) : Int) = (l.length : Int) + 1 - (i : Int) from by omega] at hrunA
  have hxA : W'.heap[vb]? = some (.cells (cellsH x).toArray 45 (0, 0)) := (hBA.block vb hvb).trans hx
  obtain ⟨cur1, hrun1, hrow1⟩ := hrowA.copy (P := Try.prog) (k := 3) 28 27 3 (i * 3) (l.length + 1 - i) (C - i) ⟨vb, 0, none⟩ 1 1 (cellsH x) Try.underlying28 sizeH
    (by rw [show Nat.min 1 (l.length + 1 - i) = 1 from by simp only [Nat.min_def]; rw [if_pos (by omega)]]; rfl)
    (fun j v hj => by rw [add_plain]; simp only [World.cell?, hxA]; simpa using hj) (by simp [cellsH]; omega) (cellsH_one x)
  have hGne : G ≠ w.heap.size := Nat.ne_of_lt hrow.lt
  have hrowG : Row ((W'.setRow w.heap.size cur1).drew) G 45 (l.length * 3) f := (Row.same (hrow.below hBA) (setRow_other _ _ _ _ hGne)).drew
  obtain ⟨cur2, hrun2, hrow2⟩ := (hrow1.drew).copy (P := Try.prog) (k := 3) 28 28 3 ((i + 1) * 3) (l.length - i) (C - (i + 1)) ⟨G, i * 3, none⟩ (l.length - i) (l.length - i) (seg f (i * 3) ((l.length - i) * 3)) Try.underlying28 sizeH
    (by rw [seg_len, show Nat.min (l.length - i) (l.length - i) = l.length - i from by simp only [Nat.min_def]; split <;> rfl])
    (fun j v hj => by obtain ⟨h1, h2⟩ := seg_get _ _ _ _ _ hj; rw [h2, show (⟨G, i * 3, none⟩ : Addr).add j = ⟨G, i * 3 + j, none⟩ from by unfold Addr.add; split <;> simp_all]; exact hrowG.cell (by omega))
    (by rw [seg_len]; omega) (seg_one hf i hi)
  have HR := Aside0.mk (ins_new hB.size hi hC1 hC2 hrow2 hf hold)
  have HB := Aside0.mk (below_set_row (below_drew (below_set_row (below_then hB hB.size hBA) hB.size cur1)) hB.size cur2)
  have H1 := Aside0.mk hrun1
  have H2 := Aside0.mk hrun2
  have HA := Aside0.mk hrunA
  have b1 : (i : Int) < (l.length : Int) := by omega
  have b3 : (l.length : Int) ≤ 5864062014804 := by omega
  have q0 : ((1 : Int) == 0) = false := rfl
  have q1 : ((i : Int) == (l.length : Int)) = false := by rw [beq_eq_false_iff_ne]; omega
  have d1 : decide ((l.length : Int) < (l.length : Int) + 1) = true := decide_eq_true (by omega)
  have t1 : ((i : Int) + 1).toNat = i + 1 := by omega
  have t2 : ((l.length : Int) + 1).toNat = l.length + 1 := by omega
  have n1 : ¬ l.length = i := by omega
  have n2 : ¬ C = i := by omega
  have n6 : ¬ C = i + 1 := by omega
  have n3 : i ≤ l.length := by omega
  have n4 : l.length < C := hC1
  have n7 : i ≤ C := by omega
  clear hB hrow hf hx hrun1 hrun2 hrow1 hrow2 hxA hl hG hi hc hc0 hrunA hC1 hC2 hBA hrowA hold hrowG hGne hvb
  go_enter Try.func22, Try.ntmps22
  go_wp2_with (first | ((with_reducible refine gate_builtin (b := .append) (xs := #[.tmp 34, .tmp 39]) rfl ?_); refine Lib.wpList_append_run _ rfl _ _ _ _ rfl _ _ rfl rfl _ _ HA.out ?_) | ((with_reducible refine gate_builtin (b := .copy) (xs := #[.tmp 43, .tmp 44]) rfl ?_); refine wpList_copy_is _ rfl _ _ 28 27 rfl _ _ rfl rfl H1.out ?_))
  have w1 : IntKind.i64.wrap ((i : Int) + 1) = (i : Int) + 1 := by rw [IntKind.wrap_i64]; omega
  have w2 : (0 : Int) ≤ (i : Int) + 1 := by omega
  have w3 : (i : Int) ≤ (l.length : Int) := by omega
  have w4 : (i : Int) ≤ (l.length : Int) + 1 := by omega
  go_region_law (refine step_copy_is rfl _ _ 28 28 rfl _ _ (by simp [Act.eval, Act.put]) (by simp [Act.eval, Act.put]) H2.out ?_)
  go_wp2
  go_ret
  exact ⟨_, rfl, HR.out, HB.out⟩
end Go.Proofs.Ytjabikmofancfaa.H
