
import Derived.Test.YtjabikmofancfaaLkI
import Derived.Laws.Externs
namespace Go.Proofs.Ytjabikmofancfaa.H
open Go.RowKit Go.Proofs.YtjabikmofancfaaW.PrintWords Go.Proofs.YtjabikmofancfaaW.PrintLast Go.Proofs.Ytjabikmofancfaa.P
set_option linter.unusedVariables false
set_option linter.unusedSimpArgs false

theorem sizeH : (Try.prog.info? 45).map (·.size) = some 3 := by kernel_rfl
theorem sizeOfH : ∀ w, (Go.sizeOf 45).run Try.prog w = .ok 3 w := fun w => by kernel_rfl

theorem overlaps_no (w : World) (G vb o m vc lb cb N : Nat) (f : Nat → Value) (x : S45) (hne : vb ≠ G) (h : Row w G 45 N f) (hN : 0 < N) (hx : w.heap[vb]? = some (.cells (cellsH x).toArray 45 (0, 0))) :
    (callFunc 30 #[.slice (some ⟨vb, 0, none⟩) m vc, .slice (some ⟨G, o, none⟩) lb cb]).run Try.prog w = .ok (.value (.bool false)) w := by
  obtain ⟨cur, hg, hs, hc⟩ := h
  have h1 : w.shape? vb = some (45, 3) := by simp [World.shape?, hx, cellsH]
  have h2 : w.shape? G = some (45, N) := by simp [World.shape?, hg, hs]
  rw [run_callFunc_extern Try.func30 (by kernel_rfl) (by kernel_rfl) (by kernel_rfl) (e := Extern.SlicesOverlaps.overlaps #[27, 27] #[4]) (by kernel_rfl),
    Lib.run_overlaps_apart w 27 4 45 Try.underlying27 3 sizeOfH ⟨vb, 0, none⟩ ⟨G, o, none⟩ m vc lb cb hne 45 45 3 N h1 h2 (by omega) (by simp [World.frozen?, hx]) (by simp [World.frozen?, hx])]
  rfl

set_option maxRecDepth 100000 in
set_option maxHeartbeats 4000000 in
/-- In the row, there being room. -/
theorem insert_place (l : List S45) (G cap i vb : Nat) (f : Nat → Value) (x : S45) (w0 w : World) (hB : Below w0.heap.size w0 w) (hG : w0.heap.size ≤ G) (hi : i < l.length) (hc : l.length + 1 ≤ cap) (hm : cap ≤ maxLen) (hne : vb ≠ G)
    (hrow : Row w G 45 (cap * 3) f) (hf : ∀ a, a < l.length → AtH f a (l.getD a z45)) (hx : w.heap[vb]? = some (.cells (cellsH x).toArray 45 (0, 0))) (hl : l.length + 1 ≤ 5864062014805) :
    Calls Try.prog 22 #[.slice (some ⟨G, 0, none⟩) l.length cap, .int .i64 (i : Int), .slice (some ⟨vb, 0, none⟩) 1 1] w fun e w' => ∃ v1, e = .returned v1 ∧ Kd.R k45 45 w' w0.heap.size (fun _ => True) v1 (insH l i x) ∧ Below w0.heap.size w0 w' := by
  have hov := fun lb cb => overlaps_no w G vb ((i + 1) * 3) 1 1 lb cb (cap * 3) f x hne hrow (by omega) hx
  have hseg1 : ∀ v ∈ seg f (i * 3) ((l.length - i) * 3), v.oneCell' = true := by
    intro v hv
    obtain ⟨j, hj, rfl⟩ := List.mem_iff_getElem.1 hv
    rw [seg_len] at hj
    obtain ⟨_, h2⟩ := seg_get f (i * 3) ((l.length - i) * 3) j _ (List.getElem?_eq_getElem (by rw [seg_len]; exact hj))
    rw [h2]
    have ha := hf (i + j / 3) (by omega)
    have e : i * 3 + j = (i + j / 3) * 3 + j % 3 := by omega
    rw [e]
    rcases (show j % 3 = 0 ∨ j % 3 = 1 ∨ j % 3 = 2 by omega) with h | h | h <;> rw [h]
    · show (f ((i + j / 3) * 3)).oneCell' = true; rw [ha.c0]; rfl
    · rw [ha.c1]; rfl
    · rw [ha.c2]; rfl
  obtain ⟨cur1, hrun1, hrow1⟩ := (hrow.drew).copy (P := Try.prog) (k := 3) 28 28 3 ((i + 1) * 3) (l.length - i) (cap - (i + 1)) ⟨G, i * 3, none⟩ (l.length + 1 - i) (cap - i) (seg f (i * 3) ((l.length - i) * 3)) Try.underlying28 sizeH
    (by rw [seg_len]; congr 1; simp only [Nat.min_def]; split <;> omega)
    (fun j v hj => by obtain ⟨h1, h2⟩ := seg_get _ _ _ _ _ hj; rw [h2, show (⟨G, i * 3, none⟩ : Addr).add j = ⟨G, i * 3 + j, none⟩ from by unfold Addr.add; split <;> simp_all]; exact hrow.drew.cell (by omega))
    (by rw [seg_len]; omega) hseg1
  have hvx : (w.drew.setRow G cur1).heap[vb]? = some (.cells (cellsH x).toArray 45 (0, 0)) := by rw [setRow_other _ _ _ _ hne]; exact hx
  obtain ⟨cur2, hrun2, hrow2⟩ := hrow1.copy (P := Try.prog) (k := 3) 28 27 3 (i * 3) (l.length + 1 - i) (cap - i) ⟨vb, 0, none⟩ 1 1 (cellsH x) Try.underlying28 sizeH
    (by rw [show Nat.min 1 (l.length + 1 - i) = 1 from by simp only [Nat.min_def]; rw [if_pos (by omega)]]; rfl)
    (fun j v hj => by rw [add_plain]; simp only [World.cell?, hvx]; simpa using hj) (by simp [cellsH]; omega) (cellsH_one x)
  have HR := Aside0.mk (ins_place hG hi hc hm hrow2 hf)
  have HB := Aside0.mk (below_set_row (below_set_row (below_drew hB) hG cur1) hG cur2)
  have H1 := Aside0.mk hrun1
  have H2 := Aside0.mk hrun2
  have b1 : (i : Int) < (l.length : Int) := by omega
  have b2 : (l.length : Int) < (cap : Int) := by omega
  have b3 : (l.length : Int) ≤ 5864062014804 := by omega
  have q0 : ((1 : Int) == 0) = false := rfl
  have d1 : decide ((cap : Int) < (l.length : Int) + 1) = false := decide_eq_false (by omega)
  have q1 : ((i : Int) == (l.length : Int)) = false := by rw [beq_eq_false_iff_ne]; omega
  have t1 : ((i : Int) + 1).toNat = i + 1 := by omega
  have t2 : ((l.length : Int) + 1).toNat = l.length + 1 := by omega
  have n1 : ¬ cap = i := by omega
  have n2 : ¬ cap = i + 1 := by omega
  have n3 : i ≤ l.length := by omega
  have n4 : l.length < cap := hc
  clear hB hrow hf hx hrun1 hrun2 hrow1 hrow2 hseg1 hvx hm hl hG hc hi
  go_enter Try.func22, Try.ntmps22
  go_wp2_with (simp only [hov])
  have w1 : IntKind.i64.wrap ((i : Int) + 1) = (i : Int) + 1 := by rw [IntKind.wrap_i64]; omega
  have w2 : (0 : Int) ≤ (i : Int) + 1 := by omega
  have w3 : (i : Int) ≤ (l.length : Int) := by omega
  have w4 : (i : Int) ≤ (l.length : Int) + 1 := by omega
  have w5 : (i : Int) + 1 ≤ (l.length : Int) + 1 := by omega
  go_region_law (refine step_copy_is rfl _ _ 28 28 rfl _ _ (by simp [Act.eval, Act.put]) (by simp [Act.eval, Act.put]) H1.out ?_)
  go_wp2_with ((with_reducible refine gate_builtin (b := .copy) (xs := #[.tmp 80, .tmp 81]) rfl ?_); refine wpList_copy_is _ rfl _ _ 28 27 rfl _ _ rfl rfl H2.out ?_)
  go_ret
  exact ⟨_, rfl, HR.out, HB.out⟩
end Go.Proofs.Ytjabikmofancfaa.H
