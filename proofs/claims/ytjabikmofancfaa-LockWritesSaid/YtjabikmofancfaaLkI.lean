
import Derived.Test.YtjabikmofancfaaLkH
import Derived.Deep.RegionLaw
namespace Go.Proofs.Ytjabikmofancfaa.H
open Go.RowKit Go.Proofs.YtjabikmofancfaaW.PrintWords Go.Proofs.YtjabikmofancfaaW.PrintLast Go.Proofs.Ytjabikmofancfaa.P
set_option linter.unusedVariables false
set_option linter.unusedSimpArgs false

def insH (l : List S45) (i : Nat) (x : S45) : List S45 := l.take i ++ x :: l.drop i
theorem insH_len (l : List S45) (i : Nat) (x : S45) (hi : i ≤ l.length) : (insH l i x).length = l.length + 1 := by simp [insH]; omega
theorem insH_lt (l : List S45) (i : Nat) (x : S45) (hi : i ≤ l.length) (a : Nat) (ha : a < i) : (insH l i x).getD a z45 = l.getD a z45 := by
  simp only [insH, List.getD_eq_getElem?_getD]
  rw [List.getElem?_append_left (by simp; omega), List.getElem?_take, if_pos ha]
theorem insH_eq (l : List S45) (i : Nat) (x : S45) (hi : i ≤ l.length) : (insH l i x).getD i z45 = x := by
  simp only [insH, List.getD_eq_getElem?_getD]
  rw [List.getElem?_append_right (by simp; omega), List.length_take, show i - min i l.length = 0 from by omega]
  rfl
theorem insH_gt (l : List S45) (i : Nat) (x : S45) (hi : i ≤ l.length) (a : Nat) (ha : i < a) : (insH l i x).getD a z45 = l.getD (a - 1) z45 := by
  simp only [insH, List.getD_eq_getElem?_getD]
  rw [List.getElem?_append_right (by simp; omega), List.length_take, show a - min i l.length = (a - 1 - i) + 1 from by omega, List.getElem?_cons_succ, List.getElem?_drop, show i + (a - 1 - i) = a - 1 from by omega]

theorem at_seg {f f' : Nat → Value} {s m o a : Nat} {y : S45} (h : AtH f (s + (a - o)) y) (h1 : o ≤ a) (h2 : a < o + m) : AtH (updL f' (o * 3) (seg f (s * 3) (m * 3))) a y := by
  constructor
  · rw [updL_in _ _ _ _ (by omega) (by rw [seg_len]; omega), seg_getD _ _ _ _ (by omega), show s * 3 + (a * 3 - o * 3) = (s + (a - o)) * 3 from by omega]; exact h.c0
  · rw [updL_in _ _ _ _ (by omega) (by rw [seg_len]; omega), seg_getD _ _ _ _ (by omega), show s * 3 + (a * 3 + 1 - o * 3) = (s + (a - o)) * 3 + 1 from by omega]; exact h.c1
  · rw [updL_in _ _ _ _ (by omega) (by rw [seg_len]; omega), seg_getD _ _ _ _ (by omega), show s * 3 + (a * 3 + 2 - o * 3) = (s + (a - o)) * 3 + 2 from by omega]; exact h.c2
theorem at_cells (f : Nat → Value) (i : Nat) (x : S45) : AtH (updL f (i * 3) (cellsH x)) i x := by
  constructor
  · rw [updL_in _ _ _ _ (by omega) (by simp [cellsH])]; simp [cellsH]
  · rw [updL_in _ _ _ _ (by omega) (by simp [cellsH])]; simp [cellsH]
  · rw [updL_in _ _ _ _ (by omega) (by simp [cellsH])]; simp [cellsH]

/-- In place: the elements from i on go up by one, then x is laid at i. -/
theorem ins_place {W : World} {base G cap : Nat} {f : Nat → Value} {l : List S45} {i : Nat} {x : S45} (hb : base ≤ G) (hi : i < l.length) (hc : l.length + 1 ≤ cap) (hm : cap ≤ maxLen)
    (h : Row W G 45 (cap * 3) (updL (updL f ((i + 1) * 3) (seg f (i * 3) ((l.length - i) * 3))) (i * 3) (cellsH x))) (hf : ∀ a, a < l.length → AtH f a (l.getD a z45)) :
    Kd.R k45 45 W base (fun _ => True) (.slice (some ⟨G, 0, none⟩) (l.length + 1) cap) (insH l i x) := by
  rw [← insH_len l i x (by omega)]
  refine row_own flatK (fun _ => trivial) hb (by rw [insH_len l i x (by omega)]; exact hc) hm h (atH_to fun a ha => ?_)
  rw [insH_len l i x (by omega)] at ha
  by_cases h1 : a < i
  · rw [insH_lt l i x (by omega) a h1]
    exact at_updL (at_updL (hf a (by omega)) (.inl (by omega))) (.inl (by omega))
  · by_cases h2 : a = i
    · subst h2
      rw [insH_eq l a x (by omega)]
      exact at_cells _ _ _
    · rw [insH_gt l i x (by omega) a (by omega)]
      refine at_updL (at_seg ?_ (by omega) (by omega)) (.inr (by simp [cellsH]; omega))
      rw [show i + (a - (i + 1)) = a - 1 from by omega]
      exact hf (a - 1) (by omega)
/-- In a new row. -/
theorem ins_new {W : World} {base G cap : Nat} {f f' : Nat → Value} {l : List S45} {i : Nat} {x : S45} (hb : base ≤ G) (hi : i < l.length) (hc : l.length + 1 ≤ cap) (hm : cap ≤ maxLen)
    (h : Row W G 45 (cap * 3) (updL (updL f' (i * 3) (cellsH x)) ((i + 1) * 3) (seg f (i * 3) ((l.length - i) * 3)))) (hf : ∀ a, a < l.length → AtH f a (l.getD a z45)) (hf' : ∀ j, j < i * 3 → f' j = f j) :
    Kd.R k45 45 W base (fun _ => True) (.slice (some ⟨G, 0, none⟩) (l.length + 1) cap) (insH l i x) := by
  rw [← insH_len l i x (by omega)]
  refine row_own flatK (fun _ => trivial) hb (by rw [insH_len l i x (by omega)]; exact hc) hm h (atH_to fun a ha => ?_)
  rw [insH_len l i x (by omega)] at ha
  by_cases h1 : a < i
  · rw [insH_lt l i x (by omega) a h1]
    refine at_updL (at_updL ?_ (.inl (by omega))) (.inl (by omega))
    have := hf a (by omega)
    exact ⟨by rw [hf' _ (by omega)]; exact this.c0, by rw [hf' _ (by omega)]; exact this.c1, by rw [hf' _ (by omega)]; exact this.c2⟩
  · by_cases h2 : a = i
    · subst h2
      rw [insH_eq l a x (by omega)]
      exact at_updL (at_cells _ _ _) (.inl (by omega))
    · rw [insH_gt l i x (by omega) a (by omega)]
      refine at_seg ?_ (by omega) (by omega)
      rw [show i + (a - (i + 1)) = a - 1 from by omega]
      exact hf (a - 1) (by omega)

theorem cellsH_one (x : S45) : ∀ v ∈ cellsH x, v.oneCell' = true := by
  intro u hu
  simp [cellsH] at hu
  rcases hu with rfl | rfl | rfl <;> rfl

set_option maxHeartbeats 2000000 in
/-- Behind the last one. -/
theorem insert_end (l : List S45) (v : Value) (x : S45) (vb : Nat) (w0 w : World) (hB : Below w0.heap.size w0 w) (HO : Kd.R k45 45 w w0.heap.size (fun _ => True) v l) (hx : w.heap[vb]? = some (.cells (cellsH x).toArray 45 (0, 0))) (hl : l.length + 1 ≤ 5864062014805) :
    Calls Try.prog 22 #[v, .int .i64 (l.length : Int), .slice (some ⟨vb, 0, none⟩) 1 1] w fun e w' => ∃ v1, e = .returned v1 ∧ Kd.R k45 45 w' w0.heap.size (fun _ => True) v1 (insH l l.length x) ∧ Below w0.heap.size w0 w' := by
  obtain ⟨A, c, hv, hlc, hC⟩ := Kd.R_reads HO
  have HH : Aside0 (∃ v1 w1, (Builtin.append_ #[28, 27] 28 #[v, .slice (some ⟨vb, 0, none⟩) 1 1]).run Try.prog w = .ok v1 w1 ∧ Kd.R k45 45 w1 w0.heap.size (fun _ => True) v1 (insH l l.length x) ∧ Below w0.heap.size w0 w1) := by
    refine ⟨?_⟩
    obtain ⟨i0, hi, hzz⟩ := Option.map_eq_some_iff.1 infoH
    simp only [Prod.mk.injEq] at hzz
    obtain ⟨hz0, hz1, hz2⟩ := hzz
    obtain ⟨hok, inner, hown, hr⟩ := HO
    obtain ⟨v1, w1, hrun, h2, hg, _, hat⟩ := run_append_own_at (P := Try.prog) w w0.heap.size 28 28 45 i0 _ 3 24 Try.underlying28 hi hz0 hz1 hz2 rfl (by omega) v l.length inner hown ⟨vb, 0, none⟩ 1 1 (cellsH x) rfl (fun j u hj => by rw [add_plain]; simp only [World.cell?, hx]; simpa using hj) (cellsH_one x) (by simp only [maxLen]; omega) (by omega) hB.size
    refine ⟨v1, w1, ?_, ⟨fun _ _ => trivial, inner ++ cellsH x, by rw [insH_len l l.length x (Nat.le_refl _)]; exact h2, ?_⟩, hB.grown hg hB.size (own_base hown)⟩
    · rw [hv]
      rw [append_tu Try.underlying28 Try.underlying27 hi, ← hv]
      exact hrun
    · have hins : insH l l.length x = l ++ [x] := by simp [insH]
      rw [hins]
      have h1 : Reps (k45.M w1 w0.heap.size (fun k => True ∧ some k ≠ v1.ownBlock)) 3 l inner := hr.imp_ (fun p c hp => by rw [k45_openM hp]; exact k45_mkM _ _ _ _)
      exact Reps.snoc h1 (k45_mkM _ _ _ x) rfl
  clear hC HO hB hx
  have HV := Aside0.mk hv
  subst hv
  have b0 : (l.length : Int) ≤ 5864062014805 := by omega
  have q0 : ((1 : Int) == 0) = false := rfl
  have q1 : ((l.length : Int) == (l.length : Int)) = true := by simp
  go_enter Try.func22, Try.ntmps22
  obtain ⟨v1, w1, hrun, hR, hBw⟩ := HH.out
  have HR1 := Aside0.mk hR
  have HB1 := Aside0.mk hBw
  clear hR hBw HH
  go_wp2_with (at_builtin; refine Lib.wpList_append_run _ rfl _ _ _ _ rfl _ _ rfl rfl _ _ hrun ?_)
  all_goals (go_ret; exact ⟨v1, rfl, HR1.out, HB1.out⟩)
end Go.Proofs.Ytjabikmofancfaa.H
