
import Derived.Test.YtjabikmofancfaaLkF
namespace Go.Proofs.Ytjabikmofancfaa.H
open Go.RowKit Go.Proofs.YtjabikmofancfaaW.PrintWords Go.Proofs.YtjabikmofancfaaW.PrintLast Go.Proofs.Ytjabikmofancfaa.P
set_option linter.unusedVariables false
set_option linter.unusedSimpArgs false

def keep (p : S45 → Bool) (l : List S45) : List S45 := l.filter (fun x => !p x)
theorem keep_snoc (p : S45 → Bool) (l : List S45) (j : Nat) (hj : j < l.length) : keep p (l.take (j + 1)) = if p (l.getD j z45) then keep p (l.take j) else keep p (l.take j) ++ [l.getD j z45] := by
  unfold keep
  rw [List.take_add_one, List.filter_append, List.getElem?_eq_getElem hj, show l.getD j z45 = l[j] from by rw [List.getD_eq_getElem?_getD, List.getElem?_eq_getElem hj]; rfl]
  cases h : p l[j] <;> simp [h]
theorem keep_len (p : S45 → Bool) (l : List S45) : (keep p l).length ≤ l.length := List.length_filter_le _ _

/-- What stands in the row after j elements. -/
structure Mid (p : S45 → Bool) (l : List S45) (G cap : Nat) (i j : Nat) (f : Nat → Value) (W : World) : Prop where
  row : Row W G 45 (cap * 3) f
  len : (keep p (l.take j)).length = i
  old : ∀ a, j ≤ a → a < l.length → AtH f a (l.getD a z45)
  new : ∀ a, a < i → AtH f a ((keep p (l.take j)).getD a z45)
theorem Mid.move {p : S45 → Bool} {l : List S45} {G cap i j : Nat} {f : Nat → Value} {W W' : World} (h : Mid p l G cap i j f W) (hb : Below W.heap.size W W') : Mid p l G cap i j f W' := ⟨h.row.below hb, h.len, h.old, h.new⟩
theorem Mid.drop {p : S45 → Bool} {l : List S45} {G cap i j : Nat} {f : Nat → Value} {W : World} (h : Mid p l G cap i j f W) (hj : j < l.length) (hp : p (l.getD j z45) = true) : Mid p l G cap i (j + 1) f W := by
  have e : keep p (l.take (j + 1)) = keep p (l.take j) := by rw [keep_snoc p l j hj, if_pos hp]
  exact ⟨h.row, by rw [e]; exact h.len, fun a h1 h2 => h.old a (by omega) h2, fun a ha => by rw [e]; exact h.new a ha⟩
theorem Mid.keep {p : S45 → Bool} {l : List S45} {G cap i j : Nat} {f : Nat → Value} {W : World} (h : Mid p l G cap i j f W) (hij : i < j) (hj : j < l.length) (hc : l.length ≤ cap) (hp : p (l.getD j z45) = false) :
    Mid p l G cap (i + 1) (j + 1) (put3 f i (l.getD j z45)) (((W.setCell ⟨G, i * 3, none⟩ (.int .u8 (l.getD j z45).f0)).setCell ⟨G, i * 3 + 1, none⟩ (.int .i64 (l.getD j z45).f1)).setCell ⟨G, i * 3 + 2, none⟩ (.bool (l.getD j z45).f2)) := by
  have e : H.keep p (l.take (j + 1)) = H.keep p (l.take j) ++ [l.getD j z45] := by rw [keep_snoc p l j hj, if_neg (by rw [hp]; simp)]
  refine ⟨row_put3 h.row i (by omega) _, by rw [e, List.length_append, h.len]; rfl, fun a h1 h2 => at_put_other (h.old a (by omega) h2) (by omega), fun a ha => ?_⟩
  rw [e]
  by_cases hai : a = i
  · subst hai
    rw [show (H.keep p (l.take j) ++ [l.getD j z45]).getD a z45 = l.getD j z45 from by rw [List.getD_eq_getElem?_getD, List.getElem?_append_right (by rw [h.len]; omega), h.len]; simp]
    exact at_put_same _ _ _
  · rw [show (H.keep p (l.take j) ++ [l.getD j z45]).getD a z45 = (H.keep p (l.take j)).getD a z45 from by rw [List.getD_eq_getElem?_getD, List.getElem?_append_left (by rw [h.len]; omega), ← List.getD_eq_getElem?_getD]]
    exact at_put_other (h.new a (by omega)) hai

theorem zeroH : ∀ w, (zeroValue 45).run Try.prog w = .ok (.agg #[.int .u8 0, .int .i64 0, .bool false]) w := fun w => by kernel_rfl
theorem oneH : ∀ u ∈ (Value.agg #[.int .u8 0, .int .i64 0, .bool false]).cells, u.oneCell' = true := by
  intro u hu
  simp [Value.cells] at hu
  rcases hu with rfl | rfl | rfl <;> rfl

set_option maxHeartbeats 4000000 in
theorem deleteFunc (p : S45 → Bool) (g : Nat) (lb : Array Value) (eg : ∀ args w, (callFunc g args).run Try.prog w = .ok (.enter g args) w) (l : List S45) (v : Value) (w0 w : World)
    (hB : Below w0.heap.size w0 w) (hp : PredH g lb p w0) (HO : Kd.R k45 45 w w0.heap.size (fun _ => True) v l) (hl : l.length ≤ 5864062014805) :
    Calls Try.prog 25 #[v, .func (.func g) #[] lb] w fun e w' => ∃ v', e = .returned v' ∧ Kd.R k45 45 w' w0.heap.size (fun _ => True) v' (keep p l) ∧ Below w0.heap.size w0 w' := by
  have hu := Try.underlying45
  have HP := Aside0.mk hp
  have HB := Aside0.mk hB
  have HL := Aside0.mk hl
  obtain ⟨A, c, hv, hlc, hC⟩ := Kd.R_reads HO
  have HI := Aside0.mk (indexFunc p g lb eg A c l w hC (fun W x hb => hp W x (below_then hB hB.size hb)))
  have HR := Aside0.mk HO
  rcases idx_facts p l with ⟨hi, hk⟩ | ⟨k, hk, hi, hkk⟩
  · subst hv
    rw [hi] at HI
    have HK : Aside0 (keep p l = l) := ⟨hk⟩
    clear hp hB hl HO hlc hC hi hk
    go_enter Try.func25, Try.ntmps25
    go_wp2_with (go_at_call 23; refine HI.out.mono ?_; rintro e w1 ⟨rfl, hb1⟩; have HB1 := Aside0.mk hb1; clear hb1)
    go_ret
    exact ⟨_, rfl, by rw [HK.out]; exact Kd.R_below HR.out HB1.out, below_then HB.out HB.out.size HB1.out⟩
  · rcases own_row flatK HO with ⟨_, rfl⟩ | ⟨G, cap, f, hv2, hG, hcap, hmax, hrow, hf⟩
    · simp at hk
    · rw [hv2] at hv
      injection hv with h1 h2 h3
      subst h1 h3 hv2
      rw [hi] at HI
      have HM : Aside0 (Mid p l G cap k (k + 1) f w) := ⟨⟨hrow, by show (List.filter _ _).length = k; rw [hkk, List.length_take]; omega, fun a _ ha => atH_of hf a ha, fun a ha => by
        show AtH f a ((List.filter _ _).getD a _)
        rw [hkk, show (l.take k).getD a z45 = l.getD a z45 from by rw [List.getD_eq_getElem?_getD, List.getElem?_take, if_pos ha, ← List.getD_eq_getElem?_getD]]
        exact atH_of hf a (by omega)⟩⟩
      have HG := Aside0.mk hG
      have HC := Aside0.mk (show l.length ≤ cap ∧ cap ≤ maxLen ∧ k < l.length from ⟨hcap, hmax, hk⟩)
      clear hp hB hl HO hlc hC hi hkk hrow hf hG hcap hmax hk
      obtain ⟨kk, hkk⟩ : ∃ kk : Int, kk = (k : Int) := ⟨_, rfl⟩
      rw [← hkk] at HI
      have q0 : (kk == -1) = false := by rw [beq_eq_false_iff_ne]; omega
      have b0 : 0 ≤ kk := by omega
      have b1 : kk ≤ 5864062014805 := by have := HC.out; have := HL.out; omega
      have HKK := Aside0.mk hkk
      clear hkk
      go_enter Try.func25, Try.ntmps25
      go_wp2_with (go_at_call 23; refine HI.out.mono ?_; rintro e w1 ⟨rfl, hb1⟩; have HM1 := Aside0.mk (HM.out.move hb1); have HB1 := Aside0.mk (below_then HB.out HB.out.size hb1); clear hb1)
      go_loopg [5, 6, 7] l.length (fun gg s5 s6 _ wr => ∃ (i j : Int) (f : Nat → Value), s5 = .int .i64 i ∧ s6 = .int .i64 j ∧ Aside0 (0 ≤ i ∧ i < j ∧ j ≤ l.length ∧ l.length - j.toNat ≤ gg) ∧ Aside0 (Below w0.heap.size w0 wr) ∧ Aside0 (Mid p l G cap i.toNat j.toNat f wr))
      case atStart => exact ⟨kk, kk + 1, f, rfl, rfl, ⟨by have := HKK.out; have := HC.out; omega⟩, HB1, ⟨by have e := HKK.out; rw [show kk.toNat = k from by omega, show (kk + 1).toNat = k + 1 from by omega]; exact HM1.out⟩⟩
      case round =>
        clear HM HM1 HI HB1
        obtain ⟨i, j, f, rfl, rfl, HK, BW, HM⟩ := hrel
        have i0 : 0 ≤ i := HK.out.1
        have j0 : 0 ≤ j := by have := HK.out; omega
        have i1 : i ≤ 5864062014805 := by have := HK.out; have := HL.out; omega
        have j1 : j ≤ 5864062014805 := by have := HK.out; have := HL.out; omega
        by_cases hlt : j < (l.length : Int)
        · have hj : j.toNat < l.length := by omega
          have hA := HM.out.old j.toNat (Nat.le_refl _) hj
          have hb := (Nat.lt_of_lt_of_le (show j.toNat * 3 + 2 < l.length * 3 by omega) (Nat.mul_le_mul_right 3 HC.out.1))
          have h0 : wr.cell? ⟨G, j.toNat * 3, none⟩ = some (.int .u8 (l.getD j.toNat z45).f0) := by rw [HM.out.row.cell (by omega), hA.c0]
          have h1 : wr.cell? ⟨G, j.toNat * 3 + 1, none⟩ = some (.int .i64 (l.getD j.toNat z45).f1) := by rw [HM.out.row.cell (by omega), hA.c1]
          have h2 : wr.cell? ⟨G, j.toNat * 3 + 2, none⟩ = some (.bool (l.getD j.toNat z45).f2) := by rw [HM.out.row.cell (by omega), hA.c2]
          have HLT := Aside0.mk hlt
          have HKP := Aside0.mk (fun W (h : Mid p l G cap i.toNat j.toNat f W) hp => h.keep (by have := HK.out; omega) hj HC.out.1 hp)
          have HDR := Aside0.mk (fun W (h : Mid p l G cap i.toNat j.toNat f W) hp => h.drop hj hp)
          have HBI := Aside0.mk (show i.toNat * 3 + 2 < cap * 3 from by have := HK.out; omega)
          have i2 : i < (l.length : Int) := by have := HK.out; omega
          have cb : decide (j < (l.length : Int)) = true := decide_eq_true hlt
          have q1 : (j < (l.length : Int)) = True := eq_true hlt
          clear hA hb hj
          have HQ : ∀ W, Below w0.heap.size w0 W → Aside0 (Calls Try.prog g (#[encH (l.getD j.toNat z45)] ++ lb) W fun e w' => e = .returned (.bool (p (l.getD j.toNat z45))) ∧ Below W.heap.size W w') := fun W hb => ⟨HP.out W _ hb⟩
          have HQ' := Aside0.mk HQ
          clear HQ
          generalize hy : l.getD j.toNat z45 = y at h0 h1 h2 HKP HDR HQ'
          have HY := Aside0.mk hy
          clear hy hlt
          cases hp : p y with
          | true =>
            have HPY := Aside0.mk hp
            rw [hp] at HQ'
            clear hp
            go_wp2_with (go_at_fn g; refine (HQ'.out _ (below_then BW.out BW.out.size (by repeat (first | exact Below.refl _ _ | apply below_alloc)))).out.mono ?_; rintro e w2 ⟨rfl, hb2⟩; have HB2 := Aside0.mk hb2; clear hb2)
            go_roundg (l.length - (j.toNat + 1))
            case measure => have := HK.out; have := HLT.out; omega
            case rel =>
              have hbw : Below wr.heap.size wr w2 := bt (by repeat (first | exact Below.refl _ _ | apply below_alloc)) HB2.out
              exact ⟨i, j + 1, f, rfl, rfl, ⟨by have := HK.out; have := HLT.out; omega⟩, ⟨below_then BW.out BW.out.size hbw⟩, ⟨by rw [show (j + 1).toNat = j.toNat + 1 from by omega]; exact HDR.out w2 (HM.out.move hbw) HPY.out⟩⟩
          | false =>
            have HPY := Aside0.mk hp
            rw [hp] at HQ'
            clear hp
            go_wp2_with (go_at_fn g; refine (HQ'.out _ (below_then BW.out BW.out.size (by repeat (first | exact Below.refl _ _ | apply below_alloc)))).out.mono ?_; rintro e w2 ⟨rfl, hb2⟩; have hbw : Below wr.heap.size wr w2 := bt (by repeat (first | exact Below.refl _ _ | apply below_alloc)) hb2; have HM2 := Aside0.mk (HM.out.move hbw); have BW2 := Aside0.mk (below_then BW.out BW.out.size hbw); have r0 : w2.cell? ⟨G, i.toNat * 3, none⟩ = some (f (i.toNat * 3)) := HM2.out.row.cell (by have := HBI.out; omega); have r1 : w2.cell? ⟨G, i.toNat * 3 + 1, none⟩ = some (f (i.toNat * 3 + 1)) := HM2.out.row.cell (by have := HBI.out; omega); have r2 : w2.cell? ⟨G, i.toNat * 3 + 2, none⟩ = some (f (i.toNat * 3 + 2)) := HM2.out.row.cell (by have := HBI.out; omega); have z0 := HM2.out.row.free (i.toNat * 3); have z1 := HM2.out.row.free (i.toNat * 3 + 1); have z2 := HM2.out.row.free (i.toNat * 3 + 2); have d0 : w2.cell? ⟨wr.heap.size, 0, none⟩ = some (.int .u8 y.f0) := (hb2.cell (p := ⟨wr.heap.size, 0, none⟩) (by simp)).trans (by go_simp); have d1 : w2.cell? ⟨wr.heap.size, 1, none⟩ = some (.int .i64 y.f1) := (hb2.cell (p := ⟨wr.heap.size, 1, none⟩) (by simp)).trans (by go_simp); have d2 : w2.cell? ⟨wr.heap.size, 2, none⟩ = some (.bool y.f2) := (hb2.cell (p := ⟨wr.heap.size, 2, none⟩) (by simp)).trans (by go_simp); clear hb2 hbw)
            go_roundg (l.length - (j.toNat + 1))
            case measure => have := HK.out; have := HLT.out; omega
            case rel =>
              exact ⟨i + 1, j + 1, _, rfl, rfl, ⟨by have := HK.out; have := HLT.out; omega⟩, ⟨below_put BW2.out HG.out _ _ _ _ _ _⟩, ⟨by rw [show (i + 1).toNat = i.toNat + 1 from by omega, show (j + 1).toNat = j.toNat + 1 from by omega]; exact HKP.out w2 HM2.out HPY.out⟩⟩
        · have cb : decide (j < (l.length : Int)) = false := decide_eq_false hlt
          have hjl : j.toNat = l.length := by have := HK.out; omega
          have i2 : i < (l.length : Int) := by have := HK.out; omega
          have hne : ¬ cap = i.toNat := by have := HC.out.1; omega
          have i3 : i.toNat ≤ cap := by have := HC.out.1; omega
          obtain ⟨cur, hrun, vs, hvs, hrow⟩ := HM.out.row.clear (P := Try.prog) (k := 3) (t := 28) 0 (.agg #[.int .u8 0, .int .i64 0, .bool false]) Try.underlying28 zeroH rfl oneH (i.toNat * 3) (l.length - i.toNat) (cap - i.toNat) (by have := HC.out.1; omega)
          have HFIN : Aside0 (Kd.R k45 45 (wr.setRow G cur) w0.heap.size (fun _ => True) (.slice (some ⟨G, 0, none⟩) (keep p l).length cap) (keep p l) ∧ (keep p l).length = i.toNat) := by
            have e : l.take j.toNat = l := by rw [hjl, List.take_length]
            have hlen := HM.out.len
            rw [e] at hlen
            refine ⟨⟨row_own flatK (fun _ => trivial) HG.out (by rw [hlen]; exact i3) HC.out.2.1 hrow (atH_to fun a ha => ?_), hlen⟩⟩
            have hn := HM.out.new a (by omega)
            rw [e] at hn
            exact at_updL hn (.inl (by omega))
          have HBF := Aside0.mk (below_set_row BW.out HG.out cur)
          have HIT := Aside0.mk (show i = ((keep p l).length : Int) from by rw [HFIN.out.2]; omega)
          clear hrow hvs hlt hjl HM
          go_wp2
          go_ret
          exact ⟨.slice (some ⟨G, 0, none⟩) (keep p l).length cap, by rw [HFIN.out.2]; rfl, HFIN.out.1, HBF.out⟩
end Go.Proofs.Ytjabikmofancfaa.H
