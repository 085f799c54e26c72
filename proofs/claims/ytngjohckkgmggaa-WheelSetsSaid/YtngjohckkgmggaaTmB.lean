/- wheel.order, and the search among timers: the lock's own text turned to timers. -/

import Derived.Test.YtngjohckkgmggaaTmA
import Derived.Test.YtngjohckkgmggaaP7
import Derived.Deep.RegionHeld3
import Derived.Deep.QuietTactic
import Derived.BigQuiet
namespace Go.Proofs.Ytngjohckkgmggaa.H
open Go.RowKit Go.Proofs.YtngjohckkgmggaaW.PrintWords Go.Proofs.YtngjohckkgmggaaW.PrintLast Go.Proofs.Ytngjohckkgmggaa.P
set_option linter.unusedVariables false
set_option linter.unusedSimpArgs false

def cmpI (a b : Int) : Int := if a < b then -1 else if a > b then 1 else 0
def orI (a b : Int) : Int := if a = 0 then b else a
def ordI (a b : S64) : Int := orI (cmpI a.f1 b.f1) (cmpI a.f0 b.f0)

theorem compare_i64 (a b : Int) : cmp_Compare_int64.f a b = some (cmpI a b) := by
  simp only [cmp_Compare_int64.f, cmp_isNaN_int64.f, Option.bind_some, cmpI, bne_self_eq_false]
  split <;> (try split) <;> simp_all <;> (try (split <;> rfl))
theorem compare_int (a b : Int) : cmp_Compare_int.f a b = some (cmpI a b) := by
  simp only [cmp_Compare_int.f, cmp_isNaN_int.f, Option.bind_some, cmpI, bne_self_eq_false]
  split <;> (try split) <;> simp_all <;> (try (split <;> rfl))
theorem or_two (a b : Int) (k : Nat) : cmp_Or_int.f (k + 3) [a, b] = some (orI a b) := by
  by_cases ha : a = 0 <;> by_cases hb : b = 0 <;> simp [cmp_Or_int.f, cmp_Or_int.l0, orI, rd, wrap64, ha, hb]
theorem order_is (a b : S64) (k : Nat) : wheel_order.f (k + 3) a.f0 a.f1 b.f0 b.f1 = some (ordI a b) := by
  simp only [wheel_order.f, compare_i64, compare_int, Option.bind_some, or_two, ordI]
theorem order_calls (a b : S64) (w : World) : Calls Try.prog 27 #[encH a, encH b] w fun e w' => e = .returned (.int .i64 (ordI a b)) ∧ Below w.heap.size w w' :=
  wheel_order.calls 3 _ _ _ _ _ w (order_is a b 0)

/-- The search for the first place at which q does not hold. -/
def bs (q : Int → Bool) : Nat → Int → Int → Int
  | 0, i, _ => i
  | f + 1, i, j => if i < j then (if q ((i + j) / 2) then bs q f ((i + j) / 2 + 1) j else bs q f i ((i + j) / 2)) else i

def lessH (l : List S64) (x : S64) (i : Int) : Bool := decide (ordI (rd_T64 l i) x < 0)

theorem bs_range (q : Int → Bool) (f : Nat) : ∀ i j, i ≤ j → i ≤ bs q f i j ∧ bs q f i j ≤ j := by
  induction f with
  | zero => intro i j h; exact ⟨Int.le_refl _, h⟩
  | succ f ih =>
    intro i j h
    unfold bs
    split
    · split
      · have := ih ((i + j) / 2 + 1) j (by omega); omega
      · have := ih i ((i + j) / 2) (by omega); omega
    · omega

set_option maxHeartbeats 2000000 in
theorem bsearch_calls (A : Option Addr) (c : Nat) (l : List S64) (x : S64) (w : World) (hr : Kd.C k64 w A l.length l) (hl : l.length ≤ 5864062014805) :
    Calls Try.prog 26 #[.slice A l.length c, encH x, .func (.func 27) #[] #[]] w fun e w' =>
      e = .returned (.tuple #[.int .i64 (bs (lessH l x) l.length 0 l.length), .bool (decide (bs (lessH l x) l.length 0 l.length < (l.length : Int)) && ordI (rd_T64 l (bs (lessH l x) l.length 0 l.length)) x == 0)]) ∧ Below w.heap.size w w' := by
  have hu := Try.underlying64
  have HR := Aside0.mk hr
  have HL := Aside0.mk hl
  clear hr
  obtain ⟨r, hrr⟩ : ∃ r, bs (lessH l x) l.length 0 l.length = r := ⟨_, rfl⟩
  have HRG := Aside0.mk (bs_range (lessH l x) l.length 0 l.length (by omega))
  rw [hrr] at HRG ⊢
  have H := Aside0.mk hrr
  clear hrr
  have HX : ∀ o, Aside0 (Below w.heap.size w (w.alloc o)) := fun o => ⟨below_alloc (Below.refl _ _) o⟩
  go_enter Try.func26, Try.ntmps26
  go_wp2
  go_loopg [9, 10, 11] l.length (fun gg s9 s10 _ wr => ∃ i j : Int, s9 = .int .i64 i ∧ s10 = .int .i64 j ∧ Aside0 (0 ≤ i ∧ i ≤ j ∧ j ≤ l.length ∧ j - i ≤ gg) ∧ Aside0 (Below (w.heap.size + 1) (w.alloc (.cells #[.int .i64 x.f0, .int .i64 x.f1] 64)) wr) ∧ Aside0 (bs (lessH l x) gg i j = r))
  case atStart => exact ⟨0, l.length, rfl, rfl, ⟨by omega, by omega, by omega, by omega⟩, ⟨by simpa using Below.refl _ _⟩, H⟩
  case round =>
    obtain ⟨i, j, rfl, rfl, HK, BW, HB⟩ := hrel
    have hh := HK.out
    by_cases hlt : i < j
    · obtain ⟨g', rfl⟩ : ∃ g', gk = g' + 1 := ⟨gk - 1, by omega⟩
      obtain ⟨h, hh2⟩ : ∃ h, h = (i + j) / 2 := ⟨_, rfl⟩
      have p0 : 0 ≤ h := by omega
      have p1 : h < (l.length : Int) := by omega
      have HH := Aside0.mk hh2
      have HLT := Aside0.mk hlt
      obtain ⟨ad, e0, h0, h1⟩ := at_T64 HR.out h p0 p1
      cases e0
      have k0 := World.block_lt_of_cell? w _ h0
      have k1 := World.block_lt_of_cell? w _ h1
      have CW := Aside0.mk (fun W (hb : Below (w.heap.size + 1) (w.alloc (.cells #[.int .i64 x.f0, .int .i64 x.f1] 64)) W) =>
        (show W.cell? (ad.add (h.toNat * 2)) = some (.int .i64 (rd_T64 l h).f0) ∧ W.cell? ⟨(ad.add (h.toNat * 2)).block, (ad.add (h.toNat * 2)).off + 1, none⟩ = some (.int .i64 (rd_T64 l h).f1) ∧
          W.cell? ⟨w.heap.size, 0, none⟩ = some (.int .i64 x.f0) ∧ W.cell? ⟨w.heap.size, 1, none⟩ = some (.int .i64 x.f1) from by
          have hw := (HX (.cells #[.int .i64 x.f0, .int .i64 x.f1] 64)).out
          refine ⟨(hb.cell (Nat.lt_succ_of_lt k0)).trans ((hw.cell k0).trans h0), (hb.cell (Nat.lt_succ_of_lt k1)).trans ((hw.cell k1).trans h1), (hb.cell (p := ⟨w.heap.size, 0, none⟩) (Nat.lt_succ_self _)).trans ?_, (hb.cell (p := ⟨w.heap.size, 1, none⟩) (Nat.lt_succ_self _)).trans ?_⟩ <;> go_simp))
      obtain ⟨g0, g1, g2, g3⟩ := CW.out _ BW.out
      clear h0 h1 k0 k1 hh
      have hlt' : decide (i < j) = true := decide_eq_true hlt
      go_wp2
      rw [← hh2]
      clear hh2
      have q0 : (0 ≤ h) = True := eq_true p0
      have q1 : (h < (l.length : Int)) = True := eq_true p1
      cases hc : lessH l x h with
      | true =>
        have hcc : decide (ordI (rd_T64 l h) x < 0) = true := hc
        have HCC := Aside0.mk hc
        clear hc
        go_region_held3 (fun w' => (w'.cell? (ad.add (h.toNat * 2)) = some (.int .i64 (rd_T64 l h).f0) ∧ w'.cell? ⟨(ad.add (h.toNat * 2)).block, (ad.add (h.toNat * 2)).off + 1, none⟩ = some (.int .i64 (rd_T64 l h).f1) ∧
            w'.cell? ⟨w.heap.size, 0, none⟩ = some (.int .i64 x.f0) ∧ w'.cell? ⟨w.heap.size, 1, none⟩ = some (.int .i64 x.f1)) ∧ Below (w.heap.size + 1) (w.alloc (.cells #[.int .i64 x.f0, .int .i64 x.f1] 64)) w')
          (first | exact ⟨CW.out _ (below_drew BW.out), below_drew BW.out⟩ | exact ⟨CW.out _ (below_box (below_drew BW.out) hb), below_box (below_drew BW.out) hb⟩)
          (first | (go_at_call 27; refine (order_calls _ _ _).mono ?_; rintro e w'' ⟨rfl, hb⟩))
        go_wp2
        go_roundg g'
        case measure => omega
        case rel => exact ⟨h + 1, j, rfl, rfl, ⟨by have := HH.out; have := HLT.out; have := HK.out; omega⟩, ⟨below_box (below_drew BW.out) hb⟩, ⟨by have h2 := HB.out; unfold bs at h2; rw [if_pos HLT.out, ← HH.out, if_pos HCC.out] at h2; exact h2⟩⟩
      | false =>
        have hcc : decide (ordI (rd_T64 l h) x < 0) = false := hc
        have HCC := Aside0.mk hc
        clear hc
        go_region_held3 (fun w' => (w'.cell? (ad.add (h.toNat * 2)) = some (.int .i64 (rd_T64 l h).f0) ∧ w'.cell? ⟨(ad.add (h.toNat * 2)).block, (ad.add (h.toNat * 2)).off + 1, none⟩ = some (.int .i64 (rd_T64 l h).f1) ∧
            w'.cell? ⟨w.heap.size, 0, none⟩ = some (.int .i64 x.f0) ∧ w'.cell? ⟨w.heap.size, 1, none⟩ = some (.int .i64 x.f1)) ∧ Below (w.heap.size + 1) (w.alloc (.cells #[.int .i64 x.f0, .int .i64 x.f1] 64)) w')
          (first | exact ⟨CW.out _ (below_drew BW.out), below_drew BW.out⟩ | exact ⟨CW.out _ (below_box (below_drew BW.out) hb), below_box (below_drew BW.out) hb⟩)
          (first | (go_at_call 27; refine (order_calls _ _ _).mono ?_; rintro e w'' ⟨rfl, hb⟩))
        go_wp2
        go_roundg g'
        case measure => omega
        case rel => exact ⟨i, h, rfl, rfl, ⟨by have := HH.out; have := HLT.out; have := HK.out; omega⟩, ⟨below_box (below_drew BW.out) hb⟩, ⟨by have h2 := HB.out; unfold bs at h2; rw [if_pos HLT.out, ← HH.out, if_neg (by rw [HCC.out]; simp)] at h2; exact h2⟩⟩
    · have hij : i = r := by
        have h2 := HB.out
        cases gk with
        | zero => exact h2
        | succ g' => unfold bs at h2; rw [if_neg hlt] at h2; exact h2
      have HLT := Aside0.mk hlt
      subst hij
      have hlt' : decide (i < j) = false := decide_eq_false hlt
      clear hlt hh
      go_wp2
      by_cases hin : i < (l.length : Int)
      · have p0 : 0 ≤ i := HRG.out.1
        have p1 := hin
        obtain ⟨ad, e0, h0, h1⟩ := at_T64 HR.out i p0 p1
        cases e0
        have k0 := World.block_lt_of_cell? w _ h0
        have k1 := World.block_lt_of_cell? w _ h1
        have CW := Aside0.mk (fun W (hb : Below (w.heap.size + 1) (w.alloc (.cells #[.int .i64 x.f0, .int .i64 x.f1] 64)) W) =>
          (show W.cell? (ad.add (i.toNat * 2)) = some (.int .i64 (rd_T64 l i).f0) ∧ W.cell? ⟨(ad.add (i.toNat * 2)).block, (ad.add (i.toNat * 2)).off + 1, none⟩ = some (.int .i64 (rd_T64 l i).f1) ∧
            W.cell? ⟨w.heap.size, 0, none⟩ = some (.int .i64 x.f0) ∧ W.cell? ⟨w.heap.size, 1, none⟩ = some (.int .i64 x.f1) from by
            have hw := (HX (.cells #[.int .i64 x.f0, .int .i64 x.f1] 64)).out
            refine ⟨(hb.cell (Nat.lt_succ_of_lt k0)).trans ((hw.cell k0).trans h0), (hb.cell (Nat.lt_succ_of_lt k1)).trans ((hw.cell k1).trans h1), (hb.cell (p := ⟨w.heap.size, 0, none⟩) (Nat.lt_succ_self _)).trans ?_, (hb.cell (p := ⟨w.heap.size, 1, none⟩) (Nat.lt_succ_self _)).trans ?_⟩ <;> go_simp))
        obtain ⟨g0, g1, g2, g3⟩ := CW.out _ BW.out
        clear h0 h1 k0 k1
        have q0 : (0 ≤ i) = True := eq_true p0
        have q1 : (i < (l.length : Int)) = True := eq_true p1
        have q2 : decide (i < (l.length : Int)) = true := decide_eq_true hin
        go_region_held3 (fun w' => (w'.cell? (ad.add (i.toNat * 2)) = some (.int .i64 (rd_T64 l i).f0) ∧ w'.cell? ⟨(ad.add (i.toNat * 2)).block, (ad.add (i.toNat * 2)).off + 1, none⟩ = some (.int .i64 (rd_T64 l i).f1) ∧
            w'.cell? ⟨w.heap.size, 0, none⟩ = some (.int .i64 x.f0) ∧ w'.cell? ⟨w.heap.size, 1, none⟩ = some (.int .i64 x.f1)) ∧ Below (w.heap.size + 1) (w.alloc (.cells #[.int .i64 x.f0, .int .i64 x.f1] 64)) w')
          (first | exact ⟨CW.out _ (below_drew BW.out), below_drew BW.out⟩ | exact ⟨CW.out _ (below_box (below_drew BW.out) hb), below_box (below_drew BW.out) hb⟩)
          (first | (go_at_call 27; refine (order_calls _ _ _).mono ?_; rintro e w'' ⟨rfl, hb⟩))
        go_wp2
        go_ret2
        exact ⟨by simp [q2], below_unbox (below_box (below_drew BW.out) hb)⟩
      · have q2 : decide (i < (l.length : Int)) = false := decide_eq_false hin
        go_quiet (fail)
        go_wp2
        go_ret2
        exact ⟨by simp [q2], below_unbox (pw_below_drewN BW.out _)⟩
end Go.Proofs.Ytngjohckkgmggaa.H
